/- Part 5 of the proof of the law TopOrders: texts merged. No condition. -/
import Derived.Test.YteddogfolceahaaGreatDoorZTopOrdersD
import Derived.MapKept
import Derived.Laws.IdiomCopy
set_option linter.unusedSimpArgs false
set_option linter.unusedVariables false
section
set_option maxRecDepth 4000
namespace Go.Gh
open Go.RowKit

def pmeth (P:Program)(T:TypeId)(name:String)(f:FuncId):Bool :=
 match P.info? T with
 |some i=>match i.methods.find? (·.name == name)with
  |some m=>m.path.toList.isEmpty && (match m.func with|some (g,b)=>g == f && b|none=>false) && (match P.underlying T with|some (.pointer _)=>true|_=>false)
  |none=>false
 |none=>false
theorem run_pmeth {P:Program}{T:TypeId}{name:String}{f:FuncId}(h:pmeth P T name f=true){n:Nat}(hn:0<n)(v:Value)(w:World):(Go.method n T v name).run P w=.ok (f,v) w:=by
 obtain⟨k,rfl⟩:∃k,n=k+1:=⟨n-1,by omega⟩
 unfold pmeth at h
 cases hi:P.info? T with
 |none=>rw[hi]at h;cases h
 |some i =>
  rw[hi]at h
  dsimp only at h
  cases hm:i.methods.find? (·.name == name)with
  |none=>rw[hm]at h;cases h
  |some m =>
   rw[hm]at h
   dsimp only at h
   simp only[Bool.and_eq_true]at h
   obtain⟨⟨h1,h2⟩,h3⟩:=h
   have hp:m.path.toList=[]:=by simpa using h1
   cases hf:m.func with
   |none=>rw[hf]at h2;cases h2
   |some gb =>
    obtain⟨g,b⟩:=gb
    rw[hf]at h2
    simp only[Bool.and_eq_true,beq_iff_eq]at h2
    obtain⟨rfl,rfl⟩:=h2
    cases hu:P.underlying T with
    |none=>rw[hu]at h3;cases h3
    |some d =>
     rw[hu]at h3
     cases d <;> first|cases h3|skip
     simp[Go.method,typeInfo,hi,hm,hp,hf,Go.follow,Go.receiverAt,run_underlying hu,Go.Place.get]
theorem VRel.one {φ:Nat→Loc}{L:Lens}{v u:Value}(h:Val φ L v u):VRel φ L [v] #[u] :=
 ⟨rfl,fun i w hi=>by
  cases i with
  |zero=>simp only[List.getElem?_cons_zero,Option.some.injEq]at hi;subst hi;exact⟨u,rfl,h⟩
  |succ i=>simp at hi⟩
section
variable {P:Program} {N:Fr} {ops:Array Oper} {Q:Post} {rest:List Oper} {o:Oper} {a:AF} {H:Heap}
theorem a_invoke (x:Operand)(name:String)(xs:List Operand)(ts:Array TypeId){T:TypeId}{v:Value}{f:FuncId}{as0:List Value}{R:Value→Heap→Prop}
  (ho:o.op=.call { callee:=.invoke x name,args:=xs.toArray,argTypes:=ts }) (hx:ev a x=some (.iface T v)) (hxs:evs a xs=some as0)
  (hm:pmeth P T name f=true) (hf:enters P f=true) (hN:dstLt o N=true) (hr:Run P f ([v]++as0) H R)
  (k:∀r H',R r H'→AOps P N ops Q rest (put a o.dst r) H'):AOp P N o ops rest Q a H:=by
 refine aop_enter hN ?_ hr k
 intro φ ac hfr
 have h1:=zW hfr hx
 have h2:=evs_rel hfr hxs
 generalize hu:ac.eval x=u at h1
 cases h1 with
 |iface _ _ v' hv =>
  refine⟨_,(VRel.one hv).append h2,fun w=>?_⟩
  unfold execOp
  have hz:(#[Value.iface T v']++(List.map ac.eval xs).toArray).extract 1 (#[Value.iface T v']++(List.map ac.eval xs).toArray).size=(List.map ac.eval xs).toArray:=by
   apply Array.ext'
   simp[List.take_of_length_le]
  have h0:(#[Value.iface T v']++(List.map ac.eval xs).toArray)[0]?=some (Value.iface T v'):=by simp
  simp only[ho,resolve,List.map_toArray,hu,Sem.run_bind,Sem.run_pure,Result.andThen_ok,invoke,hz]
  rw[h0]
  simp only[callMethod,Sem.run_bind,program,Sem.run,Sem.run_pure,Result.andThen_ok,run_pmeth hm (Nat.lt_of_lt_of_le (by decide:0<Made.depth) (Nat.le_add_left _ _))]
  exact run_callFunc_enters hf _ w
theorem a_s2a (T:TypeId)(x:Operand){A off v len fl n E:Nat}(ho:o.op=.sliceToArrayPointer T x)(hx:ev a x=some (.slice (some ⟨A,off,some v⟩) len fl))(hT:P.underlying T=some (.array n E))(hn:n≤len):APure P N o a H (.pointer (some ⟨A,off,some v⟩)):=by
 refine⟨fun _ _ φ w ac _ hf=>?_⟩
 have h1:=zW hf hx
 generalize hu:ac.eval x=u at h1
 cases h1 with
 |slc _ _ _ m _ _ cap c hL hv hc hm h =>
  refine⟨.pointer (some c),.ptr _ _ _ m _ hL hv (fun e=>⟨(h e).1,(h e).2.2⟩),fun w _=>?_⟩
  unfold execOp
  simp[ho,hu,Instr.arrayAt,run_underlying hT,Nat.not_lt.2 hn]
end
section
variable {P:Program} {sz:Nat} {ops:Array Oper} {Q:SPost} {rest:List Oper} {a:AF} {h:SH} {m:Mode} {t:Nat} {ty:TypeId} {pos:String} {aft:Array Edge}
theorem o_invoke {x:Operand}{name:String}{xs:List Operand}{ts:Array TypeId}{T:TypeId}{v:Value}{f:FuncId}{as0:List Value}{R:Value→SH→Prop}(hx:ev a x=some (.iface T v))(hxs:evs a xs=some as0)
  (hN:Nat.blt t sz=true) (hrt:∃h1,SRun P f ([v]++as0) h1 R∧Take h h1) (hm:pmeth P T name f=true) (hf:enters P f=true) (k:∀r q,R r q→GO .seq P sz ops Q rest ((t,r)::a) q) :
  GO .seq P sz ops Q (⟨some t,.call { callee:=.invoke x name,args:=xs.toArray,argTypes:=ts },ty,pos,aft,none⟩::rest) a h:=by
 obtain⟨_,hr,ht⟩:=hrt
 unfold SRun at hr
 unfold GO at k ⊢
 exact fun E H n0 i=>aops_plain rfl (a_invoke x name xs ts rfl hx hxs hm hf hN (hr H (i.le ht.le).refl) fun r H' ⟨q,hq,i'⟩=>k r q hq E H' n0 ((i.le ht.le).comp i'))
theorem o_s2a {T:Nat}{x:Operand}{A off v len fl n E:Nat}(hx:ev a x=some (.slice (some ⟨A,off,some v⟩) len fl))(hT:P.underlying T=some (.array n E))(hn:Sd (n≤len))(hN:Nat.blt t sz=true)(k:GO m.next P sz ops Q rest ((t,.pointer (some ⟨A,off,some v⟩))::a) h) :
  GO m P sz ops Q (⟨some t,.sliceToArrayPointer T x,ty,pos,aft,none⟩::rest) a h:=o_pure (fun _ _ _ hag=>a_s2a T x rfl ((hag.ev (by simp[Op.operands,Call.operands])).trans hx) hT hn.h) hN k
end
end Go.Gh
end
section
set_option maxRecDepth 4000
namespace Go.Proofs.YteddogfolceahaaGreatDoor
open Go.Gh Go.RowKit

theorem mclamp_any (z:Int)(h:SH):SRun Tryz.prog 211 [I z] h fun r q=>r=I (clp z)∧q=h:=by
 refine zR Tryz.func211 rfl rfl ?_
 repeat'(first|apply zF|apply zB|apply zE|refine jg ?_ ?_|(apply o_min;iterate 3 exact rfl)|(apply o_max;iterate 3 exact rfl)|apply zA|apply zN|exact jS|fail)
 exact jG
def adp (z b:Int):Int:=if b=0 then clp z+(2048-clp z)/32 else clp z-clp z/32
theorem Adapt_any (z b:Int)(h:SH):SRun Tryz.prog 171 [I z,I b] h fun r q=>r=I (adp z b)∧q=h:=by
 have hz:=clp_in z
 unfold adp
 refine zY Tryz.func171 rfl rfl ?_
 repeat'(first|apply zF|apply zB|apply zE|refine jg ?_ ?_|(apply o_ar zC;exact rfl;exact rfl)|refine jq ?_ (c:=by exact⟨_,mclamp_any _ _,jN⟩)|(apply w_if;exact rfl;all_goals intro hc)|apply zA|apply zP|apply zI|apply zN|exact jO|((with_reducible apply Wr.mk);first|exact w_quoI (by omega) (by omega)|exact IntWalk.i64_in _ (by omega)))
 all_goals first
  |(rw[if_pos (by assumption)];exact jG)
  |(rw[if_neg (by assumption)];exact jG)
end Go.Proofs.YteddogfolceahaaGreatDoor
end
section
set_option maxRecDepth 4000
namespace Go.Gh
open Go.RowKit

inductive VR (ρ:Nat→Nat)(D:Nat→Prop):Value→Value→Prop
 |const {v} (h:yJ v=true):VR ρ D v v
 |ptr {A o n} (h:D A):VR ρ D (.pointer (some ⟨A,o,some n⟩)) (.pointer (some ⟨ρ A,o,some n⟩))
 |slc {A o n len fl} (h:D A):VR ρ D (.slice (some ⟨A,o,some n⟩) len fl) (.slice (some ⟨ρ A,o,some n⟩) len fl)
 |sdead:VR ρ D (.slice (some ⟨0,0,none⟩) 0 0) (.slice (some ⟨0,0,none⟩) 0 0)
 |agg {a b:Array Value} (h1:a.size=b.size) (h2:∀i (h:i<a.size) (h':i<b.size),VR ρ D a[i] b[i]):VR ρ D (.agg a) (.agg b)
 |tuple {a b:Array Value} (h1:a.size=b.size) (h2:∀i (h:i<a.size) (h':i<b.size),VR ρ D a[i] b[i]):VR ρ D (.tuple a) (.tuple b)
 |func {f:Fn} {a b c d:Array Value} (h1:a.size=b.size) (h2:∀i (h:i<a.size) (h':i<b.size),VR ρ D a[i] b[i])
   (h3:c.size=d.size) (h4:∀i (h:i<c.size) (h':i<d.size),VR ρ D c[i] d[i]):VR ρ D (.func f a c) (.func f b d)
inductive VRs (ρ:Nat→Nat)(D:Nat→Prop):List Value→List Value→Prop
 |nil:VRs ρ D [] []
 |cons {u v l m} (h:VR ρ D u v) (k:VRs ρ D l m):VRs ρ D (u::l) (v::m)
theorem VRs.len {ρ:Nat→Nat}{D:Nat→Prop}{l m:List Value}(h:VRs ρ D l m):l.length=m.length:=by
 induction h with
 |nil=>rfl
 |cons _ _ ih=>simp[ih]
theorem VRs.get {ρ:Nat→Nat}{D:Nat→Prop}{l m:List Value}(h:VRs ρ D l m):∀{i:Nat} {u:Value},l[i]?=some u→∃v,m[i]?=some v∧VR ρ D u v:=by
 induction h with
 |nil=>intro i u h;simp at h
 |@cons u v l m h _ ih =>
  intro i w hw
  cases i with
  |zero=>simp only[List.getElem?_cons_zero,Option.some.injEq]at hw;subst hw;exact⟨v,rfl,h⟩
  |succ i=>exact ih (by simpa using hw)
theorem VRs.at {ρ:Nat→Nat}{D:Nat→Prop}{l m:List Value}(h:VRs ρ D l m)(i:Nat)(h1:i<(Array.mk l).size)(h2:i<(Array.mk m).size):VR ρ D (Array.mk l)[i] (Array.mk m)[i]:=by
 obtain⟨v,g1,g2⟩:=h.get (i:=i) (u:=l[i]'(by simpa using h1)) (List.getElem?_eq_getElem _)
 have:(Array.mk m)[i]=v:=by
  have h2':i<m.length:=by simpa using h2
  rw[List.getElem?_eq_getElem h2']at g1
  simpa using g1
 rw[this];exact g2
theorem VRs.agg {ρ:Nat→Nat}{D:Nat→Prop}{l m:List Value}(h:VRs ρ D l m):VR ρ D (.agg ⟨l⟩) (.agg ⟨m⟩):=.agg (by simpa using h.len) h.at
theorem VRs.tuple {ρ:Nat→Nat}{D:Nat→Prop}{l m:List Value}(h:VRs ρ D l m):VR ρ D (.tuple ⟨l⟩) (.tuple ⟨m⟩):=.tuple (by simpa using h.len) h.at
theorem VRs.const {ρ:Nat→Nat}{D:Nat→Prop}:∀{l:List Value},(∀v∈l,yJ v=true)→VRs ρ D l l
 |[],_=>.nil
 |_::_,h=>.cons (.const (h _ List.mem_cons_self)) (VRs.const fun v hv=>h v (List.mem_cons_of_mem _ hv))
theorem VRs.app {ρ:Nat→Nat}{D:Nat→Prop}{l m l' m':List Value}(h:VRs ρ D l m)(k:VRs ρ D l' m'):VRs ρ D (l++l') (m++m'):=by
 induction h with
 |nil=>exact k
 |cons h _ ih=>exact .cons h ih
theorem VR.val {ρ:Nat→Nat}{D:Nat→Prop}{φ:Nat→Loc}{L L':Lens}{u v:Value}(h:VR ρ D u v)(hD:∀A,D A→L' A=L (ρ A)):∀{v':Value},Val φ L v v'→Val (fun A=>φ (ρ A)) L' u v':=by
 induction h with
 |const hc=>intro v' hv;rw[Val.det hc hv];exact Val.const hc
 |@ptr A o n h =>
  intro v' hv
  generalize hq:Value.pointer (some ⟨ρ A,o,some n⟩)=q at hv
  cases hv with
  |ptr A' o' v' n' c hL hv h'=>cases hq;exact .ptr _ _ _ _ _ (by rw[hD _ h];exact hL) hv h'
  |_=>cases hq
 |@slc A o n len fl h =>
  intro v' hv
  generalize hq:Value.slice (some ⟨ρ A,o,some n⟩) len fl=q at hv
  cases hv with
  |slc A' o' v' n' len' fl' cap c hL hv hc hm h'=>cases hq;exact .slc _ _ _ _ _ _ _ _ (by rw[hD _ h];exact hL) hv hc hm h'
  |sdead=>simp at hq
  |_=>cases hq
 |sdead=>intro v' hv;cases hv with|sdead c cap hm=>exact .sdead c cap hm
 |agg h1 _ ih=>intro v' hv;cases hv with|agg a b g1 g2=>exact .agg _ _ (h1.trans g1) fun i hi hi'=>ih i hi (by omega) (g2 i (by omega) hi')
 |tuple h1 _ ih=>intro v' hv;cases hv with|tuple a b g1 g2=>exact .tuple _ _ (h1.trans g1) fun i hi hi'=>ih i hi (by omega) (g2 i (by omega) hi')
 |func h1 _ h3 _ ih1 ih2 =>
  intro v' hv
  cases hv with
  |func f a b c d g1 g2 g3 g4=>exact .func _ _ _ _ _ (h1.trans g1) (fun i hi hi'=>ih1 i hi (by omega) (g2 i (by omega) hi')) (h3.trans g3) fun i hi hi'=>ih2 i hi (by omega) (g4 i (by omega) hi')
theorem old_val {D:Nat→Prop}{φ φ1 φ2:Nat→Loc}{L L1 L2:Lens}(hL:∀A m,L A=some m→D A)(h12:∀A,D A→φ2 A=φ1 A∧L2 A=L1 A){v v':Value}(h:Val φ1 L1 v v'):∀{v0:Value},Val φ L v v0→Val φ2 L2 v v':=by
 induction h with
 |bool b=>intro v0 _;exact .bool b
 |int k n=>intro v0 _;exact .int k n
 |str s=>intro v0 _;exact .str s
 |pnil=>intro v0 _;exact .pnil
 |ptr A o v n c h1 h2 h3 =>
  intro v0 h0
  generalize hq:Value.pointer (some ⟨A,o,some v⟩)=q at h0
  cases h0 with
  |ptr A' o' v' n' c' hL' hv' h' =>
   cases hq
   obtain⟨e1,e2⟩:=h12 _ (hL _ _ hL')
   exact .ptr _ _ _ _ _ (by rw[e2];exact h1) h2 (by rw[e1];exact h3)
  |_=>cases hq
 |snil=>intro v0 _;exact .snil
 |slc A o v n len fl cap c h1 h2 hc hm h3 =>
  intro v0 h0
  generalize hq:Value.slice (some ⟨A,o,some v⟩) len fl=q at h0
  cases h0 with
  |slc A' o' v' n' len' fl' cap' c' hL' hv' hc' hm' h' =>
   cases hq
   obtain⟨e1,e2⟩:=h12 _ (hL _ _ hL')
   exact .slc _ _ _ _ _ _ _ _ (by rw[e2];exact h1) h2 hc hm (by rw[e1];exact h3)
  |_=>cases hq
 |full A o v n len c h1 h2 hm h3 =>
  intro v0 h0
  generalize hq:Value.slice (some ⟨A,o,none⟩) len (v+1)=q at h0
  cases h0 with
  |full A' o' v' n' len' c' hL' hv' hm' h' =>
   cases hq
   obtain⟨e1,e2⟩:=h12 _ (hL _ _ hL')
   exact .full _ _ _ _ _ _ (by rw[e2];exact h1) h2 hm (by rw[e1];exact h3)
  |sdead=>simp at hq
  |_=>cases hq
 |map A n r h1 h3 =>
  intro v0 h0
  generalize hq:Value.map (some A)=q at h0
  cases h0 with
  |map A' n' r' hL' h' =>
   cases hq
   obtain⟨e1,e2⟩:=h12 _ (hL _ _ hL')
   exact .map _ n _ (by rw[e2];exact h1) (by rw[e1];exact h3)
  |_=>cases hq
 |sdead c cap hm=>intro v0 _;exact .sdead c cap hm
 |mnil=>intro v0 _;exact .mnil
 |func f a b c d h1 _ h3 _ ih1 ih2 =>
  intro v0 h0
  cases h0 with
  |func _ _ b' _ d' g1 g2 g3 g4=>exact .func f a b c d h1 (fun i hi hi'=>ih1 i hi hi' (g2 i hi (by omega))) h3 (fun i hi hi'=>ih2 i hi hi' (g4 i hi (by omega)))
 |fnil=>intro v0 _;exact .fnil
 |inil=>intro v0 _;exact .inil
 |iface t v v' _ ih=>intro v0 h0;cases h0 with|iface _ _ _ h=>exact .iface t v v' (ih h)
 |agg a b h1 _ ih=>intro v0 h0;cases h0 with|agg _ b' g1 g2=>exact .agg a b h1 fun i hi hi'=>ih i hi hi' (g2 i hi (by omega))
 |tuple a b h1 _ ih=>intro v0 h0;cases h0 with|tuple _ b' g1 g2=>exact .tuple a b h1 fun i hi hi'=>ih i hi hi' (g2 i hi (by omega))

inductive SHR (ρ:Nat→Nat)(D:Nat→Prop)(p:SH):SH→SH→Prop
 |nil:SHR ρ D p [] []
 |same {h} (k:∀x∈h,x∈p):SHR ρ D p h h
 |cons {A A' c c' ro h h'} (e:ρ A=A') (h1:VRs ρ D c c') (k:SHR ρ D p h h'):SHR ρ D p ((A,⟨c,ro⟩)::h) ((A',⟨c',ro⟩)::h')
 |keep {x h h'} (e:x∈p) (k:SHR ρ D p h h'):SHR ρ D p (x::h) (x::h')
theorem SHR.get {ρ:Nat→Nat}{D:Nat→Prop}{p h h':SH}(k:SHR ρ D p h h')(hp:∀y∈p,ρ y.1=y.1):∀x∈h,(x∈p∧x∈h')∨∃c',(ρ x.1,⟨c',x.2.ro⟩)∈h'∧VRs ρ D x.2.cells c':=by
 induction k with
 |nil=>intro x hx;cases hx
 |same k=>intro x hx;exact .inl ⟨k x hx,hx⟩
 |cons e h1 _ ih =>
  intro x hx
  rcases List.mem_cons.1 hx with rfl|hx
  ·exact .inr ⟨_,by rw[e];exact List.mem_cons_self,h1⟩
  ·rcases ih x hx with⟨g1,g2⟩|⟨c',g1,g2⟩
   ·exact .inl ⟨g1,List.mem_cons_of_mem _ g2⟩
   ·exact .inr ⟨c',List.mem_cons_of_mem _ g1,g2⟩
 |keep e _ ih =>
  intro x hx
  rcases List.mem_cons.1 hx with rfl|hx
  ·exact .inl ⟨e,List.mem_cons_self⟩
  ·rcases ih x hx with⟨g1,g2⟩|⟨c',g1,g2⟩
   ·exact .inl ⟨g1,List.mem_cons_of_mem _ g2⟩
   ·exact .inr ⟨c',List.mem_cons_of_mem _ g1,g2⟩

def look (g:SH)(A:Nat):Option Blk:=(g.find? fun x=>Nat.beq x.1 A).map (·.2)
theorem look_mem {g:SH}{A:Nat}{b:Blk}(h:look g A=some b):(A,b)∈g:=by
 unfold look at h
 cases hf:g.find? fun x=>Nat.beq x.1 A with
 |none=>rw[hf]at h;cases h
 |some x =>
  rw[hf]at h
  simp only[Option.map_some,Option.some.injEq]at h
  have h1:=List.mem_of_find?_eq_some hf
  have h2:=Nat.eq_of_beq_eq_true (List.find?_some (p:=fun x:Nat × Blk=>Nat.beq x.1 A) hf)
  rw[←h2,←h];exact h1
theorem look_of {g:SH}(hn:(g.map (·.1)).Nodup){A:Nat}{b:Blk}(h:(A,b)∈g):look g A=some b:=by
 induction g with
 |nil=>cases h
 |cons x g ih =>
  simp only[List.map_cons,List.nodup_cons]at hn
  unfold look
  rw[List.find?_cons]
  rcases List.mem_cons.1 h with rfl|h
  ·simp[Nat.beq_refl]
  ·have hne:x.1≠A:=fun e=>hn.1 (List.mem_map.2 ⟨_,h,e.symm⟩)
   rw[show Nat.beq x.1 A=false from by
    cases hb:Nat.beq x.1 A with
    |true=>exact absurd (Nat.eq_of_beq_eq_true hb) hne
    |false=>rfl]
   exact ih hn.2 h
def canon (H:Heap)(g:SH)(k:Nat):Heap:=(List.range (H.length+k)).map fun A=>match look g A with|some b=>some b|none=>H.getD A none
theorem canon_len {H:Heap}{g:SH}{k:Nat}:(canon H g k).length=H.length+k:=by simp[canon]
theorem canon_get {H:Heap}{g:SH}{k A:Nat}(h:A<H.length+k):(canon H g k)[A]?=some (match look g A with|some b=>some b|none=>H.getD A none):=by
 unfold canon;rw[List.getElem?_map,List.getElem?_range h];rfl

theorem perm_disj {l m:List Nat}{g:List Nat}(hp:g.Perm (l++m))(hn:g.Nodup):(∀x∈l,x ∉ m)∧l.Nodup:=by
 have:=hp.nodup_iff.1 hn
 rw[List.nodup_append]at this
 exact⟨fun x hx hm=>this.2.2 x hx x hm rfl,this.1⟩

theorem call_at {P:Program}{f:FuncId}{as0:List Value}{p:SH}{R:Value→SH→Prop}(hr:SRun P f as0 p R){H H':Heap}{n:Nat}(i:Inv ⟨H,p⟩ p H){k:Nat}{V:List Nat→Value}{G:List Nat→SH}
  (hfun:∀r q,R r q→∃ns,ns.length=k∧r=V ns∧Take q (G ns)) (hkeys:∀ns,ns.length=k→((G ns).map (·.1)).Perm (ns++p.map (·.1)))
  (hpar:∀(ns ms:List Nat) (ρ:Nat→Nat) (D:Nat→Prop),ns.length=k→ms.length=k→ms.map ρ=ns→(∀y∈p,ρ y.1=y.1)→(∀A∈ms,D A)→(∀y∈p,D y.1)→VR ρ D (V ms) (V ns)∧SHR ρ D p (G ms) (G ns))
  (hfree:∀A,n≤A→A<n+k→∀g,H[A]?≠some (some g)) (hin:∀x∈G (List.range' n k),H'[x.1]?=some (some x.2)) (hoth:∀A,(∀x∈G (List.range' n k),x.1≠A)→∀g,H'[A]?=some (some g)↔H[A]?=some (some g))
  {B0:Nat} {w0 w:World} {φ:Nat→Loc} {vs:Array Value} (hrel:Rel B0 w0 φ H w) (hvs:VRel φ (lens H) as0 vs) :
  Calls P f vs w fun e w'=>∃φ' v',Ext φ (lens H) φ' (lens H')∧Rel B0 w0 φ' H' w'∧e=.returned v'∧Val φ' (lens H') (V (List.range' n k)) v':=by
 unfold SRun at hr
 have h1:=hr H i
 unfold Run at h1
 refine(h1 B0 w0 φ (lens H) φ w vs (.refl _ _) hrel hvs).mono ?_
 rintro e w' ⟨φ2,r,H2,v,hext,hrel2,rfl,hv,q,hR,i2⟩
 obtain⟨ns,hk,rfl,ht⟩:=hfun r q hR
 have i3:=i2.le ht.le
 generalize hms:List.range' n k=ms at hin hoth ⊢
 have hmk:ms.length=k:=by rw[←hms,List.length_range']
 have hmem:∀A,A∈ms↔n≤A∧A<n+k:=fun A=>by rw[←hms,List.mem_range'_1]
 
 have hpk:=hkeys ns hk
 have hpm:=hkeys ms hmk
 obtain⟨hdis,hnd⟩:=perm_disj hpk i3.nd
 have hpold:∀y∈p,y.1<H.length:=fun y hy=>(List.getElem?_eq_some_iff.1 (i.sat y hy)).1
 have hpms:∀y∈p,y.1 ∉ ms:=fun y hy h=>hfree y.1 ((hmem _).1 h).1 ((hmem _).1 h).2 y.2 (i.sat y hy)
 have hns:∀x∈ns,H.length≤x:=by
  intro x hx
  rcases Nat.lt_or_ge x H.length with hlt|hge
  ·obtain⟨b,hb,e⟩:=List.mem_map.1 (hpk.mem_iff.2 (List.mem_append_left _ hx))
   obtain⟨y,hy,e2⟩:=i3.own b hb (by simp only;omega)
   exact absurd (List.mem_map.2 ⟨y,hy,by omega⟩) (hdis x hx)
  ·exact hge
 let ρ:Nat→Nat:=fun A=>if n≤A∧A<n+k then ns.getD (A-n) 0 else A
 have hρo:∀A,A ∉ ms→ρ A=A:=fun A h=>if_neg (fun k=>h ((hmem A).2 k))
 have hρe:∀A,A∈ms→ρ A=ns.getD (A-n) 0:=fun A h=>if_pos ((hmem A).1 h)
 have hρn:∀A,A∈ms→ρ A∈ns:=fun A h=>by
  obtain⟨g1,g2⟩:=(hmem A).1 h
  rw[hρe A h,List.getD_eq_getElem?_getD,List.getElem?_eq_getElem (by omega)]
  exact List.getElem_mem _
 have hmap:ms.map ρ=ns:=by
  apply List.ext_getElem?
  intro j
  rw[List.getElem?_map]
  rcases Nat.lt_or_ge j k with hj|hj
  ·have e1:ms[j]?=some (n+j):=by rw[←hms,List.getElem?_range' hj,Nat.one_mul]
   rw[e1,Option.map_some,hρe _ ((hmem _).2 ⟨by omega,by omega⟩),Nat.add_sub_cancel_left,List.getD_eq_getElem?_getD,List.getElem?_eq_getElem (by omega)];rfl
  ·rw[List.getElem?_eq_none (by omega),List.getElem?_eq_none (by omega)];rfl
 have hρinj:∀A A',(A∈ms∨A<H.length)→(A'∈ms∨A'<H.length)→ρ A=ρ A'→A=A':=by
  intro A A' hA hA' he
  by_cases h1:A∈ms <;> by_cases h2:A'∈ms
  ·rw[hρe A h1,hρe A' h2]at he
   obtain⟨a1,a2⟩:=(hmem A).1 h1
   obtain⟨b1,b2⟩:=(hmem A').1 h2
   rw[List.getD_eq_getElem?_getD,List.getD_eq_getElem?_getD,List.getElem?_eq_getElem (by omega),List.getElem?_eq_getElem (by omega)]at he
   have he':ns[A-n]'(by omega)=ns[A'-n]'(by omega):=he
   have hpw:=List.pairwise_iff_getElem.1 hnd
   rcases Nat.lt_trichotomy (A-n) (A'-n)with h|h|h
   ·exact absurd he' (hpw _ _ (by omega) (by omega) h)
   ·omega
   ·exact absurd he'.symm (hpw _ _ (by omega) (by omega) h)
  ·rw[hρo A' h2]at he
   have:=hns _ (hρn A h1)
   rcases hA' with h|h
   ·exact absurd h h2
   ·omega
  ·rw[hρo A h1]at he
   have:=hns _ (hρn A' h2)
   rcases hA with h|h
   ·exact absurd h h1
   ·omega
  ·rw[hρo A h1,hρo A' h2]at he;exact he
 obtain⟨hV,hG⟩:=hpar ns ms ρ (fun A=>A∈ms∨A∈p.map (·.1)) hk hmk hmap (fun y hy=>hρo _ (hpms y hy)) (fun A h=>.inl h) (fun y hy=>.inr (List.mem_map.2 ⟨y,hy,rfl⟩))
 
 have hkeyG:∀A,(A∈ms∨A∈p.map (·.1))→∃b,(A,b)∈G ms:=by
  intro A hA
  obtain⟨b,hb,e⟩:=List.mem_map.1 (hpm.mem_iff.2 (by rcases hA with h|h;exact List.mem_append_left _ h;exact List.mem_append_right _ h))
  exact⟨b.2,by rw[←e];exact hb⟩
 have hget:∀A g,H'[A]?=some (some g)→(A∈ms∨A<H.length)∧((H2[ρ A]?=some (some g)∧H[A]?=some (some g)∧A ∉ ms)∨∃c',H2[ρ A]?=some (some ⟨c',g.ro⟩)∧VRs ρ (fun A=>A∈ms∨A∈p.map (·.1)) g.cells c'):=by
  intro A g hA
  by_cases hx:∃b,(A,b)∈G ms
  ·obtain⟨b,hb⟩:=hx
   have:=hin _ hb
   rw[hA]at this
   simp only[Option.some.injEq]at this
   subst this
   have hdom:A∈ms∨A<H.length:=by
    rcases List.mem_append.1 (hpm.mem_iff.1 (List.mem_map.2 ⟨_,hb,rfl⟩))with h|h
    ·exact .inl h
    ·obtain⟨y,hy,e⟩:=List.mem_map.1 h
     have:=hpold y hy
     exact .inr (by simp only at e;omega)
   refine⟨hdom,?_⟩
   rcases hG.get (fun y hy=>hρo _ (hpms y hy)) _ hb with⟨g1,g2⟩|⟨c',g1,g2⟩
   ·exact .inl ⟨by rw[hρo A (hpms _ g1)];exact i3.sat _ g2,i.sat _ g1,hpms _ g1⟩
   ·exact .inr ⟨c',i3.sat _ g1,g2⟩
  ·have hno:∀x∈G ms,x.1≠A:=fun x hxm e=>hx ⟨x.2,by rw[←e];exact hxm⟩
   have hA2:=(hoth A hno g).1 hA
   have hl:=(List.getElem?_eq_some_iff.1 hA2).1
   have hnm:A ∉ ms:=fun h=>hx (hkeyG A (.inl h))
   refine⟨.inr hl,.inl ⟨?_,hA2,hnm⟩⟩
   rw[hρo A hnm,i3.keep A hl fun y hy e=>hx (hkeyG A (.inr (List.mem_map.2 ⟨y,hy,e⟩)))]
   exact hA2
 have hlen:∀A g,H'[A]?=some (some g)→lens H' A=lens H2 (ρ A):=by
  intro A g hA
  rw[lens_of hA]
  rcases(hget A g hA).2 with⟨g1,_⟩|⟨c',g1,g2⟩
  ·rw[lens_of g1]
  ·rw[lens_of g1,g2.len]
 have hlenD:∀A,(A∈ms∨A∈p.map (·.1))→lens H' A=lens H2 (ρ A):=fun A h=>by
  obtain⟨b,hb⟩:=hkeyG A h
  exact hlen A b (hin _ hb)
 
 have hlive:∀A m,lens H A=some m→A ∉ ms∧∃g,H'[A]?=some (some g):=by
  intro A m hA
  obtain⟨g,h1,_⟩:=lens_live hA
  have hnm:A ∉ ms:=fun h=>hfree A ((hmem _).1 h).1 ((hmem _).1 h).2 g h1
  refine⟨hnm,?_⟩
  by_cases hx:∃b,(A,b)∈G ms
  ·obtain⟨b,hb⟩:=hx;exact⟨b,hin _ hb⟩
  ·exact⟨g,(hoth A (fun x hxm e=>hx ⟨x.2,by rw[←e];exact hxm⟩) g).2 h1⟩
 have hold:∀A,(∃m,lens H A=some m)→φ2 (ρ A)=φ2 A∧lens H' A=lens H2 A:=by
  rintro A ⟨m,hA⟩
  obtain⟨h1,g,h2⟩:=hlive A m hA
  exact⟨by rw[hρo A h1],by rw[hlen A g h2,hρo A h1]⟩
 refine⟨fun A=>φ2 (ρ A),v,fun A n hA=>?_,⟨hrel2.below,hrel2.b0,fun A g hA=>?_,fun A g hA hro=>?_,fun A A' g g' hA hro hA' he=>?_,hrel2.gw⟩,rfl,hV.val hlenD hv⟩
 ·obtain⟨n',g1,g2⟩:=hext A n hA
  obtain⟨q1,q2⟩:=hold A ⟨n,hA⟩
  refine⟨n',by rw[q2];exact g1,?_⟩
  show(n'=n∧φ2 (ρ A)=φ A)∨(n<n'∧((φ A).mp=true→φ2 (ρ A)=φ A))
  rw[q1];exact g2
 ·obtain⟨hlt,hc⟩:=hget A g hA
  rcases hc with⟨g1,g2,g3⟩|⟨c',g1,g2⟩
  ·obtain⟨o,c,k1,k2,k3,k5⟩:=(hrel2.blk _ _ g1).any
   obtain⟨o0,c0,_,_,_,j5⟩:=(hrel.blk _ _ g2).any
   refine⟨o,c,k1,k2,k3,fun j x hx=>?_⟩
   obtain⟨x',m1,m2⟩:=k5 j x hx
   obtain⟨x0,_,m3⟩:=j5 j x hx
   exact⟨x',m1,old_val (D:=fun B=>∃m,lens H B=some m) (fun B m h=>⟨m,h⟩) hold m2 m3⟩
  ·obtain⟨o,c,k1,k2,k3,k5⟩:=(hrel2.blk _ _ g1).any
   refine⟨o,c,k1,?_,by rw[g2.len];exact k3,fun j x hx=>?_⟩
   ·cases k2 with
    |cells hm hs hf=>exact .cells hm hs hf
    |map hm hb hl=>exact .map hm hb (by rw[g2.len];exact hl)
   obtain⟨y,m1,m2⟩:=g2.get hx
   obtain⟨x',m3,m4⟩:=k5 j y m1
   exact⟨x',m3,m2.val hlenD m4⟩
 ·rcases(hget A g hA).2 with⟨g1,_⟩|⟨c',g1,_⟩
  ·exact hrel2.own _ _ g1 hro
  ·exact hrel2.own _ _ g1 hro
 ·obtain⟨d1,hc⟩:=hget A g hA
  obtain⟨d2,hc'⟩:=hget A' g' hA'
  obtain⟨y,hy⟩:∃y,H2[ρ A']?=some (some y):=by rcases hc' with⟨g1,_⟩|⟨c',g1,_⟩ <;> exact⟨_,g1⟩
  refine hρinj A' A d2 d1 ?_
  rcases hc with⟨g1,_⟩|⟨c',g1,_⟩
  ·exact hrel2.inj _ _ _ _ g1 hro hy he
  ·exact hrel2.inj _ _ _ _ g1 hro hy he
theorem canon_in {p:SH}{H:Heap}(i:Inv ⟨H,p⟩ p H){k:Nat}{G:List Nat→SH}(hkeys:∀ns,ns.length=k→((G ns).map (·.1)).Perm (ns++p.map (·.1))) :
  (∀x∈G (List.range' H.length k),(canon H (G (List.range' H.length k)) k)[x.1]?=some (some x.2))∧((G (List.range' H.length k)).map (·.1)).Nodup∧(∀x∈G (List.range' H.length k),x.1<H.length+k)∧∀x∈G (List.range' H.length k),x.1<H.length→∃y∈p,y.1=x.1:=by
 generalize hms:List.range' H.length k=ms
 have hmk:ms.length=k:=by rw[←hms,List.length_range']
 have hmem:∀A,A∈ms↔H.length≤A∧A<H.length+k:=fun A=>by rw[←hms,List.mem_range'_1]
 have hpm:=hkeys ms hmk
 have hpold:∀y∈p,y.1<H.length:=fun y hy=>(List.getElem?_eq_some_iff.1 (i.sat y hy)).1
 have hmnd:((G ms).map (·.1)).Nodup:=by
  refine hpm.nodup_iff.2 (List.nodup_append.2 ⟨by rw[←hms];exact List.nodup_range',i.nd,?_⟩)
  rintro a ha b hb rfl
  obtain⟨y,hy,rfl⟩:=List.mem_map.1 hb
  have:=hpold y hy
  have:=(hmem _).1 ha
  omega
 have hall:∀x∈G ms,x.1<H.length+k:=by
  intro x hx
  rcases List.mem_append.1 (hpm.mem_iff.1 (List.mem_map.2 ⟨x,hx,rfl⟩))with h|h
  ·exact((hmem _).1 h).2
  ·obtain⟨y,hy,e⟩:=List.mem_map.1 h;have:=hpold y hy;omega
 refine⟨fun x hx=>?_,hmnd,hall,fun x hx hlt=>?_⟩
 ·rw[canon_get (hall x hx),look_of hmnd (show(x.1,x.2)∈G ms from hx)]
 ·rcases List.mem_append.1 (hpm.mem_iff.1 (List.mem_map.2 ⟨x,hx,rfl⟩))with h|h
  ·have:=((hmem _).1 h).1;omega
  ·obtain⟨y,hy,e⟩:=List.mem_map.1 h;exact⟨y,hy,e⟩
theorem canon_inv {E:Ent}{h p:SH}{H:Heap}(i0:Inv E h H)(ht:Take h p){k:Nat}{G:List Nat→SH}(hkeys:∀ns,ns.length=k→((G ns).map (·.1)).Perm (ns++p.map (·.1))) :
  Inv E (G (List.range' H.length k)) (canon H (G (List.range' H.length k)) k):=by
 have i:=i0.le ht.le
 obtain⟨h1,h2,h3,h4⟩:=canon_in i.refl hkeys
 refine⟨h1,h2,fun x hx hlt=>?_,by rw[canon_len];have:=i.len;omega,fun A hA hne=>?_⟩
 ·obtain⟨y,hy,e⟩:=h4 x hx (by have:=i.len;omega)
  obtain⟨z,hz,e2⟩:=i.own y hy (by omega)
  exact⟨z,hz,by omega⟩
 ·have hAl:A<H.length:=by have:=i.len;omega
  rw[canon_get (by omega)]
  cases hl:look (G (List.range' H.length k)) A with
  |some b =>
   obtain⟨y,hy,e⟩:=h4 _ (look_mem hl) hAl
   obtain⟨z,hz,e2⟩:=i.own y hy (by simp only at e;omega)
   exact absurd (by simp only at e;omega) (hne z hz)
  |none =>
   show some (H.getD A none)=_
   rw[List.getD_eq_getElem?_getD,List.getElem?_eq_getElem hAl,Option.getD_some,←List.getElem?_eq_getElem hAl]
   exact i.keep A hA hne
theorem rho_pick {p p1:SH}{ρ:Nat→Nat}{A:Nat}{b:Blk}(hρ:∀y∈p,ρ y.1=y.1)(h:Pick p A b p1):ρ A=A:=hρ _ h.mem
theorem dom_pick {p p1:SH}{D:Nat→Prop}{A:Nat}{b:Blk}(hD:∀y∈p,D y.1)(h:Pick p A b p1):D A:=hD _ h.mem
theorem VR.slc' {ρ:Nat→Nat}{D:Nat→Prop}{A A' o n len fl:Nat}(e:ρ A=A')(h:D A):VR ρ D (gsl A o n len fl) (gsl A' o n len fl):=by subst e;exact .slc h
theorem bytesV_const (l:List UInt8):∀v∈bytesV l,yJ v=true:=by
 intro v hv;unfold bytesV at hv;obtain⟨_,_,rfl⟩:=List.mem_map.1 hv;rfl
theorem map_const {α:Type}{f:α→Value}{l:List α}(h:∀x,yJ (f x)=true):∀v∈l.map f,yJ v=true:=by
 intro v hv;obtain⟨_,_,rfl⟩:=List.mem_map.1 hv;exact h _
section
variable {P:Program} {sz:Nat} {ops:Array Oper} {Q:SPost} {rest:List Oper} {a:AF} {h:SH} {t:Nat} {ty:TypeId} {pos:String} {aft:Array Edge}
theorem yV {x:Operand}{xs:List Operand}{ts:Array TypeId}{f:FuncId}{first captured:Array Value}{as0:List Value}{R:Value→SH→Prop}{i0:Nat}{last:SPast}{cl:SCl}{k:Nat}{V:List Nat→Value}{G:List Nat→SH}{p:SH}
  (hx:ev a x=some (.func (.func f) first captured)) (hxs:evs a xs=some as0) (hf:enters P f=true) (hN:Nat.blt t sz=true) (hr:SRun P f (first.toList++as0++captured.toList) p R) (ht:Take h p)
  (hfun:∀r q,R r q→∃ns,ns.length=k∧r=V ns∧Take q (G ns)) (hkeys:∀ns,ns.length=k→((G ns).map (·.1)).Perm (ns++p.map (·.1)))
  (hpar:∀(ns ms:List Nat) (ρ:Nat→Nat) (D:Nat→Prop),ns.length=k→ms.length=k→ms.map ρ=ns→(∀y∈p,ρ y.1=y.1)→(∀A∈ms,D A)→(∀y∈p,D y.1)→VR ρ D (V ms) (V ns)∧SHR ρ D p (G ms) (G ns))
  (hok:∀ms,ms.length=k→(Mode.draw i0 last cl).efOk ops (G ms)) (kk:∀ms,ms.length=k→GO ((Mode.draw i0 last cl).ef h) P sz ops Q rest ((t,V ms)::a) (G ms)) :
  GO (.draw i0 last cl) P sz ops Q (⟨some t,.call { callee:=.value x,args:=xs.toArray,argTypes:=ts },ty,pos,aft,none⟩::rest) a h:=by
 unfold GO
 intro E H n0 pH i ip
 have hk:(List.range' H.length k).length=k:=List.length_range'
 have kk':=kk _ hk
 unfold GO at kk'
 obtain⟨_,g⟩:=kk' E _ n0 ((true,i0,H,canon H (G (List.range' H.length k)) k)::pH) (canon_inv i ht hkeys) ⟨⟨rfl,rfl,i,fun h=>by cases h⟩,ip⟩
 refine⟨_,.eff k hN trivial canon_len (fun X a' hag hX=>⟨fun B0 w0 φ w ac hrel hfr=>?_⟩) (efOk_l ip (hok _ hk)) (efOk_cl (canon_inv i ht hkeys) (hok _ hk)) g⟩
 have hx':ev a' x=some (.func (.func f) first captured):=(hag.ev (by simp[Op.operands,Call.operands])).trans hx
 have hxs':evs a' xs=some as0:=(evs_congr fun y hy=>hag.ev (by simp[Op.operands,Call.operands,hy])).trans hxs
 have e1:=zW hfr hx'
 have e2:=evs_rel hfr hxs'
 refine .inr ?_
 generalize hu:ac.eval x=u at e1
 cases e1 with
 |func _ _ b _ d q1 q2 q3 q4 =>
  have hvr:=((VRel.of_arrays q1 q2).append e2).append (VRel.of_arrays q3 q4)
  obtain⟨c1,c2,c3,c4⟩:=canon_in (i.le ht.le).refl hkeys
  refine⟨f,b++(xs.map ac.eval).toArray++d,?_,call_at hr ((i.app X).le ht.le).refl hfun hkeys hpar (fun A h1 h2 g hg=>?_) (fun x hx=>?_) (fun A hA g=>?_) hrel hvr⟩
  rotate_left
  ·have:=hX (A-H.length) (by omega)
   rw[List.getElem?_append_right h1,this]at hg;cases hg
  ·rw[List.getElem?_append_left (by rw[canon_len];exact c3 x hx)];exact c1 x hx
  ·rcases Nat.lt_or_ge A (H.length+k)with hl|hl
   ·rw[List.getElem?_append_left (by rw[canon_len];exact hl),canon_get hl]
    have hlk:look (G (List.range' H.length k)) A=none:=by
     cases hq:look (G (List.range' H.length k)) A with
     |none=>rfl
     |some b=>exact absurd rfl (hA _ (look_mem hq))
    rw[hlk]
    rcases Nat.lt_or_ge A H.length with hl2|hl2
    ·rw[List.getElem?_append_left hl2]
     show some (H.getD A none)=_↔_
     rw[List.getD_eq_getElem?_getD,List.getElem?_eq_getElem hl2];rfl
    ·rw[List.getElem?_append_right hl2,hX (A-H.length) (by omega)]
     show some (H.getD A none)=_↔_
     rw[List.getD_eq_getElem?_getD,List.getElem?_eq_none hl2];rfl
   ·rw[List.getElem?_append_right (by rw[canon_len];exact hl),canon_len,List.getElem?_drop,List.getElem?_append_right (by omega),show k+(A-(H.length+k))=A-H.length by omega]
  unfold execOp
  simp only[resolve,List.map_toArray,hu,Deferred.ofValue,Sem.run_bind,Sem.run_pure,Result.andThen_ok,invoke]
  exact run_callFunc_enters hf _ w
theorem o_callE0 {x:Operand}{xs:List Operand}{ts:Array TypeId}{f:FuncId}{first captured:Array Value}{as0:List Value}{v:Value}{g:SH}{i0:Nat}{last:SPast}{cl:SCl}{p:SH}
  (hx:ev a x=some (.func (.func f) first captured)) (hxs:evs a xs=some as0) (hf:enters P f=true) (hN:Nat.blt t sz=true) (hr:SRun P f (first.toList++as0++captured.toList) p (fun r q=>r=v∧q=g)∧Take h p)
  (hkeys:(g.map (·.1)).Perm (p.map (·.1))) (hpar:∀(ρ:Nat→Nat) (D:Nat→Prop),(∀y∈p,ρ y.1=y.1)→(∀y∈p,D y.1)→VR ρ D v v∧SHR ρ D p g g)
  (hok:(Mode.draw i0 last cl).efOk ops g) (kk:GO ((Mode.draw i0 last cl).ef h) P sz ops Q rest ((t,v)::a) g) :
  GO (.draw i0 last cl) P sz ops Q (⟨some t,.call { callee:=.value x,args:=xs.toArray,argTypes:=ts },ty,pos,aft,none⟩::rest) a h :=
 yV (k:=0) (V:=fun _=>v) (G:=fun _=>g) hx hxs hf hN hr.1 hr.2 (fun r q ⟨h1,h2⟩=>⟨[],rfl,h1,h2▸.nil⟩) (fun ns h=>by rw[List.length_eq_zero_iff.1 h];exact hkeys)
  (fun _ _ ρ D _ _ _ h1 _ h2=>hpar ρ D h1 h2) (fun _ _=>hok) (fun _ _=>kk)
theorem yU {x:Operand}{xs:List Operand}{ts:Array TypeId}{f:FuncId}{first captured:Array Value}{as0:List Value}{v:Nat→Value}{g:Nat→SH}{i0:Nat}{last:SPast}{cl:SCl}{p:SH}
  (hx:ev a x=some (.func (.func f) first captured)) (hxs:evs a xs=some as0) (hf:enters P f=true) (hN:Nat.blt t sz=true) (hr:SRun P f (first.toList++as0++captured.toList) p (fun r q=>∃A,r=v A∧q=g A)∧Take h p)
  (hkeys:∀A,((g A).map (·.1)).Perm (A::p.map (·.1))) (hpar:∀(A A':Nat) (ρ:Nat→Nat) (D:Nat→Prop),ρ A=A'→D A→(∀y∈p,ρ y.1=y.1)→(∀y∈p,D y.1)→VR ρ D (v A) (v A')∧SHR ρ D p (g A) (g A'))
  (hok:∀A,(Mode.draw i0 last cl).efOk ops (g A)) (kk:∀A,GO ((Mode.draw i0 last cl).ef h) P sz ops Q rest ((t,v A)::a) (g A)) :
  GO (.draw i0 last cl) P sz ops Q (⟨some t,.call { callee:=.value x,args:=xs.toArray,argTypes:=ts },ty,pos,aft,none⟩::rest) a h:=by
 have one:∀{ns:List Nat},ns.length=1→∃A,ns=[A]:=fun {ns} h=>by
  match ns,h with
  |[A],_=>exact⟨A,rfl⟩
 refine yV (k:=1) (V:=fun ns=>v ns.head!) (G:=fun ns=>g ns.head!) hx hxs hf hN hr.1 hr.2 (fun r q ⟨A,h1,h2⟩=>⟨[A],rfl,h1,h2▸.nil⟩) (fun ns h=>?_) (fun ns ms ρ D h1 h2 h3 h4 h5 h6=>?_) (fun ms h=>?_) (fun ms h=>?_)
 ·obtain⟨A,rfl⟩:=one h;exact hkeys A
 ·obtain⟨A,rfl⟩:=one h1;obtain⟨B,rfl⟩:=one h2
  simp only[List.map_cons,List.map_nil,List.cons.injEq,and_true]at h3
  exact hpar B A ρ D h3 (h5 B (by simp)) h4 h6
 ·obtain⟨A,rfl⟩:=one h;exact hok A
 ·obtain⟨A,rfl⟩:=one h;exact kk A
end
end Go.Gh
end
section
set_option maxRecDepth 4000
namespace Go.Gh
open Go.RowKit Go.MapKept

section
variable {α:Type}
def mapC (kf:α→Value)(l:List (α × Value)):List Value:=l.flatMap fun e=>[kf e.1,e.2]
def mget [DecidableEq α]:List (α × Value)→α→Option Value
 |[],_=>none
 |e::r,a=>if e.1=a then some e.2 else mget r a
def mput [DecidableEq α]:List (α × Value)→α→Value→List (α × Value)
 |[],a,x=>[(a,x)]
 |e::r,a,x=>if e.1=a then(a,x)::r else e::mput r a x
theorem mput_len [DecidableEq α]:∀(l:List (α × Value)) (a:α) (x:Value),(mput l a x).length=l.length+(if mget l a=none then 1 else 0)
 |[],_,_=>rfl
 |e::r,a,x=>by
  unfold mput mget
  split
  ·simp
  ·have:=mput_len r a x;simp only[List.length_cons];omega
theorem mapC_len (kf:α→Value):∀l:List (α × Value),(mapC kf l).length=2*l.length
 |[]=>rfl
 |e::r=>by have:=mapC_len kf r;simp only[mapC,List.flatMap_cons,List.length_append,List.length_cons,List.length_nil]at this ⊢;omega
structure KeyF (d:TypeDesc)(kf:α→Value):Prop where
 is:∀a,IsKey d (kf a)
 inj:∀a b,kf a=kf b→a=b
 sc:∀a,scalar (kf a)=true
theorem keyS :KeyF .string (fun l:List UInt8=>S l):=⟨fun _=>trivial,fun a b h=>by injection h with h;injection h with h;injection h,fun _=>rfl⟩
theorem keyI :KeyF (.int .i64) (fun n:Int=>I n):=⟨fun _=>rfl,fun a b h=>by injection h,fun _=>rfl⟩
inductive EntR (φ:Nat→Loc)(L:Lens)(kf:α→Value):List (α × Value)→List MapEntry→Prop
 |nil:EntR φ L kf [] []
 |cons {a:α} {v:Value} {e:MapEntry} {l es} (hk:e.key=kf a) (hv:Val φ L v e.val) (r:EntR φ L kf l es):EntR φ L kf ((a,v)::l) (e::es)
theorem EntR.len {φ:Nat→Loc}{L:Lens}{kf:α→Value}{l:List (α × Value)}{es:List MapEntry}(h:EntR φ L kf l es):es.length=l.length:=by
 induction h with
 |nil=>rfl
 |cons _ _ _ ih=>simp[ih]
theorem EntR.keys {φ:Nat→Loc}{L:Lens}{kf:α→Value}{d:TypeDesc}(K:KeyF d kf){l:List (α × Value)}{es:List MapEntry}(h:EntR φ L kf l es):∀x∈es,IsKey d x.key:=by
 induction h with
 |nil=>intro x hx;cases hx
 |cons hk _ _ ih =>
  intro x hx
  rcases List.mem_cons.1 hx with rfl|hx
  ·rw[hk];exact K.is _
  ·exact ih x hx
theorem EntR.mono {φ φ':Nat→Loc}{L L':Lens}(e:Ext φ L φ' L'){kf:α→Value}{l:List (α × Value)}{es:List MapEntry}(h:EntR φ L kf l es):EntR φ' L' kf l es:=by
 induction h with
 |nil=>exact .nil
 |cons hk hv _ ih=>exact .cons hk (hv.mono e) ih
theorem EntR.row {φ:Nat→Loc}{L:Lens}{kf:α→Value}{d:TypeDesc}(K:KeyF d kf){l:List (α × Value)}{es:List MapEntry}(h:EntR φ L kf l es) :
  ∀(i:Nat) v,(mapC kf l)[i]?=some v→∃v',(flat es)[i]?=some v'∧Val φ L v v':=by
 induction h with
 |nil=>intro i v hi;simp[mapC]at hi
 |@cons a v e l es hk hv _ ih =>
  intro i u hi
  have e1:mapC kf ((a,v)::l)=kf a::v::mapC kf l:=rfl
  have e2:flat (e::es)=e.key::e.val::flat es:=rfl
  rw[e1]at hi;rw[e2]
  match i,hi with
  |0,hi =>
   simp only[List.getElem?_cons_zero,Option.some.injEq]at hi
   subst hi
   refine⟨e.key,rfl,?_⟩
   rw[hk]
   have hs:=K.sc a
   cases hx:kf a with
   |bool b=>exact .bool b
   |int k n=>exact .int k n
   |string s=>exact .str s
   |_=>rw[hx]at hs;cases hs
  |1,hi=>simp only[List.getElem?_cons_succ,List.getElem?_cons_zero,Option.some.injEq]at hi;subst hi;exact⟨e.val,rfl,hv⟩
  |i+2,hi=>exact ih i u (by simpa using hi)
theorem ent_of {φ:Nat→Loc}{L:Lens}{kf:α→Value}{d:TypeDesc}(K:KeyF d kf):∀{l:List (α × Value)} {es:List MapEntry},es.length=l.length →
  (∀(i:Nat) v,(mapC kf l)[i]?=some v→∃v',(flat es)[i]?=some v'∧Val φ L v v')→EntR φ L kf l es
 |[],[],_,_=>.nil
 |[],_::_,h,_=>by simp at h
 |_::_,[],h,_=>by simp at h
 |(a,v)::l,e::es,h,hr=>by
  have e1:mapC kf ((a,v)::l)=kf a::v::mapC kf l:=rfl
  have e2:flat (e::es)=e.key::e.val::flat es:=rfl
  rw[e1,e2]at hr
  obtain⟨k',h1,h2⟩:=hr 0 (kf a) rfl
  obtain⟨v',h3,h4⟩:=hr 1 v rfl
  simp only[List.getElem?_cons_zero,List.getElem?_cons_succ,Option.some.injEq]at h1 h3
  subst h1 h3
  exact .cons (h2.scalar (K.sc a)) h4 (ent_of K (by simpa using h) fun i u hu=>by
   obtain⟨u',g1,g2⟩:=hr (i+2) u (by simpa using hu)
   exact⟨u',by simpa using g1,g2⟩)
theorem EntR.find [DecidableEq α]{φ:Nat→Loc}{L:Lens}{kf:α→Value}{d:TypeDesc}(K:KeyF d kf)(a:α){l:List (α × Value)}{es:List MapEntry}(h:EntR φ L kf l es):∀i:Nat,
  (Instr.findNow d (kf a) es i=some none∧mget l a=none)∨∃j e v,Instr.findNow d (kf a) es i=some (some (i+j,e.val))∧es[j]?=some e∧e.key=kf a∧mget l a=some v∧Val φ L v e.val:=by
 induction h with
 |nil=>intro i;exact .inl ⟨rfl,rfl⟩
 |@cons b v e l es hk hv _ ih =>
  intro i
  obtain⟨r,hr,hiff⟩:=sameNow_of_keys (K.is a) (hk▸K.is b:IsKey d e.key)
  cases r with
  |true =>
   have:b=a:=(K.inj _ _ ((hiff.1 rfl).trans hk)).symm
   subst this
   exact .inr ⟨0,e,v,by simp[Instr.findNow,hr],rfl,hk,by simp[mget],hv⟩
  |false =>
   have hne:b≠a:=fun q=>by have:=hiff.2 (by rw[hk,q]);cases this
   rcases ih (i+1)with⟨h1,h2⟩|⟨j,e',v',h1,h2,h3,h4,h5⟩
   ·exact .inl ⟨by simp[Instr.findNow,hr,h1],by simp[mget,hne,h2]⟩
   ·exact .inr ⟨j+1,e',v',by simp[Instr.findNow,hr,h1];omega,by simpa using h2,h3,by simp[mget,hne,h4],h5⟩
theorem EntR.push [DecidableEq α]{φ:Nat→Loc}{L:Lens}{kf:α→Value}(a:α){x x':Value}(hx:Val φ L x x')(cl:Nat){l:List (α × Value)}{es:List MapEntry}(h:EntR φ L kf l es)(hn:mget l a=none):EntR φ L kf (mput l a x) (es++[⟨kf a,x',cl⟩]):=by
 induction h with
 |nil=>exact .cons rfl hx .nil
 |@cons b v e l es hk hv _ ih =>
  unfold mget at hn
  split at hn
  ·cases hn
  ·rename_i hne
   unfold mput
   rw[if_neg hne]
   exact .cons hk hv (ih hn)
theorem EntR.modify [DecidableEq α]{φ:Nat→Loc}{L:Lens}{kf:α→Value}{d:TypeDesc}(K:KeyF d kf)(a:α){x x':Value}(hx:Val φ L x x'){l:List (α × Value)}{es:List MapEntry}(h:EntR φ L kf l es) :
  ∀(j:Nat) (i:Nat) (y:Value),Instr.findNow d (kf a) es i=some (some (i+j,y))→EntR φ L kf (mput l a x) (es.modify j fun e=>{ e with key:=kf a,val:=x' }):=by
 induction h with
 |nil=>intro j i y hf;cases hf
 |@cons b v e l es hk hv hr' ih =>
  intro j i y hf
  obtain⟨r,hr,hiff⟩:=sameNow_of_keys (K.is a) (hk▸K.is b:IsKey d e.key)
  cases r with
  |true =>
   have:b=a:=(K.inj _ _ ((hiff.1 rfl).trans hk)).symm
   subst this
   simp only[Instr.findNow,hr,Option.some.injEq,Prod.mk.injEq]at hf
   obtain rfl:j=0:=by omega
   unfold mput
   rw[if_pos rfl]
   exact .cons rfl hx hr'
  |false =>
   have hne:b≠a:=fun q=>by have:=hiff.2 (by rw[hk,q]);cases this
   simp only[Instr.findNow,hr]at hf
   have hj:j≠0:=fun h0=>by
    subst h0
    rcases findNow_spec (K.is a) es (i+1) (hr'.keys K)with⟨h1,_⟩|⟨q,e',h1,_⟩
    ·rw[h1]at hf;cases hf
    ·rw[h1]at hf;simp only[Option.some.injEq,Prod.mk.injEq]at hf;omega
   obtain⟨j,rfl⟩:∃m,j=m+1:=⟨j-1,by omega⟩
   unfold mput
   rw[if_neg hne]
   exact .cons hk hv (ih j (i+1) y (by rw[hf];congr 3;omega))
end
section
variable {P:Program} {N:Fr} {o:Oper} {a:AF} {H:Heap} {α:Type}
theorem map_obj {B0:Nat}{w0:World}{φ:Nat→Loc}{w:World}(r:Rel B0 w0 φ H w){A:Nat}{kf:α→Value}{d:TypeDesc}(K:KeyF d kf){l:List (α × Value)}{ro:Bool}(hA:H[A]?=some (some ⟨mapC kf l,ro⟩))
  {u:Value} (hu:Val φ (lens H) (.map (some A)) u):u=.map (some (φ A).b)∧(φ A).mp=true∧(φ A).base=0∧∃es clock,w.heap[(φ A).b]?=some (.map es clock)∧EntR φ (lens H) kf l es.toList:=by
 cases hu with
 |map _ n q hL h =>
  obtain⟨o,c,h1,h2,h3,h4⟩:=(r.blk A _ hA).any
  refine⟨by rw[h.2],h.1,?_⟩
  cases h2 with
  |cells hm=>rw[h.1]at hm;cases hm
  |map hm hb hl =>
   refine⟨hb,_,_,h1,ent_of K ?_ fun i v hi=>?_⟩
   ·have:=mapC_len kf l;simp only at hl;simp;omega
   ·obtain⟨v',g1,g2⟩:=h4 i v hi
    rw[hb,Nat.zero_add]at g1
    exact⟨v',by simpa using g1,g2⟩
theorem e_makeMap (T:TypeId)(ho:o.op=.makeMap T none){A0:Nat}{H':Heap}(hpl:Place H A0 H' ⟨[],false⟩):AEff P N o a H (.map (some A0)) H':=by
 refine eff_value (fun B0 w0 φ w ac r hf=>?_)
 obtain⟨h1,h2⟩:=rel_newO (w':=w.alloc (.map #[] 0)) (l0:=⟨w.heap.size,0,0,true⟩) r hpl rfl rfl rfl rfl rfl rfl fun hext=>by
  refine⟨.map #[] 0,_,?_,.map (es:=#[]) (clock:=0) rfl rfl rfl,by simp,fun i v hi=>by simp at hi⟩
  exact(heap_alloc w _).1
 refine⟨_,.map (some w.heap.size),_,h1,h2,?_,?_⟩
 ·exact .map _ 0 _ hpl.lens (by rw[yK];exact⟨rfl,rfl⟩)
 ·unfold execOp
  simp only[ho,Option.map_none,Instr.makeMap,Sem.run_bind,Sem.run_pure,Result.andThen_ok]
  simp[run_newObj]
theorem a_lookup [DecidableEq α](T:TypeId)(x k:Operand){A K E s b:Nat}{d:TypeDesc}{kf:α→Value}{l:List (α × Value)}{ro:Bool}{z:Value}{c:α}(ho:o.op=.lookup T x k false)(hx:ev a x=some (.map (some A)))(hk:ev a k=some (kf c))
  (hA:H[A]?=some (some ⟨mapC kf l,ro⟩)) (hT:P.underlying T=some (.map K E)) (hK:P.underlying K=some d) (KF:KeyF d kf) (hI:tinf P E=some (some z,s,b)) (hz:yJ z=true):APure P N o a H ((mget l c).getD z):=by
 refine⟨fun B0 w0 φ w ac r hf=>?_⟩
 obtain⟨h1,_,_,es,cl,h2,h3⟩:=map_obj r KF hA (zW hf hx)
 have h4:=(zW hf hk).scalar (KF.sc c)
 rcases h3.find KF c 0 with⟨g1,g2⟩|⟨j,e,v,g1,g2,g3,g4,g5⟩
 ·refine⟨z,by rw[g2];exact Val.const hz,fun w1 hb=>?_⟩
  have h2':w1.heap[(φ A).b]?=some (.map es cl):=by rw[hb.block _ (r.lt hA)];exact h2
  unfold execOp
  simp only[ho,h1,h4,Instr.lookup,Sem.run_bind,run_underlying hT,Result.andThen_ok,MapKept.run_getObj_map h2',Sem.run_pure,run_checkKey hK (KF.is c),run_findKey hK g1,run_zeroValue hI,Bool.false_eq_true,if_false]
 ·refine⟨e.val,by rw[g4];exact g5,fun w1 hb=>?_⟩
  have h2':w1.heap[(φ A).b]?=some (.map es cl):=by rw[hb.block _ (r.lt hA)];exact h2
  unfold execOp
  simp only[ho,h1,h4,Instr.lookup,Sem.run_bind,run_underlying hT,Result.andThen_ok,MapKept.run_getObj_map h2',Sem.run_pure,run_checkKey hK (KF.is c),run_findKey hK g1,Bool.false_eq_true,if_false]
theorem e_mapUpdate [DecidableEq α](T:TypeId)(x k y:Operand){A K E:Nat}{d:TypeDesc}{kf:α→Value}{l:List (α × Value)}{c:α}{v:Value}(ho:o.op=.mapUpdate T x k y)(hx:ev a x=some (.map (some A)))(hk:ev a k=some (kf c))(hy:ev a y=some v)
  (hA:H[A]?=some (some ⟨mapC kf l,false⟩)) (hT:P.underlying T=some (.map K E)) (hK:P.underlying K=some d) (KF:KeyF d kf):AEff P N o a H undef (H.set A (some ⟨mapC kf (mput l c v),false⟩)):=by
 refine eff_unit (fun B0 w0 φ w ac r hf=>?_)
 obtain⟨h1,hmp,hbase,es,cl,h2,h3⟩:=map_obj r KF hA (zW hf hx)
 have h4:=(zW hf hk).scalar (KF.sc c)
 have h5:=zW hf hy
 generalize hvv:ac.eval y=v' at h5
 have hupd:upd φ A (φ A)=φ:=by funext B;unfold upd;split <;> simp_all
 have hlt:=r.lt hA
 have key:∀(es':Array MapEntry) (cl':Nat),EntR φ (lens H) kf (mput l c v) es'.toList →
   ∃φ',Ext φ (lens H) φ' (lens (H.set A (some ⟨mapC kf (mput l c v),false⟩)))∧Rel B0 w0 φ' (H.set A (some ⟨mapC kf (mput l c v),false⟩)) { w with heap:=w.heap.setIfInBounds (φ A).b (.map es' cl') }:=fun es' cl' he=>by
  obtain⟨g1,g2⟩:=rel_setO (w':={ w with heap:=w.heap.setIfInBounds (φ A).b (.map es' cl') }) (g':=⟨mapC kf (mput l c v),false⟩) (l':=φ A) r hA rfl rfl rfl rfl (by simp) (fun q _ hq=>(heap_set h2).2 q hq) (.inl rfl) hbase
   (by
    have h6:=mapC_len kf l
    have h7:=mapC_len kf (mput l c v)
    have h8:=mput_len l c v
    by_cases hn:mget l c=none
    ·rw[if_pos hn]at h8;exact .inr ⟨by simp only;omega,fun _=>rfl⟩
    ·rw[if_neg hn]at h8;exact .inl ⟨by simp only;omega,rfl⟩)
   (fun hext=>by
    rw[hupd]at hext ⊢
    have he':=he.mono hext
    refine⟨_,_,(heap_set h2).1,.map hmp hbase ?_,?_,fun i u hi=>?_⟩
    ·have h6:=mapC_len kf (mput l c v);have:=he.len;simp at this;(first|omega|(simp only;omega))
    ·have h6:=mapC_len kf (mput l c v);have:=he.len;rw[hbase];simp only[List.size_toArray,flat_len];(first|omega|(simp only;omega))
    ·obtain⟨u',k1,k2⟩:=he'.row KF i u hi
     exact⟨u',by rw[hbase,Nat.zero_add];simpa using k1,k2⟩)
  exact⟨_,g1,g2⟩
 rcases h3.find KF c 0 with⟨g1,g2⟩|⟨j,e,u,g1,g2,g3,g4,g5⟩
 ·obtain⟨φ',k1,k2⟩:=key (es.push { key:=kf c,val:=v',born:=cl }) (cl+1) (by simpa using h3.push c h5 cl g2)
  refine⟨φ',_,k1,k2,?_⟩
  unfold execOp
  simp only[ho,h1,h4,hvv,Instr.mapUpdate,Sem.run_bind,run_underlying hT,Result.andThen_ok,MapKept.run_getObj_map h2,Sem.run_pure,run_checkKey hK (KF.is c),run_findKey hK g1,MapKept.run_setObj_map _ h2]
 ·have hj:es[j]?=some e:=by simpa using g2
  rw[Nat.zero_add]at g1
  have g1':Instr.findNow d (kf c) es.toList 0=some (some (0+j,e.val)):=by rw[Nat.zero_add];exact g1
  obtain⟨φ',k1,k2⟩:=key (es.modify j fun e=>{ e with key:=kf c,val:=v' }) cl (by
   have:=h3.modify KF c h5 j 0 _ g1'
   simpa using this)
  refine⟨φ',_,k1,k2,?_⟩
  unfold execOp
  simp only[ho,h1,h4,hvv,Instr.mapUpdate,Sem.run_bind,run_underlying hT,Result.andThen_ok,MapKept.run_getObj_map h2,Sem.run_pure,run_checkKey hK (KF.is c),run_findKey hK g1,hj,Option.map_some,Option.getD_some,g3,run_keyThatStays (KF.is c),MapKept.run_setObj_map _ h2]
theorem a_slice3f (T:TypeId)(x hi mx:Operand){A off n len fl E s b:Nat}{z:Option Value}{j k:IntKind}{h:Int}(ho:o.op=.slice T x none (some hi) (some mx))(hx:ev a x=some (gsl A off n len fl))
  (hhi:ev a hi=some (.int j h)) (hmx:ev a mx=some (.int k h)) (hT:P.underlying T=some (.slice E)) (hI:tinf P E=some (z,s,b)) (h1:0≤h∧h≤len):APure P N o a H (.slice (some ⟨A,off,none⟩) h.toNat (n+1)):=by
 refine⟨fun B0 w0 φ w ac r hf=>?_⟩
 have hu:=zW hf hx
 have e2:=(zW hf hhi).scalar rfl
 have e3:=(zW hf hmx).scalar rfl
 generalize hv:ac.eval x=u at hu
 cases hu with
 |slc _ _ _ m _ _ cap c hL hle hc hm hh =>
  refine⟨.slice (some c) h.toNat h.toNat,.full _ _ _ m _ _ hL hle (by omega) (fun e=>⟨(hh e).1,(hh e).2.2⟩),fun w _=>?_⟩
  unfold execOp
  simp only[ho,hv,e2,e3,Instr.sliceAt,Instr.slice,Option.map_some,Option.map_none,Sem.run_bind,run_underlying hT,Result.andThen_ok,Instr.sliceBounds,Instr.sliceBound,asIntOf,Sem.run_pure,
   Sem.run_ite,if_pos (show 0≤h∧h≤(cap:Int)from⟨by omega,by omega⟩),if_pos (show 0≤h∧h≤(h.toNat:Int)from⟨by omega,by omega⟩),run_sizeOf hI,Nat.zero_mul]
  simp[Addr.add]
theorem a_slice3 (T:TypeId)(x lo hi mx:Operand){A off n len fl E s b:Nat}{z:Option Value}{i' j k:IntKind}{i h:Int}(ho:o.op=.slice T x (some lo) (some hi) (some mx))(hx:ev a x=some (gsl A off n len fl))
  (hlo:ev a lo=some (.int i' i)) (hhi:ev a hi=some (.int j h)) (hmx:ev a mx=some (.int k h)) (hT:P.underlying T=some (.slice E)) (hI:tinf P E=some (z,s,b)) (h1:0≤i∧i≤h∧h≤len) (h2:i<h):APure P N o a H (gsl A (off+i.toNat*s) n (h-i).toNat 0):=by
 refine⟨fun B0 w0 φ w ac r hf=>?_⟩
 have hu:=zW hf hx
 have e1:=(zW hf hlo).scalar rfl
 have e2:=(zW hf hhi).scalar rfl
 have e3:=(zW hf hmx).scalar rfl
 generalize hv:ac.eval x=u at hu
 cases hu with
 |slc _ _ _ m _ _ cap c hL hle hc hm hh =>
  refine⟨.slice (some (c.add (i.toNat*s))) (h.toNat-i.toNat) (h.toNat-i.toNat),?_,fun w _=>?_⟩
  ·rw[show h.toNat-i.toNat=(h-i).toNat from by omega]
   exact .slc _ _ _ m _ _ _ _ hL hle (by omega) (by omega) (fun e=>⟨by rw[(hh e).1,addr_add,Nat.add_assoc],fun q=>absurd rfl q,(hh e).2.2⟩)
  ·unfold execOp
   simp only[ho,hv,e1,e2,e3,Instr.sliceAt,Instr.slice,Option.map_some,Sem.run_bind,run_underlying hT,Result.andThen_ok,Instr.sliceBounds,Instr.sliceBound,asIntOf,Sem.run_pure,
    Sem.run_ite,if_pos (show 0≤h∧h≤(cap:Int)from⟨by omega,by omega⟩),if_pos (show 0≤h∧h≤(h.toNat:Int)from⟨by omega,by omega⟩),if_pos (show 0≤i∧i≤(h.toNat:Int)from⟨by omega,by omega⟩),run_sizeOf hI]
   rw[if_neg (by omega)]
theorem a_slice3n (T:TypeId)(x hi mx:Operand){E s b:Nat}{z:Option Value}{j k:IntKind}(ho:o.op=.slice T x none (some hi) (some mx))(hx:ev a x=some (.slice none 0 0))
  (hhi:ev a hi=some (.int j 0)) (hmx:ev a mx=some (.int k 0)) (hT:P.underlying T=some (.slice E)) (hI:tinf P E=some (z,s,b)):APure P N o a H (.slice none 0 0):=by
 refine⟨fun B0 w0 φ w ac r hf=>?_⟩
 have e1:ac.eval x=.slice none 0 0:=Val.det rfl (zW hf hx)
 have e2:=(zW hf hhi).scalar rfl
 have e3:=(zW hf hmx).scalar rfl
 refine⟨.slice none 0 0,.snil,fun w _=>?_⟩
 unfold execOp
 simp only[ho,e1,e2,e3,Instr.sliceAt,Instr.slice,Option.map_some,Option.map_none,Sem.run_bind,run_underlying hT,Result.andThen_ok,Instr.sliceBounds,Instr.sliceBound,asIntOf,Sem.run_pure,
  Sem.run_ite,run_sizeOf hI]
 simp
end
section
variable {P:Program} {tt:TT} {sz:Nat} {ops:Array Oper} {Q:SPost} {rest:List Oper} {a:AF} {h h' h1 h2:SH} {m:Mode} {t:Nat} {op:Op} {ty:TypeId} {pos:String} {aft:Array Edge} {p:Prop} {v:Value} {α:Type}
theorem o_makeMap {T:Nat}(hN:Nat.blt t sz=true)(k:∀A,GO (m.nw h (A,⟨[],false⟩)) P sz ops Q rest ((t,.map (some A))::a) ((A,⟨[],false⟩)::h)):GO m P sz ops Q (⟨some t,.makeMap T none,ty,pos,aft,none⟩::rest) a h :=
 o_new (v:=fun A=>.map (some A)) hN (fun _ _ _ _ _ hpl _=>e_makeMap T rfl hpl) k
theorem o_lookup [DecidableEq α]{T:Nat}{x y:Operand}{A K E s b:Nat}{tk:TK}{d:TypeDesc}{kf:α→Value}{l:List (α × Value)}{ro:Bool}{z:Value}{c:α}(ht:tt.Ok P)(hx:ev a x=some (.map (some A)))(hp:Pick h A ⟨mapC kf l,ro⟩ h1)(hk:ev a y=some (kf c))
  (hT:P.underlying T=some (.map K E)) (hK:P.underlying K=some d) (KF:KeyF d kf) (hE:tt.get E=some ⟨tk,s,b,some z⟩) (hz:yJ z=true) (hr:(mget l c).getD z=v) (hN:Nat.blt t sz=true)
  (k:GO .seq P sz ops Q rest ((t,v)::a) h):GO .seq P sz ops Q (⟨some t,.lookup T x y false,ty,pos,aft,none⟩::rest) a h:=by
 obtain⟨_,hI,hz'⟩:=te_inf (TT.get_ok ht hE)
 subst hr
 exact o_read (m:=.seq) (fun h'=>∃h1,Pick h' A ⟨mapC kf l,ro⟩ h1) ⟨_,hp⟩ (fun _ _ _ _ _ i ⟨_,hp⟩ hag=>a_lookup T x y rfl ((hag.ev (by simp[Op.operands,Call.operands])).trans hx) ((hag.ev (by simp[Op.operands,Call.operands])).trans hk) (i.look hp) hT hK KF (hz' _ rfl▸hI) hz) hN trivial k
theorem o_mapUpdate [DecidableEq α]{T:Nat}{x y z:Operand}{A K E:Nat}{d:TypeDesc}{kf:α→Value}{l:List (α × Value)}{c:α}(hx:ev a x=some (.map (some A)))(hu:Upd h A ⟨mapC kf l,false⟩ ⟨mapC kf (mput l c v),false⟩ h')(hk:ev a y=some (kf c))(hv:ev a z=some v)
  (hT:P.underlying T=some (.map K E)) (hK:P.underlying K=some d) (KF:KeyF d kf) (k:GO .seq P sz ops Q rest a h'):GO .seq P sz ops Q (⟨none,.mapUpdate T x y z,ty,pos,aft,none⟩::rest) a h :=
 o_upd (m:=.seq) rfl hu (fun _ _ _ hA hag=>e_mapUpdate T x y z rfl ((hag.ev (by simp[Op.operands,Call.operands])).trans hx) ((hag.ev (by simp[Op.operands,Call.operands])).trans hk) ((hag.ev (by simp[Op.operands,Call.operands])).trans hv) hA hT hK KF) trivial k
theorem o_slice3f {T:Nat}{x y z:Operand}{A off n len fl E s1 b1:Nat}{z1:Option Value}{j kk:IntKind}{i:Int}{e:TE}(ht:tt.Ok P)(hx:ev a x=some (gsl A off n len fl))(hy:ev a y=some (.int j i))(hz:ev a z=some (.int kk i))(hT:tt.get T=some ⟨.slice E,s1,b1,z1⟩)(hE:tt.get E=some e)
  (hi:Sd (0≤i∧i≤len)) (hN:Nat.blt t sz=true) (k:GO m.next P sz ops Q rest ((t,.slice (some ⟨A,off,none⟩) i.toNat (n+1))::a) h):GO m P sz ops Q (⟨some t,.slice T x none (some y) (some z),ty,pos,aft,none⟩::rest) a h :=
 o_pure (fun _ _ _ hag=>let ⟨_,hI,_⟩:=te_inf (TT.get_ok ht hE);a_slice3f T x y z rfl ((hag.ev (by simp[Op.operands,Call.operands])).trans hx) ((hag.ev (by simp[Op.operands,Call.operands])).trans hy) ((hag.ev (by simp[Op.operands,Call.operands])).trans hz) (te_slice (TT.get_ok ht hT) rfl) hI hi.1) hN k
theorem o_slice3n {T:Nat}{x y z:Operand}{E s1 b1:Nat}{z1:Option Value}{j kk:IntKind}{e:TE}(ht:tt.Ok P)(hx:ev a x=some (.slice none 0 0))(hy:ev a y=some (.int j 0))(hz:ev a z=some (.int kk 0))(hT:tt.get T=some ⟨.slice E,s1,b1,z1⟩)(hE:tt.get E=some e)
  (hN:Nat.blt t sz=true) (k:GO m.next P sz ops Q rest ((t,.slice none 0 0)::a) h):GO m P sz ops Q (⟨some t,.slice T x none (some y) (some z),ty,pos,aft,none⟩::rest) a h :=
 o_pure (fun _ _ _ hag=>let ⟨_,hI,_⟩:=te_inf (TT.get_ok ht hE);a_slice3n T x y z rfl ((hag.ev (by simp[Op.operands,Call.operands])).trans hx) ((hag.ev (by simp[Op.operands,Call.operands])).trans hy) ((hag.ev (by simp[Op.operands,Call.operands])).trans hz) (te_slice (TT.get_ok ht hT) rfl) hI) hN k
theorem o_slice3 {T:Nat}{x w y z:Operand}{A off n len fl E s1 b1 s b:Nat}{z1 z2:Option Value}{i' j kk:IntKind}{lo i:Int}{tk:TK}(ht:tt.Ok P)(hx:ev a x=some (gsl A off n len fl))(hw:ev a w=some (.int i' lo))(hy:ev a y=some (.int j i))(hz:ev a z=some (.int kk i))(hT:tt.get T=some ⟨.slice E,s1,b1,z1⟩)(hE:tt.get E=some ⟨tk,s,b,z2⟩)
  (hi:Sd ((0≤lo∧lo≤i∧i≤len)∧lo<i)) (hN:Nat.blt t sz=true) (k:GO m.next P sz ops Q rest ((t,gsl A (off+lo.toNat*s) n (i-lo).toNat 0)::a) h):GO m P sz ops Q (⟨some t,.slice T x (some w) (some y) (some z),ty,pos,aft,none⟩::rest) a h :=
 o_pure (fun _ _ _ hag=>let ⟨_,hI,_⟩:=te_inf (TT.get_ok ht hE);a_slice3 T x w y z rfl ((hag.ev (by simp[Op.operands,Call.operands])).trans hx) ((hag.ev (by simp[Op.operands,Call.operands])).trans hw) ((hag.ev (by simp[Op.operands,Call.operands])).trans hy) ((hag.ev (by simp[Op.operands,Call.operands])).trans hz) (te_slice (TT.get_ok ht hT) rfl) hI hi.1.1 hi.1.2) hN k
end
end Go.Gh
end
section
set_option maxRecDepth 4000
namespace Go.Proofs.YteddogfolceahaaGreatDoor
open Go.Gh Go.RowKit

abbrev iV (z:Int):Value:=I z
abbrev trF (x:Int × Value):List Value:=[I x.1,x.2]
theorem trW :∀x:Int × Value,(trF x).length=2:=fun _=>rfl
def trR (N M K b:Nat)(i:Nat):Int × Value:=((b:Int),gsl N (i*K) M K 0)
theorem shl_nat {m b M:Nat}(hm:m*2^b=M)(hb:b≤8)(hM:M≤100000):IntKind.i64.wrap ((m:Int)*2^(min ((b:Int)).toNat IntKind.i64.bits))=((M:Nat):Int):=by
 have h64:IntKind.i64.bits=64:=rfl
 rw[Int.toNat_natCast,h64,Nat.min_eq_left (by omega),←hm]
 have e:((m*2^b:Nat):Int)=(m:Int)*2^b:=by rw[Int.natCast_mul,Int.natCast_pow];rfl
 rw[←e]
 exact IntWalk.i64_in _ (by omega)
theorem rep_of {α:Type}[Inhabited α]{l:List α}{x:α}{n:Nat}(hl:l.length=n)(h:∀j,j<n→l[j]! = x):l=List.replicate n x:=by
 apply List.ext_getElem (by simpa using hl)
 intro i h1 h2
 have:=h i (by omega)
 rw[getElem!_pos l i h1]at this
 simpa using this
theorem map_of {α:Type}[Inhabited α]{l:List α}{f:Nat→α}{n:Nat}(hl:l.length=n)(h:∀j,j<n→l[j]! = f j):l=(List.range n).map f:=by
 apply List.ext_getElem (by simpa using hl)
 intro i h1 h2
 have:=h i (by omega)
 rw[getElem!_pos l i h1]at this
 simpa using this
theorem set_bang {α:Type}[Inhabited α]{l:List α}{i j:Nat}{x:α}(hi:i<l.length)(hj:j<l.length):(l.set i x)[j]! = if i=j then x else l[j]!:=by
 rw[getElem!_pos (l.set i x) j (by simpa using hj),List.getElem_set]
 split
 ·rfl
 ·rw[getElem!_pos l j hj]
def Planted (n b:Nat)(h:SH)(r:Value)(q:SH):Prop :=
 ∃T N,r=gsl T 0 (n*2) n 2∧q=(T,⟨recs trF ((List.range n).map (trR N (n*2^b) (2^b) b)),false⟩)::(N,⟨(List.replicate (n*2^b) (1024:Int)).map iV,false⟩)::h
theorem plant_any (n b:Nat)(h:SH)(hn:1≤n∧n≤8)(hb:1≤b∧b≤8) :
  SRun Tryz.prog 151 [I n,I b] h fun r q=>Planted n b h r q:=by
 have hK:2^b≤256:=Nat.pow_le_pow_right (n:=2) (by decide) hb.2
 have hK0:0<2^b:=Nat.two_pow_pos b
 unfold Planted
 have hsh:∀m:Nat,m≤9→IntKind.i64.wrap ((m:Int)*2^(min ((b:Int)).toNat IntKind.i64.bits))=((m*2^b:Nat):Int):=fun m hm=>shl_nat rfl hb.2 (by
  have:=Nat.mul_le_mul hm hK;omega)
 generalize hKe:2^b=K at *
 have hM1:n*K≤2048:=Nat.mul_le_mul hn.2 hK
 have hmul:∀i,i<n→i*K+K≤n*K∧(i+1)*K=i*K+K:=fun i hi=>⟨by have:=Nat.mul_le_mul_right K (Nat.succ_le_of_lt hi);rw[Nat.succ_mul]at this;exact this,Nat.succ_mul i K⟩
 have hshn:=hsh n (by omega)
 generalize hM:n*K=M at *
 have hz1:zrow (.int .i64 0) (M*1)=(List.replicate M (0:Int)).map iV:=map_zrow (f:=iV) 0 rfl rfl M
 have hz2:zrow (.agg ⟨[I 0,.slice none 0 0]⟩) (n*2)=recs trF (List.replicate n (0,.slice none 0 0)):=recs_zrow trW (by decide) _ rfl n
 refine zY Tryz.func151 rfl rfl ?_
 repeat'(first|apply zF|apply zB|apply zE|refine jg ?_ ?_|(apply o_ar zC;exact rfl;exact rfl)|(apply o_makeSlice zC;(iterate 6 exact rfl);decide;omega;(focus first|exact hz1);exact rfl)|apply zA|apply zH|exact jO|((with_reducible apply Wr.mk);first|exact hshn)|intro A)
 obtain⟨N,rfl⟩:∃N,N=A:=⟨_,rfl⟩
 have hg1:gsl N 0 (M*1) M 1=gsl N 0 M M 1:=gslE rfl rfl (Nat.mul_one _) rfl rfl
 refine zZ (S:=Nat × List Int) (fun x=>[(0,I n),(1,I b),(5,gsl N 0 M M 1),(15,gsl N 0 M M 1),(16,I M),(17,I x.1)]) (fun x=>(N,⟨x.2.map iV,false⟩)::h) (fun x=>x.1≤M∧x.2.length=M∧∀j,j<x.1→x.2[j]! = 1024) (fun x=>M-x.1) (0,List.replicate M 0) ⟨Nat.zero_le _,by simp,fun j hj=>absurd hj (Nat.not_lt_zero _)⟩ ⟨rfl,rfl,congrArg some hg1,congrArg some hg1,rfl,rfl,trivial⟩ jK ?_
 rintro⟨i,L⟩ ⟨hi,hl,hall⟩
 dsimp only at hi hl hall ⊢
 by_cases hiM:i<M
 ·repeat'(first|apply zF|apply zB|apply zE|refine jg ?_ ?_|(apply o_ar zC;exact rfl;exact rfl)|(apply zX zC;(iterate 4 exact rfl);exact up)|refine jd ?_|apply zA|apply zG|apply zI|apply zH|exact jO|((with_reducible apply Ln.mk);first|(simp ;first|done|omega))|exact jW|((with_reducible apply Se.mk);first|exact setAt_mapZ (by omega))|exact True.intro)
  all_goals first
   |(exfalso;omega)
   |exact⟨(i+1,L.set i 1024),⟨hiM,by simpa using hl,fun j hj=>by
     rw[set_bang (by omega) (by omega)]
     split
     ·rfl
     ·exact hall j (by omega)⟩,by show M-(i+1)<M-i;omega,jB,jK⟩
 ·obtain rfl:i=M:=by omega
  obtain rfl:=rep_of hl hall
  clear hall hl hi hiM
  repeat'(first|apply zF|apply zB|apply zE|refine jg ?_ ?_|(apply o_makeSlice zC;(iterate 6 exact rfl);decide;omega;(focus first|exact hz2);exact rfl)|refine jf ?_|apply zA|apply zK|apply zJ|apply zV|apply zH|exact jS|intro A)
  obtain⟨T,rfl⟩:∃T,T=A:=⟨_,rfl⟩
  refine zZ (S:=Nat × List (Int × Value)) (fun x=>[(0,I n),(1,I b),(5,gsl N 0 i i 1),(7,gsl T 0 (n*2) n 2),(26,gsl T 0 (n*2) n 2),(27,I n),(28,I x.1)]) (fun x=>(T,⟨recs trF x.2,false⟩)::(N,⟨(List.replicate i (1024:Int)).map iV,false⟩)::h) (fun x=>x.1≤n∧x.2.length=n∧∀j,j<x.1→x.2[j]! = trR N i K b j) (fun x=>n-x.1) (0,List.replicate n (0,.slice none 0 0)) ⟨Nat.zero_le _,by simp,fun j hj=>absurd hj (Nat.not_lt_zero _)⟩ jB jK ?_
  rintro⟨m,L⟩ ⟨hm,hl,hall⟩
  dsimp only at hm hl hall ⊢
  have hlr:=recs_len (f:=trF) (l:=L) trW
  by_cases hmn:m<n
  ·obtain⟨hm1,hm2⟩:=hmul m hmn
   have hs1:=hsh m (by omega)
   have hs2:IntKind.i64.wrap (((m:Int)+1)*2^(min ((b:Int)).toNat IntKind.i64.bits))=(((m+1)*K:Nat):Int):=hsh (m+1) (by omega)
   rw[hm2]at hs2
   obtain⟨w,hw⟩:∃w,w=m*K:=⟨_,rfl⟩
   rw[←hw]at hs1 hs2 hm1
   have hput:PutAt (recs trF L) (0+((m:Int)).toNat*2) [I b,gsl N (0+((w:Nat):Int).toNat*1) i (((w+K:Nat):Int)-((w:Nat):Int)).toNat 0] (recs trF (L.set m (trR N i K b m))):=by
    have e:[I (b:Int),gsl N (0+((w:Nat):Int).toNat*1) i (((w+K:Nat):Int)-((w:Nat):Int)).toNat 0]=trF (trR N i K b m):=by
     unfold trR trF
     rw[gslE (A:=N) (A':=N) rfl (show 0+((w:Nat):Int).toNat*1=m*K by omega) rfl (show(((w+K:Nat):Int)-((w:Nat):Int)).toNat=K by omega) rfl]
    rw[e]
    exact putAt_recZ trW (by omega)
   repeat'(first|apply zF|apply zB|apply zE|refine jr ?_|refine jg ?_ ?_|(apply o_ar zC;exact rfl;exact rfl)|(apply yE zC;(iterate 4 exact rfl);exact⟨rfl⟩;exact up)|(apply yT zC;exact rfl;exact rfl;(focus first|with_reducible exact pl197);exact rfl;(focus repeat(first|exact BuildR.nil|(apply BuildR.one;exact rfl;exact rfl;(first|(focus(repeat(first|exact SetAt.zero|apply SetAt.succ));done)))));exact rfl)|(apply o_slice3 zC;iterate 6 exact rfl)|refine jd ?_|apply zA|apply zG|apply zI|apply zH|exact jO|((with_reducible apply Ln.mk);first|omega)|((with_reducible apply Wr.mk);first|exact hs1|exact hs2|exact IntWalk.i64_in _ (by omega))|((with_reducible apply Pu.mk);first|exact hput)|exact True.intro|exact rfl)
   all_goals first
    |(exfalso;omega)
    |exact⟨(m+1,L.set m (trR N i K b m)),⟨hmn,by simpa using hl,fun j hj=>by
      rw[set_bang (by omega) (by omega)]
      split
      ·subst_vars;rfl
      ·exact hall j (by omega)⟩,by show n-(m+1)<n-m;omega,jB,jK⟩
  ·obtain rfl:m=n:=by omega
   obtain rfl:=map_of hl hall
   repeat'(first|apply zF|apply zB|apply zE|refine jg ?_ ?_|refine jf ?_|apply zA|apply zK|apply zJ|apply zN|apply zV|exact jS|fail)
   all_goals first
    |(exfalso;omega)
    |exact jF (k:=by exact⟨T,N,rfl,rfl⟩)

abbrev nodes (L:List Int):List Value:=L.map iV
def trs8 (N:Nat):List (Int × Value):=(List.range 8).map (trR N 2048 256 8)
theorem plant8 (h:SH):SRun Tryz.prog 151 [I 8,I 8] h fun r q =>
  ∃T N,r=gsl T 0 16 8 2∧q=(T,⟨recs trF (trs8 N),false⟩)::(N,⟨nodes (List.replicate 2048 1024),false⟩)::h:=plant_any 8 8 h (by decide) (by decide)
theorem plant1 (b:Nat)(h:SH)(hb:1≤b∧b≤8):SRun Tryz.prog 151 [I 1,I b] h fun r q =>
  ∃T N,r=gsl T 0 2 1 2∧q=(T,⟨[I b,gsl N 0 (2^b) (2^b) 0],false⟩)::(N,⟨nodes (List.replicate (2^b) 1024),false⟩)::h :=
 (plant_any 1 b h (by decide) hb).mono fun r q ⟨T,N,h1,h2⟩=>⟨T,N,h1,by
  rw[h2,Nat.one_mul]
  show(T,(⟨[I b,gsl N (0*2^b) (2^b) (2^b) 0],false⟩:Blk))::_=_
  rw[Nat.zero_mul]⟩
theorem NewNumbers_any (h:SH):SRun Tryz.prog 100 [] h fun r q =>
  ∃M N,r=gptr M 0 2∧q=(M,⟨[I 6,gsl N 0 64 64 0],false⟩)::(N,⟨nodes (List.replicate 64 1024),false⟩)::h:=by
 have hp:∀h,SRun Tryz.prog 151 [I 1,I 6] h fun r q=>∃T N,r=gsl T 0 2 1 2∧q=(T,⟨[I 6,gsl N 0 64 64 0],false⟩)::(N,⟨nodes (List.replicate 64 1024),false⟩)::h:=fun h=>plant1 6 h (by decide)
 generalize nodes (List.replicate 64 1024)=X at *
 refine w_body0 Tryz.func100 rfl rfl ?_
 repeat'(first|apply zF|apply zB|apply zE|refine jg ?_ ?_|(apply yQ zC;(iterate 3 exact rfl);exact pk)|refine jx ?_|(apply yT zC;exact rfl;exact rfl;(focus first|with_reducible exact pl201);exact rfl;(focus repeat(first|exact BuildR.nil|(apply BuildR.agg;exact rfl;exact rfl;(first|exact yA rfl))));exact rfl)|(refine jc ?_ (c:=by exact⟨_,hp _,jN⟩);rintro _ _ ⟨T,N,rfl,rfl⟩)|apply zA|apply zN|exact jO|exact jL|exact jU|exact True.intro|intro A|exact rfl)
 all_goals first
  |exact jF (k:=by exact⟨A,N,rfl,rfl⟩)
theorem NewTree_any (z:Int)(h:SH):SRun Tryz.prog 168 [I z] h fun r q =>
  (1≤z∧z≤8∧∃T N,r=.tuple #[gptr T 0 2,I 0]∧q=(T,⟨[I z,gsl N 0 (2^z.toNat) (2^z.toNat) 0],false⟩)::(N,⟨nodes (List.replicate (2^z.toNat) 1024),false⟩)::h)∨(¬(1≤z∧z≤8)∧r=.tuple #[.pointer none,I 2]∧q=h):=by
 by_cases hz:1≤z∧z≤8
 ·obtain⟨b,rfl⟩:=Int.eq_ofNat_of_zero_le (show 0≤z by omega)
  have hp:=fun h=>plant1 b h (by omega)
  rw[Int.toNat_natCast]
  generalize hX:nodes (List.replicate (2^b) 1024)=X at *
  refine zR Tryz.func168 rfl rfl ?_
  repeat'(first|apply zF|apply zB|apply zE|refine jg ?_ ?_|(refine jc ?_ (c:=by exact⟨_,hp _,jN⟩);rintro _ _ ⟨T,N,rfl,rfl⟩)|refine jw ?_|refine ji ?_|refine jf ?_|apply zA|apply zI|apply zN|exact jO|fail)
  all_goals first
   |(exfalso;omega)
   |exact jF (k:=by exact .inl ⟨hz.1,hz.2,T,N,rfl,rfl⟩)
 ·refine zR Tryz.func168 rfl rfl ?_
  repeat'(first|apply zF|apply zB|apply zE|refine jg ?_ ?_|refine jw ?_|refine jk ?_|(apply o_guardF;(iterate 3 exact rfl);all_goals intro hc)|(apply yB;exact rfl)|refine jd ?_|apply zA|apply zP|apply zN|exact jS|fail)
  all_goals first
   |(exfalso;omega)
   |exact jF (k:=by exact .inr ⟨hz,rfl,rfl⟩)
theorem NewBytes_any (h:SH):SRun Tryz.prog 169 [] h fun r q =>
  ∃M N,r=gptr M 0 17∧q=(M,⟨recs trF (trs8 N)++[Y 0],false⟩)::(N,⟨nodes (List.replicate 2048 1024),false⟩)::h:=by
 have hp:=plant8
 generalize nodes (List.replicate 2048 1024)=X at *
 have hput:∀N,PutAt [.int .i64 0,.slice none 0 0,.int .i64 0,.slice none 0 0,.int .i64 0,.slice none 0 0,.int .i64 0,.slice none 0 0,.int .i64 0,.slice none 0 0,.int .i64 0,.slice none 0 0,.int .i64 0,.slice none 0 0,.int .i64 0,.slice none 0 0,.int .u8 0] 0 (recs trF (trs8 N)) (recs trF (trs8 N)++[Y 0]):=fun N=>⟨(by decide:16≤17),rfl⟩
 refine w_body0 Tryz.func169 rfl rfl ?_
 repeat'(first|apply zF|apply zB|apply zE|refine jg ?_ ?_|(apply yQ zC;(iterate 3 exact rfl);exact pk)|refine jx ?_|(apply yT zC;exact rfl;exact rfl;(focus first|with_reducible exact pl230);exact rfl;(focus repeat(first|exact BuildR.nil|(apply BuildR.agg;exact rfl;exact rfl;(first|exact hput _))));exact rfl)|(apply o_s2a;exact rfl;(focus(first|exact rfl));exact⟨by omega⟩;exact rfl)|(refine jc ?_ (c:=by exact⟨_,hp _,jN⟩);rintro _ _ ⟨T,N,rfl,rfl⟩)|apply zA|apply zN|exact jS|exact jL|exact jU|exact True.intro|intro A|exact rfl)
 all_goals first
  |exact jF (k:=by exact⟨A,N,rfl,rfl⟩)
end Go.Proofs.YteddogfolceahaaGreatDoor
end
section
set_option maxRecDepth 4000
namespace Go.Gh
open Go.RowKit Go.MapKept

section
variable {P:Program} {N:Fr} {ops:Array Oper} {Q:Post} {rest:List Oper} {o:Oper} {a:AF} {H:Heap} {α:Type}
theorem a_slice3e (T:TypeId)(x lo hi mx:Operand){A off n len fl E s b:Nat}{z:Option Value}{i' j k:IntKind}{i:Int}(ho:o.op=.slice T x (some lo) (some hi) (some mx))(hx:ev a x=some (gsl A off n len fl))
  (hlo:ev a lo=some (.int i' i)) (hhi:ev a hi=some (.int j i)) (hmx:ev a mx=some (.int k i)) (hT:P.underlying T=some (.slice E)) (hI:tinf P E=some (z,s,b)) (h1:0≤i∧i≤len):APure P N o a H sempty:=by
 refine⟨fun B0 w0 φ w ac r hf=>?_⟩
 have hu:=zW hf hx
 have e1:=(zW hf hlo).scalar rfl
 have e2:=(zW hf hhi).scalar rfl
 have e3:=(zW hf hmx).scalar rfl
 generalize hv:ac.eval x=u at hu
 cases hu with
 |slc _ _ _ m _ _ cap c hL hle hc hm hh =>
  refine⟨.slice (some c) 0 0,.sdead _ _ (by omega),fun w _=>?_⟩
  unfold execOp
  simp only[ho,hv,e1,e2,e3,Instr.sliceAt,Instr.slice,Option.map_some,Sem.run_bind,run_underlying hT,Result.andThen_ok,Instr.sliceBounds,Instr.sliceBound,asIntOf,Sem.run_pure,
   Sem.run_ite,if_pos (show 0≤i∧i≤(cap:Int)from⟨by omega,by omega⟩),if_pos (show 0≤i∧i≤(i.toNat:Int)from⟨by omega,by omega⟩),run_sizeOf hI]
  simp
theorem exec_copy {ρ:Operand→Value}{t u:TypeId}{x y:Operand}{v:Value}{w w':World}(ho:o.op=.call { callee:=.builtin .copy,args:=#[x,y],argTypes:=#[t,u] })
  (hr:(Builtin.copy_ #[t,u] o.type #[ρ x,ρ y]).run P w=.ok v w'):(execOp ρ o).run P w=.ok (.value v) w':=by
 unfold execOp
 simp only[ho,resolve,invoke,builtin,Sem.run_bind,Sem.run_pure,Result.andThen_ok,List.map_toArray,List.map_cons,List.map_nil,hr]
theorem e_copyf (T U:TypeId)(x y:Operand){A off n len fl A2 off2 n2 k E b:Nat}{z:Option Value}{cells vs:List Value}{g2:Blk}
  (ho:o.op=.call { callee:=.builtin .copy,args:=#[x,y],argTypes:=#[T,U] }) (hx:ev a x=some (gsl A off n len fl)) (hy:ev a y=some (.slice (some ⟨A2,off2,none⟩) k (n2+1)))
  (hT:P.underlying T=some (.slice E)) (hI:tinf P E=some (z,1,b)) (hA:H[A]?=some (some ⟨cells,false⟩)) (hn:cells.length=n) (hA2:H[A2]?=some (some g2)) (hn2:g2.cells.length=n2)
  (hk:len=k) (hl:vs.length=k) (hfit:off+k≤cells.length) (hc:∀(i:Nat) v,vs[i]?=some v→g2.cells[off2+i]?=some v) (h1:vs.all one=true) :
  AEff P N o a H (I k) (H.set A (some ⟨lset cells off vs,false⟩)):=by
 subst hk
 refine eff_value (fun B0 w0 φ w ac r hf=>?_)
 obtain⟨cap,hu,hlc,hcm,hsz,hmp⟩:=slc_cells r hA hn (zW hf hx)
 have hfull:∃cap2,ac.eval y=.slice (some ⟨(φ A2).b,(φ A2).base+off2,none⟩) len cap2∧(φ A2).mp=false:=by
  have hv:=zW hf hy
  generalize ac.eval y=u at hv
  cases hv with
  |full _ _ m _ _ c hL hv hm h =>
   rw[lens_of hA2]at hL
   simp only[Option.some.injEq]at hL
   obtain⟨e1,e2⟩:=h (by omega)
   exact⟨len,by rw[e1],e2⟩
 obtain⟨cap2,hu2,hmp2⟩:=hfull
 obtain⟨us,hus,hucell⟩:=cells_rel r hA2 hmp2 off2 hc
 have hul:us.length=vs.length:=by have:=hus.size;simpa using this
 have hone:=vrel_one hus h1
 obtain⟨c,T',fz,k1,k2,k3,k4,k5⟩:=(r.blk A _ hA).ex hmp
 obtain⟨_,hbase⟩:=r.own A _ hA rfl
 simp only at k3 k5
 obtain⟨i,hi,e1,e2,e3⟩:=tinf_some hI
 obtain⟨φ',w',g1,g2',g3⟩:=store_rel (P:=P) (off:=off) (vs:=vs) (us:=us) r hA hmp (by omega) hus hone
 refine⟨φ',.int .i64 len,w',g2',g3,.int _ _,exec_copy ho ?_⟩
 have hload:=run_loadCells_list (P:=P) w ⟨(φ A2).b,(φ A2).base+off2,none⟩ us hucell
 rw[hu,hu2]
 have hmin:Nat.min len len=us.length:=by rw[hul,hl];exact Nat.min_self _
 simp[Builtin.copy_,run_underlying hT,Builtin.lenOf,Builtin.firstCells,sizeOf,typeInfo,hi,e2,hmin,hload,g1,goInt]
 omega
theorem e_copy0 (T U:TypeId)(x y:Operand){A2 off2 n2 E b:Nat}{z:Option Value}{g2:Blk}
  (ho:o.op=.call { callee:=.builtin .copy,args:=#[x,y],argTypes:=#[T,U] }) (hx:ev a x=some sempty) (hy:ev a y=some (.slice (some ⟨A2,off2,none⟩) 0 (n2+1)))
  (hT:P.underlying T=some (.slice E)) (hI:tinf P E=some (z,1,b)):APure P N o a H (I 0):=by
 refine⟨fun B0 w0 φ w ac r hf=>?_⟩
 have hx':=zW hf hx
 have hy':=zW hf hy
 obtain⟨i,hi,e1,e2,e3⟩:=tinf_some hI
 refine⟨I 0,.int _ _,fun w1 _=>exec_copy ho ?_⟩
 generalize ac.eval x=u at hx'
 generalize ac.eval y=u2 at hy'
 cases hx' with
 |sdead c cap hm =>
  cases hy' with
  |full _ _ m _ _ c2 hL hv hm h =>
   have hload:=run_loadCells_list (P:=P) w1 c2 [] (by simp)
   simp at hload
   simp[Builtin.copy_,run_underlying hT,Builtin.lenOf,Builtin.firstCells,sizeOf,typeInfo,hi,e2,hload,storeCells,goInt]
theorem a_lookupc [DecidableEq α](T:TypeId)(x k:Operand){A K E s b:Nat}{d:TypeDesc}{kf:α→Value}{l:List (α × Value)}{ro:Bool}{z:Value}{c:α}(ho:o.op=.lookup T x k true)(hx:ev a x=some (.map (some A)))(hk:ev a k=some (kf c))
  (hA:H[A]?=some (some ⟨mapC kf l,ro⟩)) (hT:P.underlying T=some (.map K E)) (hK:P.underlying K=some d) (KF:KeyF d kf) (hI:tinf P E=some (some z,s,b)) (hz:yJ z=true):APure P N o a H (.tuple #[(mget l c).getD z,B (mget l c).isSome]):=by
 refine⟨fun B0 w0 φ w ac r hf=>?_⟩
 obtain⟨h1,_,_,es,cl,h2,h3⟩:=map_obj r KF hA (zW hf hx)
 have h4:=(zW hf hk).scalar (KF.sc c)
 have two:∀{u v:Value} {b:Bool},Val φ (lens H) u v→Val φ (lens H) (.tuple #[u,B b]) (.tuple #[v,.bool b]):=fun {u v b} h=>by
  refine .tuple _ _ rfl fun i hi hi'=>?_
  match i,hi with
  |0,_=>exact h
  |1,_=>exact .bool b
 rcases h3.find KF c 0 with⟨g1,g2⟩|⟨j,e,v,g1,g2,g3,g4,g5⟩
 ·refine⟨.tuple #[z,.bool false],by rw[g2];exact two (Val.const hz),fun w1 hb=>?_⟩
  have h2':w1.heap[(φ A).b]?=some (.map es cl):=by rw[hb.block _ (r.lt hA)];exact h2
  unfold execOp
  simp only[ho,h1,h4,Instr.lookup,Sem.run_bind,run_underlying hT,Result.andThen_ok,MapKept.run_getObj_map h2',Sem.run_pure,run_checkKey hK (KF.is c),run_findKey hK g1,run_zeroValue hI,if_true]
 ·refine⟨.tuple #[e.val,.bool true],by rw[g4];exact two g5,fun w1 hb=>?_⟩
  have h2':w1.heap[(φ A).b]?=some (.map es cl):=by rw[hb.block _ (r.lt hA)];exact h2
  unfold execOp
  simp only[ho,h1,h4,Instr.lookup,Sem.run_bind,run_underlying hT,Result.andThen_ok,MapKept.run_getObj_map h2',Sem.run_pure,run_checkKey hK (KF.is c),run_findKey hK g1,if_true]
theorem e_insert [DecidableEq α](T:TypeId)(x k y:Operand){A K E:Nat}{d:TypeDesc}{kf:α→Value}{l:List (α × Value)}{c:α}{v:Value}(ho:o.op=.insert T x k y)(hx:ev a x=some (.map (some A)))(hk:ev a k=some (kf c))(hy:ev a y=some v)
  (hA:H[A]?=some (some ⟨mapC kf l,false⟩)) (hT:P.underlying T=some (.map K E)) (hK:P.underlying K=some d) (KF:KeyF d kf):AEff P N o a H undef (H.set A (some ⟨mapC kf (mput l c v),false⟩)):=by
 refine⟨fun B0 w0 φ w ac hr hf=>?_⟩
 have h:=(e_mapUpdate (P:=P) (N:=N) (o:={ o with op:=.mapUpdate T x k y }) T x k y rfl hx hk hy hA hT hK KF).go B0 w0 φ w ac hr hf
 have e:execOp ac.eval o=execOp ac.eval { o with op:=.mapUpdate T x k y }:=by unfold execOp;rw[ho]
 rw[e];exact h
end
section
variable {P:Program} {tt:TT} {sz:Nat} {ops:Array Oper} {Q:SPost} {rest:List Oper} {a:AF} {h h' h1:SH} {m:Mode} {t:Nat} {ty:TypeId} {pos:String} {aft:Array Edge}
theorem o_slice3e {T:Nat}{x w y z:Operand}{A off n len fl E s1 b1 s b:Nat}{z1 z2:Option Value}{i' j kk:IntKind}{i:Int}{tk:TK}(ht:tt.Ok P)(hx:ev a x=some (gsl A off n len fl))(hw:ev a w=some (.int i' i))(hy:ev a y=some (.int j i))(hz:ev a z=some (.int kk i))
  (hT:tt.get T=some ⟨.slice E,s1,b1,z1⟩) (hE:tt.get E=some ⟨tk,s,b,z2⟩) (hi:Sd (0≤i∧i≤len)) (hN:Nat.blt t sz=true) (k:GO m.next P sz ops Q rest ((t,sempty)::a) h):GO m P sz ops Q (⟨some t,.slice T x (some w) (some y) (some z),ty,pos,aft,none⟩::rest) a h :=
 o_pure (fun _ _ _ hag=>let ⟨_,hI,_⟩:=te_inf (TT.get_ok ht hE);a_slice3e T x w y z rfl ((hag.ev (by simp[Op.operands,Call.operands])).trans hx) ((hag.ev (by simp[Op.operands,Call.operands])).trans hw) ((hag.ev (by simp[Op.operands,Call.operands])).trans hy) ((hag.ev (by simp[Op.operands,Call.operands])).trans hz) (te_slice (TT.get_ok ht hT) rfl) hI hi.1) hN k
theorem o_copy0 {T U:Nat}{x y:Operand}{A2 off2 n2 E s1 b1 b:Nat}{z1 z2:Option Value}{tk:TK}(ht:tt.Ok P)(hx:ev a x=some sempty)(hy:ev a y=some (.slice (some ⟨A2,off2,none⟩) 0 (n2+1)))(hT:tt.get T=some ⟨.slice E,s1,b1,z1⟩)(hE:tt.get E=some ⟨tk,1,b,z2⟩)
  (hN:Nat.blt t sz=true) (k:GO m.next P sz ops Q rest ((t,I 0)::a) h):GO m P sz ops Q (⟨some t,.call { callee:=.builtin .copy,args:=#[x,y],argTypes:=#[T,U] },ty,pos,aft,none⟩::rest) a h :=
 o_pure (fun _ _ _ hag=>let ⟨_,hI,_⟩:=te_inf (TT.get_ok ht hE);e_copy0 T U x y (g2:=⟨[],true⟩) rfl ((hag.ev (by simp[Op.operands,Call.operands])).trans hx) ((hag.ev (by simp[Op.operands,Call.operands])).trans hy) (te_slice (TT.get_ok ht hT) rfl) hI) hN k
theorem o_copyf {T U:Nat}{x y:Operand}{A off n len fl A2 off2 n2 kk E s1 b1 b:Nat}{z1 z2:Option Value}{tk:TK}{cells cells' vs:List Value}{g2:Blk}(ht:tt.Ok P)(hx:ev a x=some (gsl A off n len fl))(hy:ev a y=some (.slice (some ⟨A2,off2,none⟩) kk (n2+1)))
  (hT:tt.get T=some ⟨.slice E,s1,b1,z1⟩) (hE:tt.get E=some ⟨tk,1,b,z2⟩) (hu:Upd h A ⟨cells,false⟩ ⟨cells',false⟩ h') (hp:Pick h A2 g2 h1) (hn:Ln (cells.length=n)) (hn2:Ln (g2.cells.length=n2)) (hk:Ln (len=kk)) (hl:Ln (vs.length=kk))
  (hpu:Pu (PutAt cells off vs cells')) (hc:Su (SubAt g2.cells off2 vs)) (h1':vs.all one=true) (hN:Nat.blt t sz=true) (hok:m.efOk ops h') (k:GO (m.ef h) P sz ops Q rest ((t,I kk)::a) h') :
  GO m P sz ops Q (⟨some t,.call { callee:=.builtin .copy,args:=#[x,y],argTypes:=#[T,U] },ty,pos,aft,none⟩::rest) a h:=by
 obtain⟨⟨h2,rfl⟩⟩:=hpu
 have hn1:=hn.1
 have hl1:=hl.1
 obtain⟨_,hI,_⟩:=te_inf (TT.get_ok ht hE)
 exact o_upd2 hN hu hp (fun _ _ _ hA hA2 hag=>e_copyf T U x y rfl ((hag.ev (by simp[Op.operands,Call.operands])).trans hx) ((hag.ev (by simp[Op.operands,Call.operands])).trans hy) (te_slice (TT.get_ok ht hT) rfl) hI hA hn.1 hA2 hn2.1 hk.1 hl.1 (by omega) hc.1 h1') hok k
end
section
variable {P:Program} {tt:TT} {sz:Nat} {ops:Array Oper} {Q:SPost} {rest:List Oper} {a:AF} {h h' h1:SH} {t:Nat} {ty:TypeId} {pos:String} {aft:Array Edge} {α:Type} {v:Value}
theorem o_lookupc [DecidableEq α]{T:Nat}{x y:Operand}{A K E s b:Nat}{tk:TK}{d:TypeDesc}{kf:α→Value}{l:List (α × Value)}{ro:Bool}{z:Value}{c:α}{f:Bool}(ht:tt.Ok P)(hx:ev a x=some (.map (some A)))(hp:Pick h A ⟨mapC kf l,ro⟩ h1)(hk:ev a y=some (kf c))
  (hT:P.underlying T=some (.map K E)) (hK:P.underlying K=some d) (KF:KeyF d kf) (hE:tt.get E=some ⟨tk,s,b,some z⟩) (hz:yJ z=true) (hr:(mget l c).getD z=v∧(mget l c).isSome=f) (hN:Nat.blt t sz=true)
  (k:GO .seq P sz ops Q rest ((t,.tuple #[v,B f])::a) h):GO .seq P sz ops Q (⟨some t,.lookup T x y true,ty,pos,aft,none⟩::rest) a h:=by
 obtain⟨_,hI,hz'⟩:=te_inf (TT.get_ok ht hE)
 obtain⟨rfl,rfl⟩:=hr
 exact o_read (m:=.seq) (fun h'=>∃h1,Pick h' A ⟨mapC kf l,ro⟩ h1) ⟨_,hp⟩ (fun _ _ _ _ _ i ⟨_,hp⟩ hag=>a_lookupc T x y rfl ((hag.ev (by simp[Op.operands,Call.operands])).trans hx) ((hag.ev (by simp[Op.operands,Call.operands])).trans hk) (i.look hp) hT hK KF (hz' _ rfl▸hI) hz) hN trivial k
theorem o_insert [DecidableEq α]{T:Nat}{x y z:Operand}{A K E:Nat}{d:TypeDesc}{kf:α→Value}{l:List (α × Value)}{c:α}(hx:ev a x=some (.map (some A)))(hu:Upd h A ⟨mapC kf l,false⟩ ⟨mapC kf (mput l c v),false⟩ h')(hk:ev a y=some (kf c))(hv:ev a z=some v)
  (hT:P.underlying T=some (.map K E)) (hK:P.underlying K=some d) (KF:KeyF d kf) (k:GO .seq P sz ops Q rest a h'):GO .seq P sz ops Q (⟨none,.insert T x y z,ty,pos,aft,none⟩::rest) a h :=
 o_upd (m:=.seq) rfl hu (fun _ _ _ hA hag=>e_insert T x y z rfl ((hag.ev (by simp[Op.operands,Call.operands])).trans hx) ((hag.ev (by simp[Op.operands,Call.operands])).trans hk) ((hag.ev (by simp[Op.operands,Call.operands])).trans hv) hA hT hK KF) trivial k
theorem o_insert0 [DecidableEq α]{T:Nat}{x y z:Operand}{A K E:Nat}{d:TypeDesc}{kf:α→Value}{c:α}(hx:ev a x=some (.map (some A)))(hu:Upd h A ⟨[],false⟩ ⟨mapC kf [(c,v)],false⟩ h')(hk:ev a y=some (kf c))(hv:ev a z=some v)
  (hT:P.underlying T=some (.map K E)) (hK:P.underlying K=some d) (KF:KeyF d kf) (k:GO .seq P sz ops Q rest a h'):GO .seq P sz ops Q (⟨none,.insert T x y z,ty,pos,aft,none⟩::rest) a h :=
 o_insert (l:=[]) hx hu hk hv hT hK KF k
end
end Go.Gh
end
section
set_option maxRecDepth 4000
namespace Go.Gh
open Go.RowKit

abbrev prF (x:Int × Int):List Value:=[I x.1,I x.2]
end Go.Gh
end
section
set_option maxRecDepth 4000
namespace Go.Proofs.YteddogfolceahaaGreatDoor
open Go.Gh Go.RowKit

inductive GrO {α:Type}(f:α→Value)(h:SH):List α→Value→SH→Prop
 |nil:GrO f h [] (.slice none 0 0) h
 |some (A:Nat) (l:List α):GrO f h l (gsl A 0 l.length l.length 1) ((A,⟨l.map f,false⟩)::h)
section
variable {α:Type} {f:α→Value} {h q:SH} {l:List α} {v:Value}
theorem GrO.has (g:GrO f h l v q):Has q (l.map f) 1 l.length v∧Take q h:=by
 cases g with
 |nil=>exact⟨⟨none,0,rfl,fun k=>absurd rfl k⟩,.nil⟩
 |some A l=>exact⟨⟨_,_,rfl,fun _=>⟨A,false,h,by rw[Nat.one_mul],.head⟩⟩,.drop .nil⟩
theorem GrO.ofc {A n k:Nat}{c:List Value}(hc:c=l.map f)(hn:l.length=n)(hk:k=n):GrO f h l (gsl A 0 k n 1) ((A,⟨c,false⟩)::h):=by
 subst hc hn hk;exact .some A l
theorem GrO.sl (g:GrO f h l v q):∃ad fl,v=.slice ad l.length fl:=by
 obtain⟨ad,fl,e,_⟩:=g.has.1;exact⟨ad,fl,e⟩
end
theorem tk_bang {α:Type}[Inhabited α]{l:List α}{i:Nat}(h:i<l.length):l.take (i+1)=l.take i++[l[i]!]:=by
 rw[getElem!_pos l i h,List.take_succ_eq_append_getElem h]
theorem mm_bang {α:Type}[Inhabited α]{l:List α}{i:Nat}(h:i<l.length):l[i]!∈l:=by rw[getElem!_pos l i h];exact List.getElem_mem h
theorem set_prog {α:Type}[Inhabited α]{X:List α}{z:α}{i:Nat}(h:i<X.length):(X.take i++List.replicate (X.length-i) z).set i X[i]! = X.take (i+1)++List.replicate (X.length-(i+1)) z:=by
 have e1:(X.take i).length=i:=by simp;omega
 rw[List.set_append_right i X[i]! (by omega),e1,Nat.sub_self,show X.length-i=(X.length-(i+1))+1 by omega,List.replicate_succ,List.set_cons_zero,tk_bang h,List.append_assoc];rfl
theorem ihas_bang {α:Type}[Inhabited α]{p:α→Prop}{l:List α}(h:∀x∈l,p x){i:Nat}(hi:i<l.length):p l[i]!:=h _ (mm_bang hi)
def gps :Int→List Int→List Int
 |_,[]=>[]
 |a,t::r=>(t-a-1)::gps t r
theorem gps_len :∀(L:List Int) (a:Int),(gps a L).length=L.length
 |[],_=>rfl
 |t::r,a=>congrArg (·+1) (gps_len r t)
abbrev tok (x:Int):Prop:=0≤x∧x≤1099511627776
theorem gaps_any (L:List Int)(v:Value)(h:SH)(hv:Has h (nodes L) 1 L.length v)(hl:L.length≤4096)(hb:∀x∈L,tok x) :
  SRun Tryz.prog 56 [v] h fun r q=>∃A,r=gsl A 0 L.length L.length 1∧q=(A,⟨nodes (gps (-1) L),false⟩)::h:=by
 obtain⟨ad,fl,rfl,hh⟩:=hv
 have hlb:(nodes L).length=L.length:=by simp
 have hgl:=gps_len L (-1)
 obtain⟨X,hX⟩:∃X,gps (-1) L=X:=⟨_,rfl⟩
 rw[hX]at hgl ⊢
 have hz:zrow (I 0) (((L.length:Nat):Int).toNat*1)=nodes (X.take 0++List.replicate (X.length-0) 0):=by
  rw[List.take_zero,List.nil_append,Nat.sub_zero,hgl];exact map_zrow (f:=iV) 0 rfl rfl _
 refine zR Tryz.func56 rfl rfl ?_
 repeat'(first|apply zF|apply zB|apply zE|refine jg ?_ ?_|(apply o_makeSlice zC;(iterate 6 exact rfl);decide;omega;(focus first|exact hz);exact rfl)|apply zA|apply zH|exact jS|intro A)
 all_goals first|(exfalso;omega)|skip
 refine zZ (S:=Nat × Int) (fun s=>[(3,I s.2),(4,gsl A 0 (L.length*1) L.length 1),(10,.slice ad L.length fl),(11,I L.length),(12,I s.1)])
  (fun s=>(A,⟨nodes (X.take s.1++List.replicate (X.length-s.1) 0),false⟩)::h) (fun s=>s.1≤L.length∧-1≤s.2∧s.2≤1099511627776∧X.drop s.1=gps s.2 (L.drop s.1)) (fun s=>L.length-s.1) (0,-1) ⟨Nat.zero_le _,Int.le_refl _,by decide,hX.symm⟩ jB jK ?_
 rintro⟨i,a⟩ ⟨hi,ha1,ha2,hd⟩
 dsimp only at hi ha1 ha2 hd ⊢
 by_cases hil:i<L.length
 ·obtain⟨A',ro,h1,rfl,hp⟩:=hh (by omega)
  have hxb:=ihas_bang hb hil
  rw[drop_bang hil,drop_bang (show i<X.length by omega)]at hd
  obtain⟨hd1,hd2⟩:=List.cons.inj hd
  have hst:=set_prog (X:=X) (z:=0) (i:=i) (by omega)
  have hcl:(nodes L)[0+((i:Int)).toNat*1]?=some (I L[i]!):=yM hil
  rw[hd1]at hst
  generalize L[i]! = x at *
  have hml:(X.take i++List.replicate (X.length-i) 0).length=L.length:=by simp;omega
  have hlen:(nodes (X.take i++List.replicate (X.length-i) 0)).length=L.length*1:=by rw[List.length_map,hml,Nat.mul_one]
  have hset:SetAt (nodes (X.take i++List.replicate (X.length-i) 0)) (0+((i:Int)).toNat*1) (I (x-a-1)) (nodes (X.take (i+1)++List.replicate (X.length-(i+1)) 0)):=by
   rw[←hst];exact setAt_mapZ (by omega)
  repeat'(first|apply zF|apply zB|apply zE|refine jg ?_ ?_|(apply o_ar zC;exact rfl;exact rfl)|(apply zM zC;(iterate 3 exact rfl);exact pk)|(apply zX zC;(iterate 4 exact rfl);exact up)|refine jd ?_|apply zA|apply zG|apply zI|apply zH|exact jO|((with_reducible apply Ln.mk);first|omega|(simp[hlb,hlen];first|done|omega))|exact jW|((with_reducible apply Ce.mk);first|exact hcl)|((with_reducible apply Se.mk);first|exact hset)|exact True.intro|exact rfl)
  all_goals first
   |(exfalso;omega)
   |exact⟨(i+1,x),⟨hil,by show -1≤x;omega,by show x≤_;omega,hd2⟩,by show L.length-(i+1)<L.length-i;omega,jB,jK⟩
 ·obtain rfl:i=L.length:=by omega
  have hfin:X.take L.length++List.replicate (X.length-L.length) 0=X:=by rw[←hgl,List.take_length,Nat.sub_self];simp
  rw[hfin]
  repeat'(first|apply zF|apply zB|apply zE|refine jg ?_ ?_|refine jf ?_|apply zA|apply zK|apply zJ|apply zN|apply zV|exact jS|fail)
  all_goals first
   |(exfalso;omega)
   |exact jF (k:=by exact⟨A,congrArg (fun z=>gsl A 0 z L.length 1) (Nat.mul_one _),rfl⟩)
def jns :Int→List Int→List Int
 |_,[]=>[]
 |a,g::r=>(a+(g+1))::jns (a+(g+1)) r
def jok :Int→List Int→Prop
 |_,[]=>True
 |a,g::r=>(tok g∧a+(g+1)≤1099511627776)∧jok (a+(g+1)) r
instance decJok :∀(a:Int) (l:List Int),Decidable (jok a l)
 |_,[]=>inferInstanceAs (Decidable True)
 |a,g::r=>@instDecidableAnd _ (jok (a+(g+1)) r) inferInstance (decJok _ r)
theorem jns_len :∀(L:List Int) (a:Int),(jns a L).length=L.length
 |[],_=>rfl
 |t::r,a=>congrArg (·+1) (jns_len r _)
theorem join_any (L:List Int)(v:Value)(h:SH)(hv:Has h (nodes L) 1 L.length v)(hl:L.length≤4096)(hj:jok (-1) L) :
  SRun Tryz.prog 74 [v] h fun r q=>∃A,r=.tuple #[gsl A 0 L.length L.length 1,B true]∧q=(A,⟨nodes (jns (-1) L),false⟩)::h:=by
 obtain⟨ad,fl,rfl,hh⟩:=hv
 have hlb:(nodes L).length=L.length:=by simp
 have hgl:=jns_len L (-1)
 obtain⟨X,hX⟩:∃X,jns (-1) L=X:=⟨_,rfl⟩
 rw[hX]at hgl ⊢
 have hz:zrow (I 0) (((L.length:Nat):Int).toNat*1)=nodes (X.take 0++List.replicate (X.length-0) 0):=by
  rw[List.take_zero,List.nil_append,Nat.sub_zero,hgl];exact map_zrow (f:=iV) 0 rfl rfl _
 refine zR Tryz.func74 rfl rfl ?_
 repeat'(first|apply zF|apply zB|apply zE|refine jg ?_ ?_|(apply o_makeSlice zC;(iterate 6 exact rfl);decide;omega;(focus first|exact hz);exact rfl)|apply zA|apply zH|exact jS|intro A)
 all_goals first|(exfalso;omega)|skip
 refine zZ (S:=Nat × Int) (fun s=>[(4,I s.2),(5,gsl A 0 (L.length*1) L.length 1),(11,.slice ad L.length fl),(12,I L.length),(13,I s.1)])
  (fun s=>(A,⟨nodes (X.take s.1++List.replicate (X.length-s.1) 0),false⟩)::h) (fun s=>s.1≤L.length∧-1≤s.2∧s.2≤1099511627776∧X.drop s.1=jns s.2 (L.drop s.1)∧jok s.2 (L.drop s.1)) (fun s=>L.length-s.1) (0,-1) ⟨Nat.zero_le _,Int.le_refl _,by decide,hX.symm,hj⟩ jB jK ?_
 rintro⟨i,a⟩ ⟨hi,ha1,ha2,hd,hk⟩
 dsimp only at hi ha1 ha2 hd hk ⊢
 by_cases hil:i<L.length
 ·obtain⟨A',ro,h1,rfl,hp⟩:=hh (by omega)
  rw[drop_bang hil]at hk
  rw[drop_bang hil,drop_bang (show i<X.length by omega)]at hd
  obtain⟨hd1,hd2⟩:=List.cons.inj hd
  obtain⟨⟨hk1,hk2⟩,hk3⟩:=hk
  have hst:=set_prog (X:=X) (z:=0) (i:=i) (by omega)
  have hcl:(nodes L)[0+((i:Int)).toNat*1]?=some (I L[i]!):=yM hil
  rw[hd1]at hst
  generalize L[i]! = x at *
  have hml:(X.take i++List.replicate (X.length-i) 0).length=L.length:=by simp;omega
  have hlen:(nodes (X.take i++List.replicate (X.length-i) 0)).length=L.length*1:=by rw[List.length_map,hml,Nat.mul_one]
  have hset:SetAt (nodes (X.take i++List.replicate (X.length-i) 0)) (0+((i:Int)).toNat*1) (I (a+(x+1))) (nodes (X.take (i+1)++List.replicate (X.length-(i+1)) 0)):=by
   rw[←hst];exact setAt_mapZ (by omega)
  repeat'(first|apply zF|apply zB|apply zE|refine jg ?_ ?_|(apply o_ar zC;exact rfl;exact rfl)|(apply zM zC;(iterate 3 exact rfl);exact pk)|(apply zX zC;(iterate 4 exact rfl);exact up)|refine jw ?_|refine ji ?_|refine jd ?_|refine jf ?_|apply zA|apply zG|apply zI|apply zH|exact jO|((with_reducible apply Ln.mk);first|omega|(simp[hlb,hlen];first|done|omega))|exact jW|((with_reducible apply Ce.mk);first|exact hcl)|((with_reducible apply Se.mk);first|exact hset)|exact True.intro|exact rfl)
  all_goals first
   |(exfalso;omega)
   |exact⟨(i+1,a+(x+1)),⟨hil,by show -1≤a+(x+1);omega,hk2,hd2,hk3⟩,by show L.length-(i+1)<L.length-i;omega,jB,jK⟩
 ·obtain rfl:i=L.length:=by omega
  have hfin:X.take L.length++List.replicate (X.length-L.length) 0=X:=by rw[←hgl,List.take_length,Nat.sub_self];simp
  rw[hfin]
  repeat'(first|apply zF|apply zB|apply zE|refine jg ?_ ?_|refine jf ?_|apply zA|apply zK|apply zJ|apply zN|apply zV|exact jS|fail)
  all_goals first
   |(exfalso;omega)
   |exact jF (k:=by exact⟨A,congr (congrArg (fun(z:Nat) (b:Bool)=>Value.tuple #[gsl A 0 z L.length 1,B b]) (Nat.mul_one _)) (decide_eq_true (by omega)),rfl⟩)
def inc :Int→List Int→Prop
 |_,[]=>True
 |a,t::r=>(a<t∧t≤1099511627776)∧inc t r
instance decInc :∀(a:Int) (l:List Int),Decidable (inc a l)
 |_,[]=>inferInstanceAs (Decidable True)
 |_,t::r=>@instDecidableAnd _ (inc t r) inferInstance (decInc t r)
theorem inc_tok :∀{l:List Int} {a:Int},-1≤a→inc a l→∀x∈l,tok x
 |[],_,_,_=>by simp
 |t::r,a,ha,h=>by
  intro x hx
  rcases List.mem_cons.1 hx with rfl|hx
  ·exact⟨by have:=h.1.1;omega,h.1.2⟩
  ·exact inc_tok (by have:=h.1.1;omega) h.2 x hx
theorem TValid_any (L:List Int)(v:Value)(h:SH)(hv:Has h (nodes L) 1 L.length v)(hl:L.length≤4096)(hj:inc (-1) L) :
  SRun Tryz.prog 28 [v] h fun r q=>r=B true∧q=h:=by
 obtain⟨ad,fl,rfl,hh⟩:=hv
 have hlb:(nodes L).length=L.length:=by simp
 refine zR Tryz.func28 rfl rfl ?_
 repeat'(first|apply zF|apply zB|apply zE|refine jg ?_ ?_|apply zA|apply zH|exact jS|fail)
 all_goals first|(exfalso;omega)|skip
 refine zZ (S:=Nat × Int) (fun s=>[(0,.slice ad L.length fl),(3,I s.2),(6,.slice ad L.length fl),(7,I L.length),(8,I s.1)])
  (fun _=>h) (fun s=>s.1≤L.length∧inc s.2 (L.drop s.1)) (fun s=>L.length-s.1) (0,-1) ⟨Nat.zero_le _,hj⟩ jB jK ?_
 rintro⟨i,a⟩ ⟨hi,hk⟩
 dsimp only at hi hk ⊢
 by_cases hil:i<L.length
 ·obtain⟨A',ro,h1,rfl,hp⟩:=hh (by omega)
  rw[drop_bang hil]at hk
  obtain⟨⟨hk1,hk2⟩,hk3⟩:=hk
  have hcl:(nodes L)[0+((i:Int)).toNat*1]?=some (I L[i]!):=yM hil
  generalize L[i]! = x at *
  repeat'(first|apply zF|apply zB|apply zE|refine jg ?_ ?_|(apply o_ar zC;exact rfl;exact rfl)|(apply zM zC;(iterate 3 exact rfl);exact pk)|refine jw ?_|refine ji ?_|refine jd ?_|refine jf ?_|apply zA|apply zG|apply zI|apply zH|exact jO|((with_reducible apply Ln.mk);first|(simp[hlb];first|done|omega))|exact jW|((with_reducible apply Ce.mk);first|exact ‹_›)|exact True.intro|exact rfl)
  all_goals first
   |(exfalso;omega)
   |exact⟨(i+1,x),⟨hil,hk3⟩,by show L.length-(i+1)<L.length-i;omega,jB,jK⟩
 ·obtain rfl:i=L.length:=by omega
  repeat'(first|apply zF|apply zB|apply zE|refine jg ?_ ?_|refine jf ?_|apply zA|apply zK|apply zJ|apply zN|apply zV|exact jS|fail)
  all_goals first
   |(exfalso;omega)
   |exact jF (k:=by exact⟨congrArg B (decide_eq_true (by omega)),rfl⟩)

theorem cnan_any (a:Int)(h:SH):SRun Tryz.prog 98 [I a] h fun r q=>r=B false∧q=h:=by
 refine zR Tryz.func98 rfl rfl ?_
 repeat'(first|apply zF|apply zB|apply zE|refine jg ?_ ?_|apply zA|apply zN|exact jS|fail)
 all_goals first
  |exact jF (k:=by exact⟨congrArg B (decide_eq_false (fun g=>g rfl)),rfl⟩)
theorem snan_any (a:Int)(h:SH):SRun Tryz.prog 154 [I a] h fun r q=>r=B false∧q=h:=by
 refine zR Tryz.func154 rfl rfl ?_
 repeat'(first|apply zF|apply zB|apply zE|refine jg ?_ ?_|apply zA|apply zN|exact jS|fail)
 all_goals first
  |exact jF (k:=by exact⟨congrArg B (decide_eq_false (fun g=>g rfl)),rfl⟩)
theorem cless_any (a b:Int)(h:SH):SRun Tryz.prog 153 [I a,I b] h fun r q=>r=B (decide (a<b))∧q=h:=by
 refine zY Tryz.func153 rfl rfl ?_
 repeat'(first|apply zF|apply zB|apply zE|refine jg ?_ ?_|refine jq ?_ (c:=by exact⟨_,cnan_any a _,jN⟩)|refine jw ?_|refine jk ?_|apply zA|apply zN|exact jS|fail)
 all_goals first
  |contradiction
  |exact jG
def bsl (L:List Int)(x:Int):Nat→Nat→Nat→Nat
 |0,i,_=>i
 |k+1,i,j=>if i<j then if L[(i+j)/2]!<x then bsl L x k ((i+j)/2+1) j else bsl L x k i ((i+j)/2)else i
theorem bsl_more {L:List Int}{x:Int}:∀(k i j:Nat),j-i≤k→bsl L x k i j=bsl L x (j-i) i j
 |0,i,j,h=>by rw[show j-i=0 by omega]
 |k+1,i,j,h=>by
  by_cases hij:i<j
  ·obtain⟨m,hm⟩:∃m,j-i=m+1:=⟨j-i-1,by omega⟩
   rw[hm]
   show(if i<j then if L[(i+j)/2]!<x then bsl L x k ((i+j)/2+1) j else bsl L x k i ((i+j)/2)else i)=(if i<j then if L[(i+j)/2]!<x then bsl L x m ((i+j)/2+1) j else bsl L x m i ((i+j)/2)else i)
   rw[if_pos hij,if_pos hij]
   split
   ·rw[bsl_more k _ _ (by omega),bsl_more m _ _ (by omega)]
   ·rw[bsl_more k _ _ (by omega),bsl_more m _ _ (by omega)]
  ·rw[show j-i=0 by omega]
   show(if i<j then _ else i)=i
   rw[if_neg hij]
def bsf (L:List Int)(x:Int):Bool:=decide (bsl L x L.length 0 L.length<L.length∧L[bsl L x L.length 0 L.length]! = x)
theorem Search_any (L:List Int)(x:Int)(v:Value)(h:SH)(hv:Has h (nodes L) 1 L.length v)(hl:L.length≤4096) :
  SRun Tryz.prog 103 [v,I x] h fun r q=>∃k,r=.tuple #[I k,B (bsf L x)]∧q=h:=by
 obtain⟨ad,fl,rfl,hh⟩:=hv
 have hlb:(nodes L).length=L.length:=by simp
 obtain⟨R,hR⟩:∃R,bsl L x L.length 0 L.length=R:=⟨_,rfl⟩
 unfold bsf
 rw[hR]
 refine zY Tryz.func103 rfl rfl ?_
 repeat'(first|apply zF|apply zB|apply zE|refine jg ?_ ?_|apply zA|apply zH|exact jS|fail)
 all_goals first|(exfalso;omega)|skip
 refine zZ (S:=Nat × Nat) (fun s=>[(0,.slice ad L.length fl),(1,I x),(6,I L.length),(7,I s.1),(8,I s.2)])
  (fun _=>h) (fun s=>s.1≤s.2∧s.2≤L.length∧bsl L x (s.2-s.1) s.1 s.2=R) (fun s=>s.2-s.1) (0,L.length) ⟨Nat.zero_le _,Nat.le_refl _,hR⟩ jB jK ?_
 rintro⟨i,j⟩ ⟨hij,hj,hr⟩
 dsimp only at hij hj hr ⊢
 by_cases hil:i<j
 ·obtain⟨A',ro,h1,rfl,hp⟩:=hh (by omega)
  obtain⟨k,hk⟩:∃k,j-i=k+1:=⟨j-i-1,by omega⟩
  rw[hk]at hr
  have hr:(if i<j then if L[(i+j)/2]!<x then bsl L x k ((i+j)/2+1) j else bsl L x k i ((i+j)/2)else i)=R:=hr
  rw[if_pos hil]at hr
  obtain⟨m,hm⟩:∃m,m=(i+j)/2:=⟨_,rfl⟩
  rw[←hm]at hr
  have hc1:(nodes L)[0+((m:Int)).toNat*1]?=some (I L[m]!):=yM (by omega)
  generalize L[m]! = y at *
  have hsh:((i:Int)+j)/2^(min (Int.toNat 1) IntKind.u64.bits)=(m:Int):=by
   rw[show min (Int.toNat 1) IntKind.u64.bits=1 from rfl];omega
  by_cases hyx:y<x
  ·rw[if_pos hyx,bsl_more k _ _ (by omega)]at hr
   have hL:=cless_any y x
   rw[decide_eq_true hyx]at hL
   repeat'(first|apply zF|apply zB|apply zE|refine jg ?_ ?_|(apply o_ar zC;exact rfl;exact rfl)|(apply o_ex;exact rfl;exact rfl)|(apply zM zC;(iterate 3 exact rfl);exact pk)|refine jq ?_ (c:=by exact⟨_,hL _,jN⟩)|(apply yB;exact rfl)|refine jd ?_|apply zA|apply zG|apply zI|apply zH|exact jO|((with_reducible apply Ln.mk);first|(simp[hlb];first|done|omega))|((with_reducible apply Wr.mk);first|exact IntWalk.i64_in _ (by omega)|exact IntWalk.u64_in _ (by omega))|((with_reducible apply Ex.mk);first|exact hsh)|((with_reducible apply Ce.mk);first|exact hc1)|exact True.intro|exact rfl)
   all_goals first
    |exact jX
    |exact⟨(m+1,j),⟨by omega,hj,hr⟩,by show j-(m+1)<j-i;omega,jB,jK⟩
  ·rw[if_neg hyx,bsl_more k _ _ (by omega)]at hr
   have hL:=cless_any y x
   rw[decide_eq_false hyx]at hL
   repeat'(first|apply zF|apply zB|apply zE|refine jg ?_ ?_|(apply o_ar zC;exact rfl;exact rfl)|(apply o_ex;exact rfl;exact rfl)|(apply zM zC;(iterate 3 exact rfl);exact pk)|refine jq ?_ (c:=by exact⟨_,hL _,jN⟩)|(apply zS;exact rfl)|refine jd ?_|apply zA|apply zG|apply zI|apply zH|exact jO|((with_reducible apply Ln.mk);first|(simp[hlb];first|done|omega))|((with_reducible apply Wr.mk);first|exact IntWalk.i64_in _ (by omega)|exact IntWalk.u64_in _ (by omega))|((with_reducible apply Ex.mk);first|exact hsh)|((with_reducible apply Ce.mk);first|exact hc1)|exact True.intro|exact rfl)
   all_goals first
    |exact jX
    |exact⟨(i,m),⟨by omega,by omega,hr⟩,by show m-i<j-i;omega,jB,jK⟩
 ·rw[show j-i=0 by omega]at hr
  have hr:i=R:=hr
  subst hr
  by_cases hin:i<L.length
  ·obtain⟨A',ro,h1,rfl,hp⟩:=hh (by omega)
   have hc1:(nodes L)[0+((i:Int)).toNat*1]?=some (I L[i]!):=yM (by omega)
   generalize L[i]! = y at *
   repeat'(first|apply zF|apply zB|apply zE|refine jg ?_ ?_|(apply zM zC;(iterate 3 exact rfl);exact pk)|refine jq ?_ (c:=by exact⟨_,snan_any _ _,jN⟩)|refine jw ?_|refine jk ?_|(apply o_skip_undef;iterate 3 exact rfl)|refine jh ?_|(apply o_guardF;(iterate 3 exact rfl);all_goals intro hc)|refine jf ?_|apply zA|apply zK|apply zJ|apply zN|apply zV|exact jO|((with_reducible apply Ln.mk);first|(simp[hlb];first|done|omega))|((with_reducible apply Ce.mk);first|exact ‹_›|exact hc1)|exact True.intro|exact rfl)
   all_goals first
    |exact jX
    |exact jF (k:=by exact⟨i,congrArg (fun z:Bool=>Value.tuple #[I i,B z]) (decide_eq_true ⟨hin,by omega⟩).symm,rfl⟩)
    |exact jF (k:=by exact⟨i,congrArg (fun z:Bool=>Value.tuple #[I i,B z]) (decide_eq_false (fun g=>by have:=g.2;omega)).symm,rfl⟩)
  ·repeat'(first|apply zF|apply zB|apply zE|refine jg ?_ ?_|refine jk ?_|(apply o_skip_undef;iterate 3 exact rfl)|(apply o_sF;(iterate 3 exact rfl);omega;exact rfl)|refine jf ?_|apply zA|apply zK|apply zJ|apply zN|apply zV|exact jS|fail)
   all_goals first
    |exact jX
    |exact jF (k:=by exact⟨i,congrArg (fun z:Bool=>Value.tuple #[I i,B z]) (decide_eq_false (fun g=>hin g.1)).symm,rfl⟩)
def atc (s f g i:Int):Int:=s+(i+1)/2*f+i/2*g
theorem mul_le2 {a b c:Int}(h0:0≤a)(h1:a≤c)(h2:0≤b)(h3:b≤1099511627776):0≤a*b∧a*b≤c*1099511627776 :=
 ⟨Int.mul_nonneg h0 h2,Int.le_trans (Int.mul_le_mul_of_nonneg_left h3 h0) (Int.mul_le_mul_of_nonneg_right h1 (by decide))⟩
theorem at_any (s f g n i:Int)(h:SH)(hi:0≤i∧i≤4096)(hs:tok s)(hf:tok f)(hg:tok g) :
  SRun Tryz.prog 101 [.agg ⟨[I s,I f,I g,I n]⟩,I i] h fun r q=>r=I (atc s f g i)∧q=h:=by
 have m1:=mul_le2 (a:=(i+1)/2) (b:=f) (c:=2049) (by omega) (by omega) hf.1 hf.2
 have m2:=mul_le2 (a:=i/2) (b:=g) (c:=2049) (by omega) (by omega) hg.1 hg.2
 have q1:(i+1).tdiv 2=(i+1)/2:=Int.tdiv_eq_ediv_of_nonneg (by omega)
 have q2:i.tdiv 2=i/2:=Int.tdiv_eq_ediv_of_nonneg (by omega)
 rw[←q1]at m1
 rw[←q2]at m2
 unfold atc
 rw[←q1,←q2]
 refine zY Tryz.func101 rfl rfl ?_
 repeat'(first|apply zF|apply zB|apply zE|refine jg ?_ ?_|(apply o_ar zC;exact rfl;exact rfl)|(apply zM zC;(iterate 3 exact rfl);exact pk)|refine jx ?_|apply zA|apply zN|exact jO|exact jL|exact jW|exact jE|exact True.intro|intro A|exact rfl)
 all_goals first
  |(exfalso;omega)
  |exact jG
theorem inside_any (n a b:Int)(h:SH):SRun Tryz.prog 196 [I n,I a,I b] h fun r q=>r=B (decide (a≤n∧n≤b))∧q=h:=by
 refine w_body3 Tryz.func196 rfl rfl ?_
 repeat'(first|apply zF|apply zB|apply zE|refine jg ?_ ?_|refine jw ?_|refine jk ?_|(apply o_guardT;(iterate 3 exact rfl);all_goals intro hc)|apply zA|apply zN|exact jS|fail)
 all_goals first
  |contradiction
  |exact jF (k:=by exact⟨congrArg B (decide_eq_decide.2 (by omega)),rfl⟩)
  |exact jF (k:=by exact⟨congrArg B (decide_eq_false (by omega)).symm,rfl⟩)
def vck (s f g n:Int):Prop:=(1≤n∧n≤4096)∧tok s∧(1≤f∧f≤1099511627776)∧(1≤g∧g≤1099511627776)∧atc s f g (n-1)≤1099511627776
instance (s f g n:Int):Decidable (vck s f g n):=inferInstanceAs (Decidable (_∧_∧_∧_∧_))
theorem validClock_any (s f g n:Int)(h:SH)(hk:vck s f g n):SRun Tryz.prog 152 [.agg ⟨[I s,I f,I g,I n]⟩] h fun r q=>r=B true∧q=h:=by
 obtain⟨h1,h2,h3,h4,h5⟩:=hk
 have i1:=fun h=>inside_any n 1 4096 h
 have i2:=fun h=>inside_any s 0 1099511627776 h
 have i3:=fun h=>inside_any f 1 1099511627776 h
 have i4:=fun h=>inside_any g 1 1099511627776 h
 rw[decide_eq_true h1]at i1
 rw[decide_eq_true h2]at i2
 rw[decide_eq_true h3]at i3
 rw[decide_eq_true h4]at i4
 have ha:=fun h=>at_any s f g n (n-1) h (by omega) h2 ⟨by omega,h3.2⟩ ⟨by omega,h4.2⟩
 generalize atc s f g (n-1)=t at *
 refine zR Tryz.func152 rfl rfl ?_
 repeat'(first|apply zF|apply zB|apply zE|refine jg ?_ ?_|(apply o_ar zC;exact rfl;exact rfl)|(apply zM zC;(iterate 3 exact rfl);exact pk)|(apply yQ zC;(iterate 3 exact rfl);exact pk)|refine jx ?_|refine jq ?_ (c:=by exact⟨_,i1 _,jN⟩)|refine jq ?_ (c:=by exact⟨_,i2 _,jN⟩)|refine jq ?_ (c:=by exact⟨_,i3 _,jN⟩)|refine jq ?_ (c:=by exact⟨_,i4 _,jN⟩)|refine jq ?_ (c:=by exact⟨_,ha _,jN⟩)|refine jw ?_|apply zA|apply zN|exact jS|exact jL|exact jW|exact jE|exact jU|exact True.intro|intro A|exact rfl)
 all_goals first
  |exact jX
  |exact jF (k:=by exact⟨congrArg B (decide_eq_true h5),rfl⟩)
  |exact jG
def tms (s f g:Int)(n:Nat):List Int:=(List.range n).map fun i:Nat=>atc s f g i
theorem tms_bang {s f g:Int}{n i:Nat}(h:i<n):(tms s f g n)[i]! = atc s f g i:=by
 rw[getElem!_pos _ i (by simp[tms];exact h)];simp[tms]
theorem Times_clk (s f g:Int)(n:Nat)(h:SH)(hk:vck s f g n):SRun Tryz.prog 102 [.agg ⟨[I s,I f,I g,I n]⟩] h fun r q =>
  ∃A,r=.tuple #[gsl A 0 n n 1,I 0]∧q=(A,⟨nodes (tms s f g n),false⟩)::h:=by
 have hv:=fun h=>validClock_any s f g n h hk
 obtain⟨h1,h2,h3,h4,h5⟩:=hk
 have ha:=fun(i:Nat) h (hi:i<n)=>at_any s f g n i h (by omega) h2 ⟨by omega,h3.2⟩ ⟨by omega,h4.2⟩
 have hgl:(tms s f g n).length=n:=by simp[tms]
 have hbg:=fun i (hi:i<n)=>tms_bang (s:=s) (f:=f) (g:=g) hi
 generalize tms s f g n=X at *
 have hz:zrow (I 0) (((n:Nat):Int).toNat*1)=nodes (X.take 0++List.replicate (X.length-0) 0):=by
  rw[List.take_zero,List.nil_append,Nat.sub_zero,hgl];exact map_zrow (f:=iV) 0 rfl rfl _
 refine zR Tryz.func102 rfl rfl ?_
 repeat'(first|apply zF|apply zB|apply zE|refine jg ?_ ?_|(apply yR;exact rfl;exact rfl)|(apply zM zC;(iterate 3 exact rfl);exact pk)|(apply yQ zC;(iterate 3 exact rfl);exact pk)|refine jx ?_|(apply o_makeSlice zC;(iterate 6 exact rfl);decide;omega;(focus first|exact hz);exact rfl)|(refine jc ?_ (c:=by exact⟨_,hv _,jN⟩);rintro _ _ ⟨rfl,rfl⟩)|(apply zS;exact rfl)|apply zA|apply zI|apply zH|exact jS|exact jL|exact jE|exact jU|exact True.intro|intro A|exact rfl)
 all_goals try exact jX
 rename_i A1
 revert A;intro A4
 refine zZ (S:=Nat) (fun i=>[(1,gptr A1 0 4),(4,gsl A4 0 (n*1) n 1),(13,I n),(14,I i)])
  (fun i=>(A4,⟨nodes (X.take i++List.replicate (X.length-i) 0),false⟩)::(A1,⟨[I s,I f,I g,I n],false⟩)::h) (fun i=>i≤n) (fun i=>n-i) 0 (Nat.zero_le _) jB jK ?_
 rintro i hi
 by_cases hil:i<n
 ·have hst:=set_prog (X:=X) (z:=0) (i:=i) (by omega)
  rw[hbg i hil]at hst
  have hai:=fun h=>ha i h hil
  generalize atc s f g i=y at *
  have hml:(X.take i++List.replicate (X.length-i) 0).length=n:=by simp;omega
  have hlen:(nodes (X.take i++List.replicate (X.length-i) 0)).length=n*1:=by rw[List.length_map,hml,Nat.mul_one]
  have hset:SetAt (nodes (X.take i++List.replicate (X.length-i) 0)) (0+((i:Int)).toNat*1) (I y) (nodes (X.take (i+1)++List.replicate (X.length-(i+1)) 0)):=by
   rw[←hst];exact setAt_mapZ (by omega)
  repeat'(first|apply zF|apply zB|apply zE|refine jg ?_ ?_|(apply o_ar zC;exact rfl;exact rfl)|(apply yQ zC;(iterate 3 exact rfl);exact pk)|(apply zX zC;(iterate 4 exact rfl);exact up)|(refine jc ?_ (c:=by exact⟨_,hai _,jN⟩);rintro _ _ ⟨rfl,rfl⟩)|refine jd ?_|apply zA|apply zG|apply zI|apply zH|exact jO|((with_reducible apply Ln.mk);first|rfl|omega)|exact jW|((with_reducible apply Se.mk);first|exact hset)|exact jU|exact True.intro|exact rfl)
  all_goals first
   |exact jX
   |exact⟨i+1,hil,by show n-(i+1)<n-i;omega,jB,jK⟩
 ·obtain rfl:i=n:=by omega
  have hfin:X.take i++List.replicate (X.length-i) 0=X:=by rw[←hgl,List.take_length,Nat.sub_self];simp
  rw[hfin]
  repeat'(first|apply zF|apply zB|apply zE|refine jg ?_ ?_|refine jf ?_|apply zA|apply zK|apply zJ|apply zN|apply zV|exact jS|fail)
  all_goals first
   |exact jX
   |exact jF (k:=by exact⟨A4,congrArg (fun z:Nat=>Value.tuple #[gsl A4 0 z i 1,I 0]) (Nat.mul_one _),rfl⟩)

def clkN (s f g z:Int):Nat→Nat→Nat
 |0,n=>n
 |k+1,n=>if atc s f g n≤z then clkN s f g z k (n+1)else n
theorem clkN_step {s f g z:Int}{n:Nat}(h:n<4096):clkN s f g z (4096-n) n=if atc s f g n≤z then clkN s f g z (4096-(n+1)) (n+1)else n:=by
 obtain⟨k,hk⟩:∃k,4096-n=k+1:=⟨4096-n-1,by omega⟩
 rw[hk,show 4096-(n+1)=k by omega];rfl
set_option maxHeartbeats 2000000 in
theorem Detect_any (a b c:Int)(r:List Int)(v:Value)(h:SH)(hv:Has h (nodes (a::b::c::r)) 1 (a::b::c::r).length v)(hl:(a::b::c::r).length≤4096)(hj:inc (-1) (a::b::c::r)) :
  SRun Tryz.prog 58 [v] h fun y q=>y=.agg ⟨[I a,I (b-a),I (c-b),I (clkN a (b-a) (c-b) (a::b::c::r)[(a::b::c::r).length-1]! 4095 1)]⟩∧q=h:=by
 have hV:=fun h hv=>TValid_any (a::b::c::r) v h hv hl hj
 have h1:=hj.1;have h2:=hj.2.1;have h3:=hj.2.2.1
 obtain⟨R,hR⟩:∃R,clkN a (b-a) (c-b) (a::b::c::r)[(a::b::c::r).length-1]! 4095 1=R:=⟨_,rfl⟩
 rw[hR]
 have hla:(nodes (a::b::c::r))[0+(((a::b::c::r).length:Int)-1).toNat*1]?=some (I (a::b::c::r)[(a::b::c::r).length-1]!):=by
  have:(((a::b::c::r).length:Int)-1).toNat=(a::b::c::r).length-1:=by omega
  rw[this];exact cell_map (by rw[List.length_cons];omega)
 have hzb:=ihas_bang (inc_tok (by omega) hj) (i:=(a::b::c::r).length-1) (by rw[List.length_cons];omega)
 generalize (a::b::c::r)[(a::b::c::r).length-1]! = z at *
 have e0:(nodes (a::b::c::r))[0+(0:Int).toNat*1]?=some (I a):=rfl
 have e1:(nodes (a::b::c::r))[0+(1:Int).toNat*1]?=some (I b):=rfl
 have e2:(nodes (a::b::c::r))[0+(2:Int).toNat*1]?=some (I c):=rfl
 have hlb:(nodes (a::b::c::r)).length=(a::b::c::r).length:=by simp
 have hl3:3≤(a::b::c::r).length:=by simp
 generalize a::b::c::r=L at *
 obtain⟨ad,fl,rfl,hh⟩:=id hv
 obtain⟨A',ro,hx1,rfl,hp⟩:=hh (by omega)
 have ha:=fun(n:Nat) (hn:n≤4096) h=>at_any a (b-a) (c-b) n n h (by omega) (by omega) (by omega) (by omega)
 refine zR Tryz.func58 rfl rfl ?_
 repeat'(first|apply zF|apply zB|apply zE|refine jr ?_|refine jg ?_ ?_|(apply o_ar zC;exact rfl;exact rfl)|(apply yR;exact rfl;exact rfl)|(apply zM zC;(iterate 3 exact rfl);exact pk)|(apply zX zC;(iterate 4 exact rfl);exact up)|(apply yE zC;(iterate 4 exact rfl);exact⟨rfl⟩;exact up)|refine jy ?_|(apply yT zC;exact rfl;exact rfl;(focus first|with_reducible exact pl97);exact rfl;(focus repeat(first|exact BuildR.nil|(apply BuildR.one;exact rfl;exact rfl;(first|(focus(repeat(first|exact SetAt.zero|apply SetAt.succ));done)))));exact rfl)|(refine jc ?_ (c:=by exact⟨_,hV _ (hv.re (.drop .nil)),jN⟩);rintro _ _ ⟨rfl,rfl⟩)|refine jw ?_|refine ji ?_|(apply zS;exact rfl)|refine jd ?_|apply zA|apply zI|apply zH|exact jO|((with_reducible apply Ln.mk);first|rfl|(simp[hlb];first|done|omega))|exact jW|((with_reducible apply Ce.mk);first|rfl|exact e0|exact e1|exact e2)|exact jZ|exact jP|exact True.intro|exact Or.inl rfl|apply And.intro|intro A|exact rfl)
 all_goals try exact jX
 rename_i A2
 revert A;intro A3
 refine zZ (S:=Nat) (fun n=>[(0,.slice (some ⟨A',0,some (1*L.length)⟩) L.length fl),(2,gptr A2 0 4),(3,gptr A3 0 4)])
  (fun n=>(A3,⟨[I a,I (b-a),I (c-b),I n],false⟩)::(A2,⟨[I 0,I 0,I 0,I 0],false⟩)::h) (fun n=>1≤n∧n≤4096∧clkN a (b-a) (c-b) z (4096-n) n=R) (fun n=>4096-n) 1 ⟨Nat.le_refl _,by decide,hR⟩ jB jK ?_
 rintro n ⟨hn1,hn2,hr⟩
 clear hR
 have han:=ha n hn2
 by_cases hn:n<4096
 ·rw[clkN_step hn]at hr
  by_cases hz:atc a (b-a) (c-b) n≤z
  ·rw[if_pos hz]at hr
   have hr2:Nonempty (PLift (clkN a (b-a) (c-b) z (4096-(n+1)) (n+1)=R)):=⟨⟨hr⟩⟩
   clear hr
   generalize atc a (b-a) (c-b) n=t at *
   replace hz:¬z<t:=by omega
   repeat'(first|apply zF|apply zB|apply zE|refine jr ?_|refine jg ?_ ?_|(apply o_ar zC;exact rfl;exact rfl)|(apply zM zC;(iterate 3 exact rfl);exact pk)|(apply yQ zC;(iterate 3 exact rfl);exact pk)|(apply zX zC;(iterate 4 exact rfl);exact up)|(apply yS;(iterate 4 exact rfl);exact⟨_,han (lockS h),by repeat(first|with_reducible exact Take.nil|with_reducible apply yL|with_reducible apply Take.drop)⟩;exact fun _ _ h=>h.1;(focus(repeat(first|exact Flat.c rfl))))|refine jh ?_|refine jw ?_|refine jd ?_|apply zA|apply zG|apply zI|apply zH|exact jO|((with_reducible apply Ln.mk);first|rfl|(simp[hlb];first|done|omega))|exact jW|((with_reducible apply Ce.mk);first|rfl|exact hla)|exact jZ|exact jU|exact True.intro|exact rfl)
   all_goals first
    |exact jX
    |exact⟨n+1,⟨by omega,hn,hr2.elim fun g=>g.down⟩,by show 4096-(n+1)<4096-n;omega,jB,jK⟩
  ·rw[if_neg hz]at hr
   subst hr
   generalize atc a (b-a) (c-b) n=t at *
   repeat'(first|apply zF|apply zB|apply zE|refine jr ?_|refine jg ?_ ?_|(apply o_ar zC;exact rfl;exact rfl)|(apply zM zC;(iterate 3 exact rfl);exact pk)|(apply yQ zC;(iterate 3 exact rfl);exact pk)|(apply yE zC;(iterate 4 exact rfl);exact⟨rfl⟩;exact up)|(apply yS;(iterate 4 exact rfl);exact⟨_,han (lockS h),by repeat(first|with_reducible exact Take.nil|with_reducible apply yL|with_reducible apply Take.drop)⟩;exact fun _ _ h=>h.1;(focus(repeat(first|exact Flat.c rfl))))|refine jh ?_|refine jw ?_|(apply yD;exact rfl;exact ‹_›)|apply zA|apply zK|apply zJ|apply zN|apply zV|exact jO|((with_reducible apply Ln.mk);first|rfl|(simp[hlb];first|done|omega))|exact jW|((with_reducible apply Ce.mk);first|rfl|exact hla)|exact jP|exact jU|exact True.intro|exact rfl)
   all_goals first
    |exact jX
    |(apply zL;(exact(show ResS _ _ _ _ [_] from(res_cell zC rfl rfl rfl (by exact pk) (by first|rfl|exact ‹_›|omega|(simp ;first|done|omega)) (by first|rfl|exact ‹_›|omega|(simp ;first|done|omega)) trivial)));exact⟨rfl,rfl⟩;(focus repeat with_reducible first|exact Take.nil|apply Take.c|apply Take.drop))
 ·have e:n=4096:=by omega
  subst e
  have hr:4096=R:=hr
  subst hr
  repeat'(first|apply zF|apply zB|apply zE|refine jr ?_|refine jg ?_ ?_|(apply zM zC;(iterate 3 exact rfl);exact pk)|(apply yQ zC;(iterate 3 exact rfl);exact pk)|(apply yE zC;(iterate 4 exact rfl);exact⟨rfl⟩;exact up)|(apply o_sF;(iterate 3 exact rfl);omega;exact rfl)|refine jk ?_|(apply zS;exact rfl)|apply zA|apply zK|apply zJ|apply zN|apply zV|exact jS|exact jL|exact jE|exact jP|exact jU|exact True.intro|exact rfl)
  all_goals first
   |exact jX
   |(apply zL;(exact(show ResS _ _ _ _ [_] from(res_cell zC rfl rfl rfl (by exact pk) (by first|rfl|exact ‹_›|omega|(simp ;first|done|omega)) (by first|rfl|exact ‹_›|omega|(simp ;first|done|omega)) trivial)));exact⟨rfl,rfl⟩;(focus repeat with_reducible first|exact Take.nil|apply Take.c|apply Take.drop))

def tenc (v:Int):Nat→List Int→Enc→Nat→List Int × Enc
 |0,t,e,_=>(t,e)
 |k+1,t,e,j=>tenc v k (t.set j (adp t[j]! (v/2^k%2))) (ebit e t[j]! (v/2^k%2)) (2*j+(v/2^k%2).toNat)
theorem tenc_ok {v:Int}:∀{k n:Nat} {t:List Int} {e:Enc} {j:Nat},EncOk n e→EncOk (n+2*k) (tenc v k t e j).2∧(tenc v k t e j).1.length=t.length
 |0,n,t,e,j,h=>⟨h,rfl⟩
 |k+1,n,t,e,j,h=>by
  have:=tenc_ok (v:=v) (k:=k) (t:=t.set j (adp t[j]! (v/2^k%2))) (j:=2*j+(v/2^k%2).toNat) (ebit_ok h t[j]! (v/2^k%2))
  rw[show n+2*(k+1)=n+2+2*k by omega]
  exact⟨this.1,by rw[show(tenc v (k+1) t e j).1=(tenc v k (t.set j (adp t[j]! (v/2^k%2))) (ebit e t[j]! (v/2^k%2)) (2*j+(v/2^k%2).toNat)).1 from rfl,this.2,List.length_set]⟩
theorem node_cell {A t Z:List Int}{j:Nat}(hj:j<t.length):(nodes (A++t++Z))[A.length+((j:Int)).toNat*1]?=some (I t[j]!):=by
 rw[Int.toNat_natCast,Nat.mul_one,List.getElem?_map,List.append_assoc,List.getElem?_append_right (by omega),Nat.add_sub_cancel_left,List.getElem?_append_left hj,getElem!_pos t j hj,List.getElem?_eq_getElem hj]
 rfl
theorem node_set {A t Z:List Int}{j:Nat}(hj:j<t.length)(x:Int):SetAt (nodes (A++t++Z)) (A.length+((j:Int)).toNat*1) (I x) (nodes (A++t.set j x++Z)):=by
 have e:nodes (A++t.set j x++Z)=(nodes (A++t++Z)).set (A.length+j) (I x):=by
  unfold nodes
  rw[List.append_assoc,List.append_assoc,show I x=iV x from rfl,←List.map_set,List.set_append_right _ _ (by omega),Nat.add_sub_cancel_left,List.set_append_left _ _ hj]
 rw[Int.toNat_natCast,Nat.mul_one,e]
 exact SetAt.any (by simp;omega)
theorem TreeEncode_any (n M N off S0 Sp bits m:Nat)(C:List Value)(A Z t:List Int)(e:Enc)(v:Int)(h p:SH)
  (hb:EncB n ((M,⟨C,false⟩)::(N,⟨nodes (A++t++Z),false⟩)::h) e p) (hC0:C[off+0]?=some (I bits)) (hC1:C[off+1]?=some (gsl N A.length Sp (2^bits) 0))
  (hC:C.length=S0) (hP:A.length+2^bits+Z.length=Sp) (ht:t.length=2^bits) (hbits:1≤bits∧bits≤8) (hok:EncOk m e) (hm:m+2*bits≤999000) :
  SRun Tryz.prog 113 [gptr M off S0,gptr n 0 3,I v] p fun _ q =>
   EncB n ((M,⟨C,false⟩)::(N,⟨nodes (A++(tenc v bits t e 1).1++Z),false⟩)::h) (tenc v bits t e 1).2 q:=by
 obtain⟨K,hK⟩:∃K,K=2^bits:=⟨_,rfl⟩
 rw[←hK]at hC1 hP ht
 obtain⟨pM,hpM⟩:=hb.pick (Pick.head (A:=M))
 refine w_body3 Tryz.func113 rfl rfl ?_
 repeat'(first|apply zF|apply zB|apply zE|refine jg ?_ ?_|(apply o_ar zC;exact rfl;exact rfl)|(apply zM zC;(iterate 3 exact rfl);exact pk)|apply zA|apply zH|exact jS|((with_reducible apply Ln.mk);first|omega)|exact jW|((with_reducible apply Ce.mk);first|exact hC0)|exact True.intro|exact rfl)
 refine zZ (S:=Nat × Nat × Nat × List Int × Enc × SH × Nat) (fun x=>[(0,gptr M off S0),(1,gptr n 0 3),(2,I v),(6,I x.2.1),(7,I ((x.1:Int)-1))]) (fun x=>x.2.2.2.2.2.1)
  (fun x=>x.1≤bits∧(1≤x.2.1∧x.2.1<x.2.2.1∧x.2.2.1*2^x.1=2*K)∧x.2.2.2.1.length=K∧EncB n ((M,⟨C,false⟩)::(N,⟨nodes (A++x.2.2.2.1++Z),false⟩)::h) x.2.2.2.2.1 x.2.2.2.2.2.1∧EncOk x.2.2.2.2.2.2 x.2.2.2.2.1∧x.2.2.2.2.2.2+2*x.1≤999000∧tenc v x.1 x.2.2.2.1 x.2.2.2.2.1 x.2.1=tenc v bits t e 1)
  (fun x=>x.1) (bits,1,2,t,e,p,m) ⟨Nat.le_refl _,⟨Nat.le_refl _,by show 1<2;decide,by rw[hK]⟩,ht,hb,hok,hm,rfl⟩ jB jK ?_
 rintro⟨k,j,W,t,e,p,m⟩ ⟨hk,⟨hj1,hjW,hW⟩,ht,hb,hok,hm,he⟩
 dsimp only at hk hj1 hjW hW ht hb hok hm he ⊢
 cases k with
 |zero =>
  repeat'(first|apply zF|apply zB|apply zE|refine jg ?_ ?_|(apply zS;exact rfl)|apply zA|apply zK|apply zJ|apply zV|exact jS|fail)
  all_goals first
   |(exfalso;omega)
   |(apply s_finN;(exact(show ResS _ _ _ _ [] from trivial));(focus rw[←he];exact hb);(focus repeat with_reducible first|exact Take.nil|apply Take.c|apply Take.drop))
 |succ k =>
  rw[show((k+1:Nat):Int)-1=(k:Int)by omega]
  have hp2:1≤2^k:=Nat.one_le_two_pow
  have hWK:W*2^k=K:=by
   rw[Nat.pow_succ,←Nat.mul_assoc]at hW;omega
  have hW1:W*1≤W*2^k:=Nat.mul_le_mul_left W hp2
  have hjt:j<t.length:=by omega
  have hK8:K≤256:=by rw[hK];exact Nat.pow_le_pow_right (n:=2) (by decide) hbits.2
  obtain⟨z,hz⟩:∃z,z=t[j]!:=⟨_,rfl⟩
  have hcell:=node_cell (A:=A) (Z:=Z) hjt
  have hset:=node_set (A:=A) (Z:=Z) hjt (adp z (v/2^k%2))
  rw[←hz]at hcell
  have hst:tenc v (k+1) t e j=tenc v k (t.set j (adp z (v/2^k%2))) (ebit e z (v/2^k%2)) (2*j+(v/2^k%2).toNat):=by rw[hz];rfl
  rw[hst]at he
  have hb01:0≤v/2^k%2∧v/2^k%2≤1:=by omega
  have hlen:(nodes (A++t++Z)).length=Sp:=by simp;omega
  obtain⟨pM,hpM⟩:=hb.pick (Pick.head (A:=M))
  obtain⟨pN,hpN⟩:=hb.pick (Pick.tail (Pick.head (A:=N)))
  have hB:SRun Tryz.prog 170 [gptr n 0 3,I z,I (v/2^k%2)] p fun _ q=>∃e',e'=ebit e z (v/2^k%2)∧EncB n ((M,⟨C,false⟩)::(N,⟨nodes (A++t++Z),false⟩)::h) e' q:=(Bit_any n z (v/2^k%2) e _ p hb (hok.mono (by omega))).mono fun _ _ g=>⟨_,rfl,g⟩
  have hok2:=ebit_ok hok z (v/2^k%2)
  repeat'(first|apply zF|apply zB|apply zE|refine jr ?_|refine jg ?_ ?_|(apply o_ar zC;exact rfl;exact rfl)|(apply o_ex;exact rfl;exact rfl)|(apply zM zC;(iterate 3 exact rfl);exact pk)|(apply zX zC;(iterate 4 exact rfl);exact up)|(refine jc ?_ (c:=by exact⟨_,hB,jN⟩);rintro _ _ (⟨e',he',(⟨lo,sz⟩|⟨o,lo,sz,A9⟩)⟩))|(apply yS;(iterate 4 exact rfl);exact⟨_,Adapt_any _ _ _,jN⟩;exact fun _ _ h=>h.1;(focus(repeat(first|exact Flat.c rfl))))|(apply yB;exact rfl)|apply zA|apply zG|apply zI|apply zH|exact jO|((with_reducible apply Ln.mk);first|omega)|((with_reducible apply Wr.mk);first|exact w_and1 _|exact IntWalk.i64_in _ (by omega))|((with_reducible apply Ex.mk);first|exact ex_shrk (by omega))|((with_reducible apply Ce.mk);first|exact hC1|exact hcell)|((with_reducible apply Se.mk);first|exact hset)|exact True.intro|exact Or.inl rfl|apply And.intro|exact rfl)
  all_goals (rw[←he']at he hok2)
  all_goals have hj2:(((2*j+(v/2^k%2).toNat:Nat)):Int)=2*(j:Int)+v/2^k%2:=by omega
  all_goals first
   |(exfalso;omega)
   |exact⟨(k,2*j+(v/2^k%2).toNat,2*W,t.set j (adp z (v/2^k%2)),⟨[],lo,sz⟩,(n,⟨encC (.slice none 0 0) lo sz,false⟩)::(M,⟨C,false⟩)::(N,⟨nodes (A++t.set j (adp z (v/2^k%2))++Z),false⟩)::h,m+2),
     ⟨by show k≤bits;omega,⟨by show 1≤2*j+_;omega,by show 2*j+(v/2^k%2).toNat<2*W;omega,by show 2*W*2^k=2*K;rw[Nat.mul_assoc,hWK]⟩,by simpa using ht,.nil _ _,hok2,by show m+2+2*k≤999000;omega,he⟩,by show k<k+1;omega,
     ⟨rfl,rfl,rfl,congrArg some (congrArg (Value.int .i64) hj2.symm),rfl,trivial⟩,jK⟩
   |exact⟨(k,2*j+(v/2^k%2).toNat,2*W,t.set j (adp z (v/2^k%2)),⟨o,lo,sz⟩,(n,⟨encC (gsl A9 0 o.length o.length 1) lo sz,false⟩)::(A9,⟨bytesV o,false⟩)::(M,⟨C,false⟩)::(N,⟨nodes (A++t.set j (adp z (v/2^k%2))++Z),false⟩)::h,m+2),
     ⟨by show k≤bits;omega,⟨by show 1≤2*j+_;omega,by show 2*j+(v/2^k%2).toNat<2*W;omega,by show 2*W*2^k=2*K;rw[Nat.mul_assoc,hWK]⟩,by simpa using ht,.some _ _ _ _,hok2,by show m+2+2*k≤999000;omega,he⟩,by show k<k+1;omega,
     ⟨rfl,rfl,rfl,congrArg some (congrArg (Value.int .i64) hj2.symm),rfl,trivial⟩,jK⟩

def tdec :Nat→List Int→Dec→Nat→List Int × Dec × Nat
 |0,t,d,j=>(t,d,j)
 |k+1,t,d,j=>tdec k (t.set j (adp t[j]! (dbit d t[j]!).2)) (dbit d t[j]!).1 (2*j+(dbit d t[j]!).2.toNat)
theorem tdec_ok :∀{k:Nat} {t:List Int} {d:Dec} {j:Nat},DecOk d→DecOk (tdec k t d j).2.1∧(tdec k t d j).1.length=t.length∧(2^k*j≤(tdec k t d j).2.2∧(tdec k t d j).2.2<2^k*(j+1))
 |0,t,d,j,h=>⟨h,rfl,by show 2^0*j≤j∧j<2^0*(j+1);omega⟩
 |k+1,t,d,j,h=>by
  have hb:=dbit_bit d t[j]!
  obtain⟨h1,h2,h3,h4⟩:=tdec_ok (k:=k) (t:=t.set j (adp t[j]! (dbit d t[j]!).2)) (j:=2*j+(dbit d t[j]!).2.toNat) (dbit_ok h t[j]!)
  refine⟨h1,h2.trans List.length_set,?_⟩
  show _≤(tdec k (t.set j (adp t[j]! (dbit d t[j]!).2)) (dbit d t[j]!).1 (2*j+(dbit d t[j]!).2.toNat)).2.2∧(tdec k (t.set j (adp t[j]! (dbit d t[j]!).2)) (dbit d t[j]!).1 (2*j+(dbit d t[j]!).2.toNat)).2.2<_
  have a1:=Nat.mul_le_mul_left (2^k) (show 2*j≤2*j+(dbit d t[j]!).2.toNat by omega)
  have a2:=Nat.mul_le_mul_left (2^k) (show 2*j+(dbit d t[j]!).2.toNat+1≤2*(j+1)by omega)
  rw[←Nat.mul_assoc,←Nat.pow_succ]at a1 a2
  exact⟨Nat.le_trans a1 h3,Nat.lt_of_lt_of_le h4 a2⟩
theorem TreeDecode_any (n M N off S0 Sp bits:Nat)(C:List Value)(A Z t:List Int)(d:Dec)(h:SH)
  (hC0:C[off+0]?=some (I bits)) (hC1:C[off+1]?=some (gsl N A.length Sp (2^bits) 0))
  (hC:C.length=S0) (hP:A.length+2^bits+Z.length=Sp) (ht:t.length=2^bits) (hbits:1≤bits∧bits≤8) (hok:DecOk d) :
  SRun Tryz.prog 215 [gptr M off S0,gptr n 0 5] (decB n d::(M,⟨C,false⟩)::(N,⟨nodes (A++t++Z),false⟩)::h) fun r q =>
   r=I (((tdec bits t d 1).2.2:Int)-((2^bits:Nat):Int))∧q=decB n (tdec bits t d 1).2.1::(M,⟨C,false⟩)::(N,⟨nodes (A++(tdec bits t d 1).1++Z),false⟩)::h:=by
 obtain⟨K,hK⟩:∃K,K=2^bits:=⟨_,rfl⟩
 have hsh:=shl_nat (m:=1) (b:=bits) (M:=K) (by omega) hbits.2 (by rw[hK];have:=Nat.pow_le_pow_right (n:=2) (by decide) hbits.2;omega)
 have hK8:K≤256:=by rw[hK];exact Nat.pow_le_pow_right (n:=2) (by decide) hbits.2
 rw[←hK]at hC1 hP ht ⊢
 obtain⟨R,hR⟩:∃R,tdec bits t d 1=R:=⟨_,rfl⟩
 rw[hR]
 refine zY Tryz.func215 rfl rfl ?_
 repeat'(first|apply zF|apply zB|apply zE|refine jg ?_ ?_|(apply zM zC;(iterate 3 exact rfl);exact pk)|apply zA|apply zH|exact jS|((with_reducible apply Ln.mk);first|omega)|((with_reducible apply Ce.mk);first|exact hC0)|exact True.intro|exact rfl)
 refine zZ (S:=Nat × Nat × Nat × List Int × Dec) (fun x=>[(0,gptr M off S0),(1,gptr n 0 5),(5,I x.2.1),(10,I bits),(11,I ((bits:Int)-x.1))]) (fun x=>decB n x.2.2.2.2::(M,⟨C,false⟩)::(N,⟨nodes (A++x.2.2.2.1++Z),false⟩)::h)
  (fun x=>x.1≤bits∧(1≤x.2.2.1∧x.2.2.1≤x.2.1∧x.2.1<2*x.2.2.1∧x.2.2.1*2^x.1=K)∧x.2.2.2.1.length=K∧DecOk x.2.2.2.2∧tdec x.1 x.2.2.2.1 x.2.2.2.2 x.2.1=R)
  (fun x=>x.1) (bits,1,1,t,d) ⟨Nat.le_refl _,⟨Nat.le_refl _,Nat.le_refl _,by show 1<2*1;decide,by rw[hK,Nat.one_mul]⟩,ht,hok,hR⟩ ⟨rfl,rfl,rfl,rfl,congrArg some (congrArg (Value.int .i64) (by dsimp only;omega)),trivial⟩ jK ?_
 rintro⟨k,j,V,t,d⟩ ⟨hk,⟨hV1,hVj,hjV,hW⟩,ht,hok,he⟩
 dsimp only at hk hV1 hVj hjV hW ht hok he ⊢
 cases k with
 |zero =>
  have hVK:V=K:=by rw[Nat.pow_zero,Nat.mul_one]at hW;exact hW
  have he:(t,d,j)=R:=he
  repeat'(first|apply zF|apply zB|apply zE|refine jg ?_ ?_|(apply o_ar zC;exact rfl;exact rfl)|(apply zM zC;(iterate 3 exact rfl);exact pk)|refine jf ?_|apply zA|apply zK|apply zJ|apply zN|apply zV|exact jO|((with_reducible apply Ln.mk);first|omega)|((with_reducible apply Wr.mk);first|exact hsh|exact IntWalk.i64_in _ (by omega))|((with_reducible apply Ce.mk);first|exact hC0)|exact True.intro|exact rfl)
  all_goals first
   |(exfalso;omega)
   |exact jF (k:=by rw[←he];exact⟨rfl,rfl⟩)
 |succ k =>
  have hp2:1≤2^k:=Nat.one_le_two_pow
  have hWK:2*V*2^k=K:=by rw[Nat.pow_succ]at hW;rw[←hW,Nat.mul_comm 2 V,Nat.mul_assoc,Nat.mul_comm 2 (2^k)]
  have hW1:2*V*1≤2*V*2^k:=Nat.mul_le_mul_left (2*V) hp2
  have hjt:j<t.length:=by omega
  obtain⟨z,hz⟩:∃z,z=t[j]!:=⟨_,rfl⟩
  have hcell:=node_cell (A:=A) (Z:=Z) hjt
  obtain⟨b,hb⟩:∃b,b=(dbit d z).2:=⟨_,rfl⟩
  have hset:=node_set (A:=A) (Z:=Z) hjt (adp z b)
  rw[←hz]at hcell
  have hst:tdec (k+1) t d j=tdec k (t.set j (adp z b)) (dbit d z).1 (2*j+b.toNat):=by rw[hb,hz];rfl
  rw[hst]at he
  have hb01:=dbit_bit d z
  rw[←hb]at hb01
  have hlen:(nodes (A++t++Z)).length=Sp:=by simp;omega
  have hB:=dBit_any n z d ((M,⟨C,false⟩)::(N,⟨nodes (A++t++Z),false⟩)::h) hok
  rw[←hb]at hB
  have hok2:=dbit_ok hok z
  have hj2:(((2*j+b.toNat:Nat)):Int)=2*(j:Int)+b:=by omega
  repeat'(first|apply zF|apply zB|apply zE|refine jr ?_|refine jg ?_ ?_|(apply o_ar zC;exact rfl;exact rfl)|(apply zM zC;(iterate 3 exact rfl);exact pk)|(apply zX zC;(iterate 4 exact rfl);exact up)|refine jq ?_ (c:=by exact⟨_,hB,jN⟩)|(apply yS;(iterate 4 exact rfl);exact⟨_,Adapt_any _ _ _,jN⟩;exact fun _ _ h=>h.1;(focus(repeat(first|exact Flat.c rfl))))|refine jd ?_|apply zA|apply zG|apply zI|apply zH|exact jO|((with_reducible apply Ln.mk);first|omega)|exact jW|((with_reducible apply Ce.mk);first|exact hC1|exact hcell)|((with_reducible apply Se.mk);first|exact hset)|exact True.intro|exact Or.inl rfl|apply And.intro|exact rfl)
  all_goals first
   |(exfalso;omega)
   |exact⟨(k,2*j+b.toNat,2*V,t.set j (adp z b),(dbit d z).1),⟨by show k≤bits;omega,⟨by show 1≤2*V;omega,by show 2*V≤2*j+b.toNat;omega,by show 2*j+b.toNat<2*(2*V);omega,hWK⟩,by simpa using ht,hok2,he⟩,by show k<k+1;omega,
     ⟨rfl,rfl,congrArg some (congrArg (Value.int .i64) hj2.symm),rfl,congrArg some (congrArg (Value.int .i64) (by show(bits:Int)-((k+1:Nat):Int)+1=(bits:Int)-(k:Int);omega)),trivial⟩,jK⟩
end Go.Proofs.YteddogfolceahaaGreatDoor
end
section
set_option maxRecDepth 4000
namespace Go.Gh
open Go.RowKit

theorem two_pow_le {k n:Nat}(h:k≤n):(2:Int)^k≤2^n:=by
 have:=Nat.pow_le_pow_right (n:=2) (by decide) h
 exact_mod_cast this
theorem two_pow_pos (k:Nat):(0:Int)<2^k:=Int.pow_pos (by decide)
theorem ofInt_toNat64 (v:Int):((BitVec.ofInt 64 v).toNat:Int)=v%18446744073709551616:=by
 rw[BitVec.toNat_ofInt]
 omega
theorem w_mask (v:Int){k:Nat}(h:k≤62):IntKind.i64.wrap ((BitVec.ofInt IntKind.i64.bits v&&&BitVec.ofInt IntKind.i64.bits (2^k-1)).toNat:Int)=v%2^k:=by
 have h1:=two_pow_le (k:=k) (n:=62) h
 have h2:=two_pow_pos k
 rw[show(2:Int)^62=4611686018427387904 from rfl]at h1
 have h3:=Int.emod_nonneg v (show(2:Int)^k≠0 by omega)
 have h4:=Int.emod_lt_of_pos v h2
 have hn:(BitVec.ofInt 64 ((2:Int)^k-1)).toNat=2^k-1:=by
  have e:((2:Int)^k-1)=((2^k-1:Nat):Int):=by
   have:0<2^k:=Nat.two_pow_pos k
   rw[Int.ofNat_sub (by omega)];norm_cast
  have hle:2^k≤2^62:=Nat.pow_le_pow_right (by decide) h
  rw[e,BitVec.ofInt_natCast,BitVec.toNat_ofNat,Nat.mod_eq_of_lt]
  have:(2:Nat)^62<2^64:=by decide
  omega
 rw[show IntKind.i64.bits=64 from rfl,BitVec.toNat_and,hn,Nat.and_two_pow_sub_one_eq_mod]
 have e:(((BitVec.ofInt 64 v).toNat%2^k:Nat):Int)=v%2^k:=by
  rw[Int.natCast_emod,ofInt_toNat64]
  have:((2^k:Nat):Int)=2^k:=by norm_cast
  rw[this,Int.emod_emod_of_dvd]
  rw[show(18446744073709551616:Int)=2^k*2^(64-k)by rw[←Int.pow_add,show k+(64-k)=64 by omega];rfl]
  exact Int.dvd_mul_right _ _
 rw[e,IntWalk.i64_in _ (by omega)]
end Go.Gh
end
