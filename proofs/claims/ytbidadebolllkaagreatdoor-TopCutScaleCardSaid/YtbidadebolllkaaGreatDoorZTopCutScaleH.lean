/- Part 8 of the proof of the law TopCutScale: texts merged. No condition. -/
import Derived.Test.YtbidadebolllkaaGreatDoorZTopCutScaleG
import Derived.Maps.Range
import Derived.Maps.RangeRun
import Derived.Laws.RangeString
import Derived.Laws.RangeAny
import Derived.Lib.IndexLaws
set_option linter.unusedSimpArgs false
set_option linter.unusedVariables false
section
set_option maxRecDepth 4000
namespace Go.Gh
open Go.RowKit Go.MapKept
noncomputable section

inductive xX (φ:Fi)(L:zP):List Value->List MapEntry->Prop
 |nil:xX φ L [] []
 |cons {x v:Value} {e:MapEntry} {cells es} (hk:Val φ L x e.key) (hv:Val φ L v e.val) (r:xX φ L cells es):xX φ L (x::v::cells) (e::es)
theorem zDu {φ:Fi}{L:zP}:∀{es:List MapEntry} {cells:List Value},cells.length=2*es.length->(∀(i:Nat) v,cells[i]?=some v->∃v',(vZ es)[i]?=some v'/\Val φ L v v')->xX φ L cells es
 |[],[],_,_=>.nil
 |[],_::_,h,_=>by simp at h
 |e::es,[],h,_=>by simp at h
 |e::es,[_],h,_=>by simp at h;omega
 |e::es,x::v::cells,h,hr=>by
  have e2:vZ (e::es)=e.key::e.val::vZ es:=rfl;rw[e2]at hr;obtain⟨k',h1,h2⟩:=hr 0 x rfl;obtain⟨v',h3,h4⟩:=hr 1 v rfl;simp only[List.getElem?_cons_zero,List.getElem?_cons_succ,Option.some.injEq]at h1 h3;subst h1 h3;exact .cons h2 h4 (zDu (by simp at h;omega) λi u hu=>by
   obtain⟨u',g1,g2⟩:=hr (i+2) u (by simpa using hu);exact⟨u',by simpa using g1,g2⟩)
theorem xX.len {φ:Fi}{L:zP}{cells:List Value}{es:List MapEntry}(h:xX φ L cells es):cells.length=2*es.length:=by
 induction h with
 |nil=>rfl
 |cons _ _ _ ih=>simp[ih];omega
theorem xX.row {φ:Fi}{L:zP}{cells:List Value}{es:List MapEntry}(h:xX φ L cells es):∀(i:Nat) v,cells[i]?=some v->∃v',(vZ es)[i]?=some v'/\Val φ L v v':=by
 induction h with
 |nil=>intro i v hi;simp at hi
 |@cons x u e cells es hk hv _ ih =>
  intro i v hi;have e2:vZ (e::es)=e.key::e.val::vZ es:=rfl;rw[e2]
  match i,hi with
  |0,hi=>simp only[List.getElem?_cons_zero,Option.some.injEq]at hi;subst hi;exact⟨e.key,rfl,hk⟩
  |1,hi=>simp only[List.getElem?_cons_succ,List.getElem?_cons_zero,Option.some.injEq]at hi;subst hi;exact⟨e.val,rfl,hv⟩
  |i+2,hi=>exact ih i v (by simpa using hi)
theorem xX.mono {φ φ':Fi}{L L':zP}(e:Ext φ L φ' L'){cells:List Value}{es:List MapEntry}(h:xX φ L cells es):xX φ' L' cells es:=by
 induction h with
 |nil=>exact .nil
 |cons hk hv _ ih=>exact .cons (hk.mono e) (hv.mono e) ih
theorem xX.push {φ:Fi}{L:zP}{cells:List Value}{es:List MapEntry}(h:xX φ L cells es){x v:Value}{e:MapEntry}(hk:Val φ L x e.key)(hv:Val φ L v e.val):xX φ L (cells++[x,v]) (es++[e]):=by
 induction h with
 |nil=>exact .cons hk hv .nil
 |cons h1 h2 _ ih=>exact .cons h1 h2 ih
theorem xX.modify {φ:Fi}{L:zP}{cells:List Value}{es:List MapEntry}(h:xX φ L cells es){x x' v v':Value}(hk:Val φ L x x')(hv:Val φ L v v'):∀j:Nat,j<es.length ->
  xX φ L ((cells.set (2*j) x).set (2*j+1) v) (es.modify j λe=>{ e with key:=x',val:=v' }):=by
 induction h with
 |nil=>intro j hj;simp at hj
 |@cons y u e cells es h1 h2 hr ih =>
  intro j hj;cases j with
  |zero=>exact .cons hk hv hr
  |succ j=>exact .cons h1 h2 (ih j (by simpa using hj))
theorem xX.at {φ:Fi}{L:zP}{cells:List Value}{es:List MapEntry}(h:xX φ L cells es):∀(i:Nat) e,es[i]?=some e->Val φ L (cells.getD (2*i) undef) e.key/\Val φ L (cells.getD (2*i+1) undef) e.val:=by
 induction h with
 |nil=>intro i e hi;simp at hi
 |@cons y u e cells es h1 h2 hr ih =>
  intro i x hi;cases i with
  |zero=>simp at hi;subst hi;exact⟨h1,h2⟩
  |succ i =>
   obtain⟨q1,q2⟩:=ih i x (by simpa using hi);refine⟨?_,?_⟩
   ·rw[show 2*(i+1)=(2*i)+2 by omega];simpa using q1
   ·rw[show 2*(i+1)+1=(2*i+1)+2 by omega];simpa using q2

theorem iS :∀{x y:List Value},yW x y=true->(xI x y=true↔x=y)
 |[],[],_=>⟨λ_=>rfl,λ_=>rfl⟩
 |[],v::_,h=>by cases v <;> cases h
 |u::_,[],h=>by cases u <;> cases h
 |u::x,v::y,h=>by
  cases u <;> cases v <;> (first|(simp[yW]at h;done)|skip)
  ·simp only[yW]at h
   have:=iS h;simp only[xI,Bool.and_eq_true,decide_eq_true_eq,this,List.cons.injEq,Value.bool.injEq]
  ·simp only[yW,Bool.and_eq_true,decide_eq_true_eq]at h
   have:=iS h.2;simp only[xI,Bool.and_eq_true,decide_eq_true_eq,this,List.cons.injEq,Value.int.injEq,h.1,true_and]
  ·rename_i a b
   simp only[yW]at h;have:=iS h;simp only[xI,Bool.and_eq_true,decide_eq_true_eq,this,List.cons.injEq,Value.string.injEq];constructor
   ·rintro⟨h1,h2⟩
    refine⟨?_,h2⟩;cases a;cases b;congr 1;exact Array.ext' h1
   ·rintro⟨rfl,h2⟩
    exact⟨rfl,h2⟩
theorem rV {v:Value}{k:KV}(h:qO v=some k):(∃n,v=.int .i64 n/\k=.i n)\/(∃b,v=.string b/\k=.s (yQ b))\/∃l,v=.agg l/\k=.a l.toList:=by
 unfold qO at h;split at h
 ·cases h;exact .inl ⟨_,rfl,rfl⟩
 ·cases h;exact .inr (.inl ⟨_,rfl,rfl⟩)
 ·cases h;exact .inr (.inr ⟨_,rfl,rfl⟩)
 ·cases h
theorem bU {φ:Fi}{L:zP}{v u:Value}{k k2:KV}(h:qO v=some k)(hl:nM k k2=true)(hv:Val φ L v u):u=v:=by
 rcases rV h with⟨n,rfl,rfl⟩|⟨b,rfl,rfl⟩|⟨l,rfl,rfl⟩
 ·exact hv.scalar rfl
 ·exact hv.scalar rfl
 ·cases k2 with
  |a y =>
   obtain⟨us,rfl,h2⟩:=oC (by rw[rE];exact hv:Val φ L (.agg l.toList.toArray) u);rw[zRk hl h2,rE]
  |_=>cases hl
theorem zJg {v v2:Value}{k k2:KV}(h:qO v=some k)(h2:qO v2=some k2)(hl:nM k k2=true):eB k k2=true↔v=v2:=by
 rcases rV h with⟨n,rfl,rfl⟩|⟨b,rfl,rfl⟩|⟨l,rfl,rfl⟩ <;> rcases rV h2 with⟨n2,rfl,rfl⟩|⟨b2,rfl,rfl⟩|⟨l2,rfl,rfl⟩ <;> (first|(cases hl;done)|skip)
 ·show eqI _ _=true↔_
  rw[rS];simp
 ·show sN _ _=true↔_
  rw[uX,vX b,vX b2];constructor
  ·intro e;have e:=of_decide_eq_true e;rw[e]
  ·intro e
   have:(⟨⟨yQ b⟩⟩:ByteArray)=⟨⟨yQ b2⟩⟩:=by injection e
   have e2:yQ b=yQ b2:=by injection this with h;injection h
   exact decide_eq_true e2
 ·show xI _ _=true↔_
  have hl':yW l.toList l2.toList=true:=hl;rw[iS hl'];constructor
  ·intro e;rw[<-rE l,<-rE l2,e]
  ·intro e;cases e;rfl
theorem zUa {k:KV}{x v:Value}{r:List Value}{i:Nat}{q:Option (Nat × Value)}(h:wZ k (x::v::r) i=some q):∃k',qO x=some k'/\nM k' k=true/\((eB k' k=true/\q=some (i,v))\/(eB k' k=false/\wZ k r (i+1)=some q)):=by
 unfold wZ at h;split at h
 ·cases h
 ·rename_i k' hk
  cases hl:nM k' k with
  |false=>rw[hl]at h;cases h
  |true =>
   rw[hl]at h;simp only[cond_true]at h;cases he:eB k' k with
   |true=>rw[he]at h;cases h;exact⟨k',hk,hl,.inl ⟨he,rfl⟩⟩
   |false=>rw[he]at h;exact⟨k',hk,hl,.inr ⟨he,h⟩⟩
def lK (φ:Fi)(L:zP)(kv:Value)(es:List MapEntry)(i:Nat)(q:Option (Nat × Value))(m:Option (Nat × Value)):Prop :=
 (q=none/\m=none)\/∃j e v,q=some (i+j,v)/\m=some (i+j,e.val)/\es[j]?=some e/\e.key=kv/\Val φ L v e.val
theorem lK.later {φ:Fi}{L:zP}{kv:Value}{es:List MapEntry}{i:Nat}{q m:Option (Nat × Value)}(h:lK φ L kv es (i+1) q m)(e0:MapEntry):lK φ L kv (e0::es) i q m:=by
 rcases h with h|⟨j,e,v,h1,h2,h3,h4,h5⟩
 ·exact .inl h
 ·exact .inr ⟨j+1,e,v,by rw[h1];congr 2;omega,by rw[h2];congr 2;omega,by simpa using h3,h4,h5⟩
theorem zFv {φ:Fi}{L:zP}{k:KV}{kv:Value}{d:TypeDesc}(hk:qO kv=some k)(hd:IsKey d kv){cells:List Value}{es:List MapEntry}(h:xX φ L cells es):∀(i:Nat) q,wZ k cells i=some q ->
  ∃m,Instr.findNow d kv es i=some m/\lK φ L kv es i q m:=by
 induction h with
 |nil=>intro i q hq;cases hq;exact⟨none,rfl,.inl ⟨rfl,rfl⟩⟩
 |@cons x v e cells es hx hv _ ih =>
  intro i q hq;obtain⟨k',h1,h2,h3⟩:=zUa hq;have hek:=bU h1 h2 hx;have hiff:=zJg h1 hk h2;have hdx:IsKey d x:=by
   rcases rV hk with⟨n,rfl,rfl⟩|⟨b,rfl,rfl⟩|⟨l,rfl,rfl⟩ <;> rcases rV h1 with⟨n2,rfl,rfl⟩|⟨b2,rfl,rfl⟩|⟨l2,rfl,rfl⟩ <;> (first|(cases h2;done)|skip)
   ·cases d <;> first|exact hd|cases hd
   ·cases d <;> first|exact hd|cases hd
   ·cases d <;> cases hd
  obtain⟨r,hr,hr2⟩:=sameNow_of_keys hd (hek▸hdx:IsKey d e.key);unfold Instr.findNow;rcases h3 with⟨h3,rfl⟩|⟨h3,h4⟩
  ·have:kv=e.key:=by rw[hek];exact(hiff.1 h3).symm
   rw[hr,hr2.2 this];exact⟨_,rfl,.inr ⟨0,e,v,rfl,rfl,rfl,this.symm,hv⟩⟩
  ·have:r=false:=by
    cases r with
    |false=>rfl
    |true=>rw[hek]at hr2;rw[hiff.2 (hr2.1 rfl).symm]at h3;cases h3
   rw[hr,this];obtain⟨m,m1,m2⟩:=ih (i+1) q h4;exact⟨m,m1,m2.later e⟩
theorem yJv {P:Program}{φ:Fi}{L:zP}{K:TypeId}{l:Array Value}{w:World}(hT:sW P K l.toList.length=true)(hkd:uY P K l.toList=true)(hll:yW l.toList l.toList=true){cells:List Value}{es:List MapEntry}(h:xX φ L cells es):∀(i:Nat) q,wZ (.a l.toList) cells i=some q ->
  ∃m,(Instr.findAsking K (.agg l) es i).run P w=.ok m w/\lK φ L (.agg l) es i q m:=by
 induction h with
 |nil=>intro i q hq;cases hq;exact⟨none,by simp[Instr.findAsking],.inl ⟨rfl,rfl⟩⟩
 |@cons x v e cells es hx hv _ ih =>
  intro i q hq;obtain⟨k',h1,h2,h3⟩:=zUa hq;have hek:=bU h1 h2 hx;have hiff:=zJg h1 (show qO (.agg l)=some (.a l.toList)from rfl) h2;obtain⟨y,rfl⟩:∃y,x=.agg y:=by
   rcases rV h1 with⟨n2,rfl,rfl⟩|⟨b2,rfl,rfl⟩|⟨l2,rfl,rfl⟩
   ·cases h2
   ·cases h2
   ·exact⟨_,rfl⟩
  cases h1;have hly:=zDv h2;have hlen:=zAl _ _ hly;have hrun:=zDp (P:=P) (T:=K) (xs:=l) (ys:=y) (w:=w) hT (by simp) (by simpa using hlen) hly (λi f hf u v hu hv=>zDz hkd i f hf u v (by simpa using hu) _ hv);unfold Instr.findAsking;simp only[Sem.run_bind,hek,hrun,Result.andThen_ok];rcases h3 with⟨h3,rfl⟩|⟨h3,h4⟩
  ·have hxl:(Value.agg y)=.agg l:=hiff.1 h3
   cases hxl;rw[(iS hll).2 rfl];exact⟨_,rfl,.inr ⟨0,e,v,rfl,rfl,rfl,hek,hv⟩⟩
  ·have:xI l.toList y.toList=false:=by
    cases hb:xI l.toList y.toList with
    |false=>rfl
    |true =>
     have:=(iS hly).1 hb;have e2:(Value.agg y)=.agg l:=by rw[<-rE y,<-rE l,this]
     rw[hiff.2 e2]at h3;cases h3
   rw[this];obtain⟨m,m1,m2⟩:=ih (i+1) q h4;exact⟨m,m1,m2.later e⟩
theorem zBf {P:Program}{φ:Fi}{L:zP}{K:TypeId}{k:KV}{kv:Value}{w:World}(hk:qO kv=some k)(hK:sP P K k=true){cells:List Value}{es:List MapEntry}(h:xX φ L cells es){q:Option (Nat × Value)}(hq:wZ k cells 0=some q) :
  ∃m,(Instr.findKey K kv es).run P w=.ok m w/\lK φ L kv es 0 q m:=by
 unfold sP at hK;split at hK
 ·rename_i n hu
  have hd:IsKey (.int .i64) kv:=by
   rcases rV hk with⟨n2,rfl,h9⟩|⟨b2,rfl,h9⟩|⟨l2,rfl,h9⟩ <;> first|rfl|cases h9
  obtain⟨m,m1,m2⟩:=zFv hk hd h 0 q hq;exact⟨m,run_findKey hu m1,m2⟩
 ·rename_i n hu
  have hd:IsKey .string kv:=by
   rcases rV hk with⟨n2,rfl,h9⟩|⟨b2,rfl,h9⟩|⟨l2,rfl,h9⟩ <;> first|trivial|cases h9
  obtain⟨m,m1,m2⟩:=zFv hk hd h 0 q hq;exact⟨m,run_findKey hu m1,m2⟩
 ·rename_i l fs hu
  simp only[Bool.and_eq_true]at hK;obtain⟨y,rfl⟩:∃y,kv=.agg y:=by
   rcases rV hk with⟨n2,rfl,h9⟩|⟨b2,rfl,h9⟩|⟨l2,rfl,h9⟩
   ·cases h9
   ·cases h9
   ·exact⟨_,rfl⟩
  cases hk;obtain⟨m,m1,m2⟩:=yJv (w:=w) hK.1.1 hK.1.2 hK.2 h 0 q hq;refine⟨m,?_,m2⟩;cases es with
  |nil=>simpa[Instr.findKey,run_underlying hu,Instr.findNow,Instr.findAsking]using m1
  |cons e es=>simpa[Instr.findKey,run_underlying hu,Instr.findNow,Instr.sameNow]using m1
 ·cases hK
theorem zJi {P:Program}{w:World}{g:Field->PUnit->Sem (ForInStep PUnit)}:∀(fs:List Field),(∀f∈fs,(g f PUnit.unit).run P w=.ok (.yield PUnit.unit) w)->(forIn fs PUnit.unit g).run P w=.ok PUnit.unit w
 |[],_=>rfl
 |f::fs,h=>by
  rw[List.forIn_cons];simp only[Sem.run_bind,h f List.mem_cons_self,Result.andThen_ok];exact zJi fs λx hx=>h x (List.mem_cons_of_mem _ hx)
theorem zIg {P:Program}{em:Bool}{l:Array Value}{w:World}:∀(fs:List Field) (k:Nat),
  (fs.zipIdx k).all (λ(f,i)=>f.name != "_" && f.offset == i && (match P.underlying f.type with|some .bool|some (.int _)|some .string=>true|_=>false))=true->k+fs.length<=l.size ->
  ∀f∈fs,f.name ≠ "_" /\ ∃u,(part f.type l f.offset).run P w=.ok u w/\(Instr.checkKey em 9999 f.type u).run P w=.ok () w
 |[],_,_,_,f,hf=>by cases hf
 |f::fs,k,hall,hl,f',hf'=>by
  simp only[List.zipIdx_cons,List.all_cons,Bool.and_eq_true,bne_iff_ne,ne_eq,beq_iff_eq]at hall;obtain⟨⟨⟨hname,hoff⟩,hT⟩,hrest⟩:=hall;simp only[List.length_cons]at hl;rcases List.mem_cons.1 hf' with rfl|hf'
  rotate_left
  ·exact zIg fs (k+1) hrest (by omega) f' hf'
  have gx:l[k]?=some (l[k]'(by omega)):=by simp
  generalize l[k]'(by omega)=u at gx;have hag:vM P f'.type=some false:=by
   unfold vM
   revert hT
   cases P.underlying f'.type with
   |none=>simp
   |some q=>cases q <;> simp
  refine⟨hname,u,by simp[part,pW hag,hoff,gx],?_⟩;unfold Instr.checkKey;cases hu:P.underlying f'.type with
  |none=>rw[hu]at hT;simp at hT
  |some q=>rw[hu]at hT;cases q <;> simp at hT <;> simp[run_underlying hu]
theorem aW {P:Program}{K:TypeId}{k:KV}{kv:Value}{w:World}{em:Bool}(hk:qO kv=some k)(hK:sP P K k=true):(Instr.checkKey em 10000 K kv).run P w=.ok () w:=by
 unfold sP at hK;split at hK
 ·rename_i n hu
  rcases rV hk with⟨n2,rfl,h9⟩|⟨b2,rfl,h9⟩|⟨l2,rfl,h9⟩ <;> first|exact run_checkKey hu (by first|rfl|trivial) em 9999|cases h9
 ·rename_i n hu
  rcases rV hk with⟨n2,rfl,h9⟩|⟨b2,rfl,h9⟩|⟨l2,rfl,h9⟩ <;> first|exact run_checkKey hu (by first|rfl|trivial) em 9999|cases h9
 ·rename_i l fs hu
  simp only[Bool.and_eq_true]at hK;obtain⟨y,rfl⟩:∃y,kv=.agg y:=by
   rcases rV hk with⟨n2,rfl,h9⟩|⟨b2,rfl,h9⟩|⟨l2,rfl,h9⟩
   ·cases h9
   ·cases h9
   ·exact⟨_,rfl⟩
  cases hk;have hT:=hK.1.1;unfold sW at hT;simp only[Bool.and_eq_true,decide_eq_true_eq,Bool.not_eq_true']at hT;obtain⟨⟨⟨⟨h1,h2⟩,h3⟩,h4⟩,h5⟩:=hT;have hf:P.fieldsOf K=fs:=by unfold Program.fieldsOf;rw[hu]
  rw[hf]at h2 h5;have:=zIg (P:=P) (em:=em) (l:=y) (w:=w) fs.toList 0 h5 (by rw[h2];simp);unfold Instr.checkKey;simp only[Sem.run_bind,run_underlying hu,Result.andThen_ok];rw[<-Array.forIn_toList];rw[zJi fs.toList λf hf=>by
   obtain⟨q1,u,q2,q3⟩:=this f hf;simp[q1,q2,q3]]
  try rfl
 ·cases hK
theorem yLe {kv:Value}{k:KV}(hk:qO kv=some k)(hl:nM k k=true):Instr.sameBits 10000 kv kv=true:=by
 rcases rV hk with⟨n,rfl,rfl⟩|⟨b,rfl,rfl⟩|⟨l,rfl,rfl⟩
 ·simp[Instr.sameBits]
 ·simp[Instr.sameBits,bytes_beq]
 ·have h2:yW l.toList l.toList=true:=hl
  simp only[Instr.sameBits,beq_self_eq_true,Bool.true_and];generalize l.toList=x at h2;have key:∀{x y:List Value},yW x y=true->(x.zip x).all (λ(x,y)=>Instr.sameBits 9999 x y)=true:=by
   intro x
   induction x with
   |nil=>intro _ _;rfl
   |cons u x ih =>
    intro y h;cases y with
    |nil=>cases u <;> cases h
    |cons v y =>
     have hz:yW x y=true:=by cases u <;> cases v <;> simp_all [yW]
     have hu:Instr.sameBits 9999 u u=true:=by
      cases u <;> cases v <;> (first|(simp[yW]at h;done)|simp[Instr.sameBits,bytes_beq])
     simp only[List.zip_cons_cons,List.all_cons,hu,ih hz,Bool.and_self]
  exact key h2
theorem yNq {P:Program}{kv:Value}{k:KV}{w:World}(hk:qO kv=some k)(hl:nM k k=true):(Instr.keyThatStays kv kv).run P w=.ok kv w:=by
 simp[Instr.keyThatStays,yLe hk hl]
theorem zEe {P:Program}{K:TypeId}{k:KV}(hK:sP P K k=true):nM k k=true:=by
 unfold sP at hK;split at hK
 ·rfl
 ·rfl
 ·simp only[Bool.and_eq_true]at hK;exact hK.2
 ·cases hK
section
variable {P:Program} {N:Fr} {o:Oper} {a:AF} {H:zI}
theorem oW {B0:Nat}{w0:World}{φ:Fi}{w:World}(r:Rel B0 w0 φ H w){A:Nat}{g:Blk}(hA:H[A]?=some (some g))
  {u:Value} (hu:Val φ (lens H) (.map (some A)) u):u=.map (some (φ A).b)/\((φ A).mp=true/\(φ A).size=0)/\(φ A).base=0/\∃es clock,w.heap[(φ A).b]?=some (.map es clock)/\xX φ (lens H) g.cells es.toList/\tL es clock:=by
 cases hu with
 |map _ n q hL h =>
  obtain⟨o,c,h1,h2,h3,h4⟩:=(r.blk A _ hA).any;refine⟨by rw[h.2],h.1,?_⟩;cases h2 with
  |cells hm=>rw[h.1.1]at hm;cases hm
  |loop _ _ hz=>rw[h.1.2]at hz;cases hz
  |siter _ _ hz=>rw[h.1.2]at hz;cases hz
  |miter _ _ hz=>rw[h.1.2]at hz;cases hz
  |bag _ _ hz=>rw[h.1.2]at hz;cases hz
  |map hm hb hl _ hn =>
   refine⟨hb,_,_,h1,zDu (by simpa using hl) λi v hi=>?_,hn⟩;obtain⟨v',g1,g2⟩:=h4 i v hi;rw[hb,Nat.zero_add]at g1;exact⟨v',by simpa using g1,g2⟩
theorem bJ {φ:Fi}{L:zP}{u v:Value}{b:Bool}(c:Bool)(h:Val φ L u v):Val φ L (okV c u b) (okV c v b):=by
 cases c with
 |false=>exact h
 |true =>
  refine .tuple _ _ rfl λi hi hi'=>?_
  match i,hi with
  |0,_=>exact h
  |1,_=>exact .bool b
theorem bE (T:TypeId)(x k:Operand)(c:Bool){A K E s b:Nat}{g:Blk}{z kv:Value}{key:KV}{q:Option (Nat × Value)}(ho:o.op=.lookup T x k c)(hx:ev a x=some (.map (some A)))(hk:ev a k=some kv)(hkey:qO kv=some key)
  (hA:H[A]?=some (some g)) (hT:P.underlying T=some (.map K E)) (hK:sP P K key=true) (hI:yC P E=some (some z,s,b)) (hz:yB z=true) (hq:wZ key g.cells 0=some q) :
  zR P N o a H (match q with|some (_,v)=>okV c v true|none=>okV c z false):=by
 refine⟨λB0 w0 φ w ac r hf=>?_⟩;obtain⟨h1,_,_,es,cl,h2,h3,_⟩:=oW r hA (zN hf hx);have h4:=bU hkey (zEe hK) (zN hf hk);have fin:∀(m:Option (Nat × Value)),(∀w1:World,(Instr.findKey K kv es.toList).run P w1=.ok m w1)->∀w1,Below w.heap.size w w1 ->
   (execOp ac.eval o).run P w1=.ok (.value (match m with|some (_,v)=>okV c v true|none=>okV c z false)) w1:=by
  intro m hm w1 hb;have h2':w1.heap[(φ A).b]?=some (.map es cl):=by rw[hb.block _ (r.lt hA)];exact h2
  unfold execOp;cases m with
  |none=>cases c <;> simp[ho,h1,h4,Instr.lookup,run_underlying hT,MapKept.run_getObj_map h2',aW hkey hK,hm w1,pJ hI,okV]
  |some p=>obtain⟨j,v⟩:=p;cases c <;> simp[ho,h1,h4,Instr.lookup,run_underlying hT,MapKept.run_getObj_map h2',aW hkey hK,hm w1,okV]
 obtain⟨m,m1,m2⟩:=zBf (P:=P) (w:=w) hkey hK h3 hq;have m3:∀w1:World,(Instr.findKey K kv es.toList).run P w1=.ok m w1:=λw1=>by
  obtain⟨m',n1,n2⟩:=zBf (P:=P) (w:=w1) hkey hK h3 hq;have:m'=m:=by
   rcases m2 with⟨q1,q2⟩|⟨j,e,v,q1,q2,q3,q4,q5⟩ <;> rcases n2 with⟨p1,p2⟩|⟨j',e',v',p1,p2,p3,p4,p5⟩
   ·rw[q2,p2]
   ·rw[q1]at p1;cases p1
   ·rw[q1]at p1;cases p1
   ·rw[q1]at p1
    simp only[Nat.zero_add,Option.some.injEq,Prod.mk.injEq]at p1;obtain⟨rfl,_⟩:=p1;rw[q3]at p3;cases p3;rw[q2,p2]
  rw[<-this];exact n1
 refine⟨_,?_,fin m m3⟩;rcases m2 with⟨rfl,rfl⟩|⟨j,e,v,rfl,rfl,_,_,hv⟩
 ·exact bJ c (Val.const hz)
 ·exact bJ c hv
theorem zQm {B0:Nat}{w0:World}{φ:Fi}{w:World}(r:Rel B0 w0 φ H w){A:Nat}{g:Blk}(hA:H[A]?=some (some g)){u:Value}(hu:Val φ (lens H) (.complex .f32 A 0) u) :
  u=.map (some (φ A).b)/\(φ A).mp=true/\(φ A).size=4/\(φ A).base=0/\∃es es' clock,w.heap[(φ A).b]?=some (.map es clock)/\xX φ (lens H) g.cells es'/\es'.Perm es.toList/\(es'.Pairwise λx y=>x.key≠y.key)/\∀e∈es',∃s,e.key=.string s:=by
 cases hu with
 |bag _ n q hL h =>
  obtain⟨o,c,h1,h2,h3,h4⟩:=(r.blk A _ hA).any;refine⟨by rw[h.2],h.1.1,h.1.2,?_⟩;cases h2 with
  |cells hm=>rw[h.1.1]at hm;cases hm
  |loop _ _ hz=>rw[h.1.2]at hz;cases hz
  |siter _ _ hz=>rw[h.1.2]at hz;cases hz
  |miter _ _ hz=>rw[h.1.2]at hz;cases hz
  |map _ _ _ hz=>rw[h.1.2]at hz;cases hz
  |@bag es es' clock hm hb hz hl hp hd hk =>
   refine⟨hb,es,es',clock,h1,zDu hl λi v hi=>?_,hp,hd,hk⟩;obtain⟨v',g1,g2⟩:=h4 i v hi;rw[hb,Nat.zero_add]at g1;exact⟨v',by simpa using g1,g2⟩
theorem zUw {P:Program}{φ:Fi}{L:zP}{K:TypeId}{s:List UInt8}{w:World}(hK:P.underlying K=some .string){cells:List Value}{es es':List MapEntry}(h:xX φ L cells es')(hp:es'.Perm es)(hd:es'.Pairwise λx y=>x.key≠y.key)(hk:∀e∈es',∃s,e.key=.string s)
  {q:Option (Nat × Value)} (hq:wZ (.s s) cells 0=some q):∃m,(Instr.findKey K (S s) es).run P w=.ok m w/\((q=none/\m=none)\/∃i v j u,q=some (i,v)/\m=some (j,u)/\Val φ L v u):=by
 have hks:∀e∈es,IsKey .string e.key:=λe he=>by
  obtain⟨s,hs⟩:=hk e (hp.mem_iff.2 he);rw[hs];trivial
 obtain⟨m,hm0,hf⟩:=zFv (d:=.string) (kv:=S s) (k:=.s s) (φ:=φ) (L:=L) rfl trivial h 0 q hq;rcases findNow_spec (d:=.string) (k:=S s) trivial es 0 hks with⟨h1,h2⟩|⟨j,e,h1,h2,h3⟩
 ·refine⟨none,run_findKey hK h1,.inl ⟨?_,rfl⟩⟩
  rcases hf with⟨h4,_⟩|⟨j,e,v,h4,_,h5,h6,_⟩
  ·exact h4
  ·exact absurd h6 (h2 e (hp.mem_iff.1 (List.mem_of_getElem? h5)))
 ·refine⟨_,run_findKey hK h1,.inr ?_⟩
  have hes:=hp.mem_iff.2 (List.mem_of_getElem? h2);rcases hf with⟨_,h5⟩|⟨j2,e2,v,h4,_,h5,h6,h7⟩
  ·exfalso
   subst h5;have hks':∀e∈es',IsKey .string e.key:=λe he=>by
    obtain⟨s,hs⟩:=hk e he;rw[hs];trivial
   rcases findNow_spec (d:=.string) (k:=S s) trivial es' 0 hks' with⟨g1,g2⟩|⟨j3,e3,g1,_,_⟩
   ·exact g2 e hes h3
   ·rw[g1]at hm0;cases hm0
  ·have he:e2=e:=entry_eq_of_key hd (List.mem_of_getElem? h5) hes (h6.trans h3.symm)
   subst he;exact⟨_,v,_,_,h4,rfl,h7⟩
theorem zDm (T:TypeId)(x k y:Operand){A K E:Nat}{cells:List Value}{m0:Mk}{kv v:Value}{key:KV}{q:Option (Nat × Value)}(ho:o.op=.mapUpdate T x k y\/o.op=.insert T x k y)(hx:ev a x=some (.map (some A)))(hk:ev a k=some kv)(hkey:qO kv=some key)(hy:ev a y=some v)
  (hA:H[A]?=some (some ⟨cells,m0⟩)) (hro:m0.b=false) (hT:P.underlying T=some (.map K E)) (hK:sP P K key=true) (hq:wZ key cells 0=some q) :
  xG P N o a H undef (H.set A (some ⟨match q with|some (i,_)=>(cells.set (2*i) kv).set (2*i+1) v|none=>cells++[kv,v],false⟩)):=by
 refine kR (λB0 w0 φ w ac r hf=>?_);obtain⟨h1,hmp,hbase,es,cl,h2,h3,hbn⟩:=oW r hA (zN hf hx);have h4:=bU hkey (zEe hK) (zN hf hk);have h4v:Val φ (lens H) kv kv:=by have:=zN hf hk;rw[h4]at this;exact this
 have h5:=zN hf hy;generalize hvv:ac.eval y=v' at h5;have hlt:=r.lt hA;have hl3:=h3.len;have key:∀(cells':List Value) (es':Array MapEntry) (cl':Nat),tL es' cl'->xX φ (lens H) cells' es'.toList->cells.length<=cells'.length ->
   ∃φ',Ext φ (lens H) φ' (lens (H.set A (some ⟨cells',false⟩)))/\Rel B0 w0 φ' (H.set A (some ⟨cells',false⟩)) { w with heap:=w.heap.setIfInBounds (φ A).b (.map es' cl') }:=λcells' es' cl' hbn he hle=>by
  obtain⟨g1,g2⟩:=nP (w':={ w with heap:=w.heap.setIfInBounds (φ A).b (.map es' cl') }) (g':=⟨cells',false⟩) (l':=φ A) r hA hro rfl rfl rfl (by simp) (λq _ hq=>(heap_set h2).2 q hq) (.inl rfl) hbase
   (by
    rcases Nat.lt_or_ge cells.length cells'.length with h|h
    ·exact .inr ⟨h,λ_=>rfl⟩
    ·exact .inl ⟨by simp only;omega,rfl⟩)
   (λhext=>by
    rw[mZ]at hext ⊢;have he':=he.mono hext;refine⟨_,_,(heap_set h2).1,.map hmp.1 hbase ?_ hmp.2 hbn,?_,λi u hi=>?_⟩
    ·have:=he.len;simpa using this
    ·have:=he.len;rw[hbase];simp only[List.size_toArray,bF];omega
    ·obtain⟨u',k1,k2⟩:=he'.row i u hi
     exact⟨u',by rw[hbase,Nat.zero_add];simpa using k1,k2⟩)
  exact⟨_,g1,g2⟩
 have hop:∀w1:World,(execOp ac.eval o).run P w1=((Instr.mapUpdate T (ac.eval x) (ac.eval k) (ac.eval y)).run P w1).andThen λ_ w2=>.ok .skip w2:=by
  intro w1;unfold execOp;rcases ho with ho|ho <;> simp only[ho,Sem.run_bind,Sem.run_pure]
 obtain⟨m,m1,m2⟩:=zBf (P:=P) (w:=w) hkey hK h3 hq;rcases m2 with⟨rfl,rfl⟩|⟨j,e,u,rfl,rfl,hj,hek,_⟩
 ·obtain⟨φ',k1,k2⟩:=key (cells++[kv,v]) (es.push { key:=kv,val:=v',born:=cl }) (cl+1) (zKj hbn _ _) (by simpa using h3.push (e:=⟨kv,v',cl⟩) h4v h5) (by simp)
  refine⟨φ',_,k1,k2,?_⟩;rw[hop];simp[h1,h4,hvv,Instr.mapUpdate,run_underlying hT,MapKept.run_getObj_map h2,aW hkey hK,m1,MapKept.run_setObj_map _ h2]
 ·have hjl:j<es.toList.length:=(List.getElem?_eq_some_iff.1 hj).1
  have hj':es[j]?=some e:=by simpa using hj
  obtain⟨φ',k1,k2⟩:=key ((cells.set (2*j) kv).set (2*j+1) v) (es.modify j λe=>{ e with key:=kv,val:=v' }) cl (zTt hbn _ _ λ_=>rfl) (by
   have:=h3.modify h4v h5 j hjl;simpa using this) (by simp)
  simp only[Nat.zero_add];refine⟨φ',_,k1,k2,?_⟩;rw[hop];simp[h1,h4,hvv,Instr.mapUpdate,run_underlying hT,MapKept.run_getObj_map h2,aW hkey hK,m1,hj',hek,yNq hkey (zEe hK),MapKept.run_setObj_map _ h2]
theorem zSz (T:TypeId)(x k:Operand)(c:Bool){A K E s b:Nat}{g:Blk}{z:Value}{l:List UInt8}{q:Option (Nat × Value)}(ho:o.op=.lookup T x k c)(hx:ev a x=some (.complex .f32 A 0))(hk:ev a k=some (S l))
  (hA:H[A]?=some (some g)) (hT:P.underlying T=some (.map K E)) (hK:P.underlying K=some .string) (hI:yC P E=some (some z,s,b)) (hz:yB z=true) (hq:wZ (.s l) g.cells 0=some q) :
  zR P N o a H (match q with|some (_,v)=>okV c v true|none=>okV c z false):=by
 refine⟨λB0 w0 φ w ac r hf=>?_⟩;obtain⟨h1,_,_,_,es,es',cl,h2,h3,hp,hd,hkk⟩:=zQm r hA (zN hf hx);have h4:=(zN hf hk).scalar rfl;have hck:∀(em:Bool) (w1:World),(Instr.checkKey em 10000 K (S l)).run P w1=.ok () w1:=λem w1=>run_checkKey hK (by trivial) em 9999;obtain⟨m,m1,m2⟩:=zUw (P:=P) (w:=w) hK h3 hp hd hkk hq;have m3:∀w1:World,(Instr.findKey K (S l) es.toList).run P w1=.ok m w1:=λw1=>by
  have hks:∀e∈es.toList,IsKey .string e.key:=λe he=>by
   obtain⟨s,hs⟩:=hkk e (hp.mem_iff.2 he);rw[hs];trivial
  rcases findNow_spec (d:=.string) (k:=S l) trivial es.toList 0 hks with⟨g1,_⟩|⟨j,e,g1,_,_⟩
  ·have e1:=run_findKey (P:=P) (w:=w) hK g1
   rw[m1]at e1;cases e1;exact run_findKey hK g1
  ·have e1:=run_findKey (P:=P) (w:=w) hK g1
   rw[m1]at e1;cases e1;exact run_findKey hK g1
 have fin:∀w1,Below w.heap.size w w1->(execOp ac.eval o).run P w1=.ok (.value (match m with|some (_,v)=>okV c v true|none=>okV c z false)) w1:=by
  intro w1 hb;have h2':w1.heap[(φ A).b]?=some (.map es cl):=by rw[hb.block _ (r.lt hA)];exact h2
  unfold execOp;cases m with
  |none=>cases c <;> simp[ho,h1,h4,Instr.lookup,run_underlying hT,MapKept.run_getObj_map h2',hck,m3 w1,pJ hI,okV]
  |some p=>obtain⟨j,v⟩:=p;cases c <;> simp[ho,h1,h4,Instr.lookup,run_underlying hT,MapKept.run_getObj_map h2',hck,m3 w1,okV]
 refine⟨_,?_,fin⟩;rcases m2 with⟨rfl,rfl⟩|⟨i,v,j,u,rfl,rfl,hv⟩
 ·exact bJ c (Val.const hz)
 ·exact bJ c hv
theorem yLp (T:TypeId)(x:Operand){A K E:Nat}{g:Blk}(ho:o.op=.call { callee:=.builtin .len,args:=#[x],argTypes:=#[T] })(hx:ev a x=some (.map (some A)))
  (hA:H[A]?=some (some g)) (hT:P.underlying T=some (.map K E)):zR P N o a H (I (g.cells.length/2:Nat)):=by
 refine⟨λB0 w0 φ w ac r hf=>?_⟩;obtain⟨h1,_,_,es,cl,h2,h3,_⟩:=oW r hA (zN hf hx);have h4:=h3.len;refine⟨_,.int _ _,λw1 hb=>?_⟩;have h2':w1.heap[(φ A).b]?=some (.map es cl):=by rw[hb.block _ (r.lt hA)];exact h2
 unfold execOp;simp[ho,resolve,invoke,builtin,h1,Builtin.len_,run_underlying hT,MapKept.run_getObj_map h2',goInt];simp at h4;omega
theorem yFc (T:TypeId)(x:Operand){E n:Nat}{v:Value}(ho:o.op=.call { callee:=.builtin .len,args:=#[x],argTypes:=#[T] })(hx:ev a x=some v)
  (hT:P.underlying T=some (.array n E)):zR P N o a H (I n):=by
 refine⟨λB0 w0 φ w ac r hf=>⟨_,.int _ _,λw1 hb=>?_⟩⟩;unfold execOp;simp[ho,resolve,invoke,builtin,Builtin.len_,run_underlying hT,goInt]
end
section
variable {P:Program} {o:Oper} {f:Fm} {h:Hp}
theorem yCe {T:TypeId}{x k:Operand}{c:Bool}(ho:o.op=.lookup T x k c):yF P o f h (zCq P f h T x k c):=by
 unfold zCq;split
 ·rename_i A kv K E hx hk hT
  unfold zRt;split
  ·rename_i g key hg hkey
   unfold zNe;split
   ·rename_i z s b hI
    refine yN λhc=>?_;simp only[Bool.and_eq_true]at hc;unfold aY;split
    ·rename_i i v hq
     exact zY λ_ _ _ hag hfp=>bE T x k c ho (yR hx hag (by rw[ho];simp[Op.operands])) (yR hk hag (by rw[ho];simp[Op.operands])) hkey (hfp A (by simp) g hg) hT hc.1 hI hc.2 hq
    ·rename_i hq
     exact zY λ_ _ _ hag hfp=>bE T x k c ho (yR hx hag (by rw[ho];simp[Op.operands])) (yR hk hag (by rw[ho];simp[Op.operands])) hkey (hfp A (by simp) g hg) hT hc.1 hI hc.2 hq
    ·exact trivial
   ·exact trivial
  ·exact trivial
 ·rename_i A b K E hx hk hT
  have hk':=hk.trans (congrArg some (vX b));unfold zVs;split
  ·rename_i g hg
   unfold zIt;split
   ·rename_i z s b2 hI
    refine yN λhc=>?_;simp only[Bool.and_eq_true]at hc;unfold aY;split
    ·rename_i i v hq
     exact zY λ_ _ _ hag hfp=>zSz T x k c ho (yR hx hag (by rw[ho];simp[Op.operands])) (yR hk' hag (by rw[ho];simp[Op.operands])) (hfp A (by simp) g hg) hT (sS hc.1) hI hc.2 hq
    ·rename_i hq
     exact zY λ_ _ _ hag hfp=>zSz T x k c ho (yR hx hag (by rw[ho];simp[Op.operands])) (yR hk' hag (by rw[ho];simp[Op.operands])) (hfp A (by simp) g hg) hT (sS hc.1) hI hc.2 hq
    ·exact trivial
   ·exact trivial
  ·exact trivial
 ·exact trivial
theorem zUy {T:TypeId}{x k y:Operand}(ho:o.op=.mapUpdate T x k y\/o.op=.insert T x k y):yF P o f h (bW P f h T x k y):=by
 have hin:∀{z:Operand},z=x\/z=k\/z=y->z∈o.op.operands:=by
  rintro z (rfl|rfl|rfl) <;> rcases ho with ho|ho <;> rw[ho] <;> simp[Op.operands]
 unfold bW;split
 ·rename_i A kv v K E hx hk hy hT
  unfold zTw;split
  ·rename_i g key hg hkey
   refine mJ (λ_=>trivial) λhro=>yN λhK=>?_;obtain⟨cells,m0⟩:=g;unfold updO;split
   ·rename_i i u hq
    exact uJ hg hro λ_ _ _ hag hfp=>zDm T x k y ho (yR hx hag (hin (.inl rfl))) (yR hk hag (hin (.inr (.inl rfl)))) hkey (yR hy hag (hin (.inr (.inr rfl)))) (hfp A _ hg) hro hT hK hq
   ·rename_i hq
    exact uJ hg hro λ_ _ _ hag hfp=>zDm T x k y ho (yR hx hag (hin (.inl rfl))) (yR hk hag (hin (.inr (.inl rfl)))) hkey (yR hy hag (hin (.inr (.inr rfl)))) (hfp A _ hg) hro hT hK hq
   ·exact trivial
  ·exact trivial
 ·exact trivial
theorem yNn {T:TypeId}{r:Option Operand}(ho:o.op=.makeMap T r):yF P o f h (zPq r):=by
 cases r with
 |none=>exact mX λ_ _ _ _ _ _ hpl=>zUm T ho hpl
 |some x=>exact trivial
end
end
end Go.Gh
end
section
set_option maxRecDepth 4000
namespace Go.Gh
open Go.RowKit Go.MapKept
noncomputable section
section
variable {P:Program} {N:Fr} {o:Oper} {a:AF} {H:zI}
theorem bH {φ:Fi}{L:zP}{v:Value}{k:IntKind}{n:Int}(h:Val φ L v (.int k n)):v=.int k n:=by cases h;rfl
theorem yPb {φ:Fi}{L:zP}{v:Value}{s:ByteArray}(h:Val φ L v (.string s)):v=.string s:=by cases h;rfl
theorem zIb {B0:Nat}{w0:World}{φ:Fi}{w:World}(r:Rel B0 w0 φ H w){A:Nat}{b:ByteArray}{p:Int}{m:Mk}(hA:H[A]?=some (some ⟨[.string b,.int .i64 p],m⟩))
  {u:Value} (hu:Val φ (lens H) (.complex .f64 A 0) u):∃pos:Nat,p=pos/\u=.pointer (some ⟨(φ A).b,0,none⟩)/\(φ A).mp=true/\(φ A).base=0/\(φ A).size=2/\w.heap[(φ A).b]?=some (.stringIter b pos):=by
 cases hu with
 |itr _ n q hL h =>
  obtain⟨o,c,h1,h2,h3,h4⟩:=(r.blk A _ hA).any;obtain⟨v0,g0,q0⟩:=h4 0 _ rfl;obtain⟨v1,g1,q1⟩:=h4 1 _ rfl;cases h2 with
  |cells hm=>rw[h.1.1]at hm;cases hm
  |map _ _ _ hz=>have:=h.1.2;omega
  |loop _ _ hz=>have:=h.1.2;omega
  |bag _ _ hz=>have:=h.1.2;omega
  |@miter mm since sn last _ hb hz =>
   rw[hb]at g0;have:v0=.map mm:=by simpa using g0.symm
   subst this;cases q0
  |@siter s pos hm hb hz =>
   rw[hb]at g0 g1;have e0:v0=.string s:=by simpa using g0.symm
   have e1:v1=.int .i64 (pos:Int):=by simpa using g1.symm
   subst e0;subst e1;have k0:=yPb q0;have k1:=bH q1;cases k0;cases k1;exact⟨_,rfl,by rw[h.2],hm,hb,hz,h1⟩
theorem zIu (T:TypeId)(x:Operand){b:ByteArray}(ho:o.op=.range T x)(hx:ev a x=some (.string b))(hT:P.underlying T=some .string){A0:Nat}{H':zI}(hpl:Place H A0 H' ⟨[.string b,.int .i64 0],false⟩) :
  xG P N o a H (.complex .f64 A0 0) H':=by
 refine qI (λB0 w0 φ w ac r hf=>?_);have hu:=(zN hf hx).scalar rfl;obtain⟨h1,h2⟩:=lM (w':=w.alloc (.stringIter b 0)) (l0:=⟨w.heap.size,0,2,true⟩) r hpl rfl rfl rfl rfl rfl rfl λhext=>by
  refine⟨.stringIter b 0,_,(heap_alloc w _).1,.siter rfl rfl rfl,by simp,λi v hi=>?_⟩
  match i,hi with
  |0,hi=>simp only[List.getElem?_cons_zero,Option.some.injEq]at hi;subst hi;exact⟨_,rfl,.str _⟩
  |1,hi=>simp only[List.getElem?_cons_succ,List.getElem?_cons_zero,Option.some.injEq]at hi;subst hi;exact⟨_,rfl,.int _ _⟩
  |i+2,hi=>simp at hi
 refine⟨_,.pointer (some ⟨w.heap.size,0,none⟩),_,h1,h2,.itr _ _ _ hpl.lens (by rw[yU];exact⟨⟨rfl,.inl rfl⟩,rfl⟩),?_⟩;unfold execOp;simp[ho,hu,Instr.range,run_underlying hT,run_newObj]
theorem yEs (T:TypeId)(x:Operand){A K E:Nat}{g:Blk}(ho:o.op=.range T x)(hx:ev a x=some (.map (some A)))(hA:H[A]?=some (some g))(hT:P.underlying T=some (.map K E)){A0:Nat}{H':zI}
  (hpl:Place H A0 H' ⟨[.map (some A),.int .i64 (g.cells.length/2:Nat),.agg #[],.int .i64 (g.cells.length/2:Nat)],false⟩):xG P N o a H (.complex .f64 A0 0) H':=by
 refine qI (λB0 w0 φ w ac r hf=>?_);have hu0:=zN hf hx;obtain⟨hu,hmp,hbase,es,cl,hb,hent,hbn⟩:=oW r hA hu0;have hcl:(g.cells.length/2:Nat)=cl:=by have:=hent.len;rw[hbn.1];simp at this;omega
 rw[hcl]at hpl;obtain⟨h1,h2⟩:=lM (w':=w.alloc (.mapIter (some (φ A).b) cl #[] cl)) (l0:=⟨w.heap.size,0,3,true⟩) r hpl rfl rfl rfl rfl rfl rfl λhext=>by
  refine⟨_,_,(heap_alloc w _).1,.miter rfl rfl rfl,by simp,λi v hi=>?_⟩
  match i,hi with
  |0,hi =>
   simp only[List.getElem?_cons_zero,Option.some.injEq]at hi;subst hi;refine⟨_,rfl,?_⟩;have:=hu0.mono hext;rwa [hu]at this
  |1,hi=>simp only[List.getElem?_cons_succ,List.getElem?_cons_zero,Option.some.injEq]at hi;subst hi;exact⟨_,rfl,.int _ _⟩
  |2,hi=>simp only[List.getElem?_cons_succ,List.getElem?_cons_zero,Option.some.injEq]at hi;subst hi;exact⟨_,rfl,.agg _ _ (by simp) λi h=>by simp at h⟩
  |3,hi=>simp only[List.getElem?_cons_succ,List.getElem?_cons_zero,Option.some.injEq]at hi;subst hi;exact⟨_,rfl,.int _ _⟩
  |i+4,hi=>simp at hi
 refine⟨_,.pointer (some ⟨w.heap.size,0,none⟩),_,h1,h2,.itr _ _ _ hpl.lens (by rw[yU];exact⟨⟨rfl,.inr rfl⟩,rfl⟩),?_⟩;unfold execOp;simp[ho,hu,Instr.range,run_underlying hT,MapKept.run_getObj_map hb,run_newObj]
theorem zBo (x:Operand){A p:Nat}{b:ByteArray}{m:Mk}(ho:o.op=.next x true)(hx:ev a x=some (.complex .f64 A 0))(hA:H[A]?=some (some ⟨[.string b,.int .i64 (p:Int)],m⟩))(hro:m.b=false)(hp:p<b.size) :
  xG P N o a H (.tuple #[.bool true,.int .i64 p,.int .i32 ((Utf8.decode b p).1:Int)]) (H.set A (some ⟨[.string b,.int .i64 ((p+(Utf8.decode b p).2:Nat):Int)],false⟩)):=by
 refine qI (λB0 w0 φ w ac r hf=>?_);obtain⟨pos,hpos,hu,hmp,hbase,hsz,hb⟩:=zIb r hA (zN hf hx);obtain rfl:p=pos:=by omega
 have key:=nP (w':={ w with heap:=w.heap.setIfInBounds (φ A).b (.stringIter b (p+(Utf8.decode b p).2)) }) (g':=⟨[.string b,.int .i64 ((p+(Utf8.decode b p).2:Nat):Int)],false⟩) (l':=φ A) r hA hro rfl rfl rfl (by simp)
  (λq _ hq=>(heap_set hb).2 q hq) (.inl rfl) hbase (.inl ⟨rfl,rfl⟩) (λhext=>by
   refine⟨_,_,(heap_set hb).1,.siter hmp hbase hsz,by rw[hbase];simp,λi v hi=>?_⟩;rw[hbase]
   match i,hi with
   |0,hi=>simp only[List.getElem?_cons_zero,Option.some.injEq]at hi;subst hi;exact⟨_,rfl,.str _⟩
   |1,hi=>simp only[List.getElem?_cons_succ,List.getElem?_cons_zero,Option.some.injEq]at hi;subst hi;exact⟨_,rfl,.int _ _⟩
   |i+2,hi=>simp at hi)
 refine⟨_,.tuple #[.bool true,.int .i64 p,.int .i32 ((Utf8.decode b p).1:Int)],_,key.1,key.2,?_,?_⟩
 ·refine .tuple _ _ rfl λi hi hi'=>?_
  match i,hi with
  |0,_=>exact .bool _
  |1,_=>exact .int _ _
  |2,_=>exact .int _ _
 ·unfold execOp
  simp[ho,hu,Instr.next,getObj,setObj,Sem.run,hb,hp,Result.andThen,goInt]
theorem zJb (x:Operand){A p:Nat}{b:ByteArray}{m:Mk}(ho:o.op=.next x true)(hx:ev a x=some (.complex .f64 A 0))(hA:H[A]?=some (some ⟨[.string b,.int .i64 (p:Int)],m⟩))(hp:¬p<b.size):zR P N o a H (.tuple #[.bool false]):=by
 refine⟨λB0 w0 φ w ac r hf=>?_⟩;obtain⟨pos,hpos,hu,hmp,hbase,hsz,hb⟩:=zIb r hA (zN hf hx);obtain rfl:p=pos:=by omega
 refine⟨.tuple #[.bool false],Val.const rfl,λw1 hbl=>?_⟩;have hb1:w1.heap[(φ A).b]?=some (.stringIter b p):=by rw[hbl.block _ (r.lt hA)];exact hb
 unfold execOp;simp[ho,hu,Instr.next,getObj,Sem.run,hb1,hp,Result.andThen]
theorem zEa {B0:Nat}{w0:World}{φ:Fi}{w:World}(r:Rel B0 w0 φ H w){A B:Nat}{s t:Int}{seen:Array Value}{m:Mk}(hA:H[A]?=some (some ⟨[.map (some B),.int .i64 s,.agg seen,.int .i64 t],m⟩))
  {u:Value} (hu:Val φ (lens H) (.complex .f64 A 0) u):∃(since last:Nat) (sn:Array Nat),s=since/\t=last/\seen=sn.map (λ(x:Nat)=>.int .i64 (x:Int))/\u=.pointer (some ⟨(φ A).b,0,none⟩)/\(φ A).mp=true/\(φ A).base=0/\(φ A).size=3 /\
   w.heap[(φ A).b]?=some (.mapIter (some (φ B).b) since sn last)/\Val φ (lens H) (.map (some B)) (.map (some (φ B).b)):=by
 cases hu with
 |itr _ n q hL h =>
  obtain⟨o,c,h1,h2,h3,h4⟩:=(r.blk A _ hA).any;obtain⟨v0,g0,q0⟩:=h4 0 _ rfl;obtain⟨v1,g1,q1⟩:=h4 1 _ rfl;obtain⟨v2,g2,q2⟩:=h4 2 _ rfl;obtain⟨v3,g3,q3⟩:=h4 3 _ rfl;cases h2 with
  |cells hm=>rw[h.1.1]at hm;cases hm
  |map _ _ _ hz=>have:=h.1.2;omega
  |loop _ _ hz=>have:=h.1.2;omega
  |bag _ _ hz=>have:=h.1.2;omega
  |@siter s pos _ hb hz =>
   rw[hb]at g0;have:v0=.string s:=by simpa using g0.symm
   subst this;cases q0
  |@miter mm since sn last hm hb hz =>
   rw[hb]at g0 g1 g2 g3;have e0:v0=.map mm:=by simpa using g0.symm
   have e1:v1=.int .i64 since:=by simpa using g1.symm
   have e2:v2=.agg (sn.map (λ(x:Nat)=>.int .i64 (x:Int))):=by simpa using g2.symm
   have e3:v3=.int .i64 last:=by simpa using g3.symm
   subst e0;subst e1;subst e2;subst e3;have k1:=bH q1;have k3:=bH q3;cases k1;cases k3;have hseen:seen=sn.map (λ(x:Nat)=>.int .i64 (x:Int)):=by
    cases q2 with
    |agg _ _ z1 z2 =>
     refine Array.ext z1 λi hi hi'=>?_;have:=z2 i hi hi';rw[Array.getElem_map]at this ⊢;exact bH this
   cases q0 with
   |map _ _ r0 hL0 hh =>
    obtain⟨hh1,rfl⟩:=hh;exact⟨since,last,sn,rfl,rfl,hseen,by rw[h.2],hm,hb,hz,h1,.map _ _ _ hL0 ⟨hh1,rfl⟩⟩
theorem zBh {s i:Nat}{sn:Array Nat}:i∈iD s (sn.map (λ(x:Nat)=>Value.int .i64 (x:Int))).toList↔i<s/\sn.contains i=false:=by
 unfold iD;rw[List.mem_filter,List.mem_range,List.all_eq_true];refine and_congr_right λ_=>?_;constructor
 ·intro h
  cases hc:sn.contains i with
  |false=>rfl
  |true =>
   rw[Array.contains_iff_mem]at hc;have:=h (.int .i64 (i:Int)) (by rw[Array.toList_map];exact List.mem_map.2 ⟨i,by simpa using hc,rfl⟩);simp only[rS]at this;simp at this
 ·intro h v hv
  rw[Array.toList_map,List.mem_map]at hv;obtain⟨j,hj,rfl⟩:=hv;simp only[rS];have hne:j≠i:=λe=>by
   subst e;have:sn.contains j=true:=by rw[Array.contains_iff_mem];simpa using hj
   rw[this]at h;cases h
  simp;omega
theorem zPb {es:Array MapEntry}{cl:Nat}(hn:tL es cl){sn:Array Nat}{e:MapEntry}(h:e∈(leftOf es sn).toList):e.born<cl/\es[e.born]?=some e/\sn.contains e.born=false:=by
 unfold leftOf at h;simp only[Array.toList_filter,List.mem_filter,Bool.not_eq_true']at h;obtain⟨h1,h2⟩:=h;obtain⟨i,hi⟩:=List.mem_iff_getElem?.1 h1;have hi':es[i]?=some e:=by simpa using hi
 have hb:=hn.2 i e hi';have hlt:=(Array.getElem?_eq_some_iff.1 hi').1;rw[hb,hn.1];exact⟨hlt,hi',by rw[<-hb];exact h2⟩
theorem zSm {es:Array MapEntry}{cl:Nat}(hn:tL es cl):∀x∈es.toList,x.born<cl:=by
 intro x hx;obtain⟨i,hi⟩:=List.mem_iff_getElem?.1 hx;have hi':es[i]?=some x:=by simpa using hi
 rw[hn.2 i x hi',hn.1];exact(Array.getElem?_eq_some_iff.1 hi').1
theorem yFu (x:Operand){A B s:Nat}{seen:Array Value}{m:Mk}{g:Blk}(ho:o.op=.next x false)(hx:ev a x=some (.complex .f64 A 0))(hA:H[A]?=some (some ⟨[.map (some B),.int .i64 (s:Int),.agg seen,.int .i64 (s:Int)],m⟩))
  (hB:H[B]?=some (some g)) (hl:g.cells.length=2*s) (hno:iD s seen.toList=[]):zR P N o a H (.tuple #[.bool false]):=by
 refine⟨λB0 w0 φ w ac r hf=>?_⟩;obtain⟨since,last,sn,h1,h2,rfl,hu,hmp,hbase,hsz,hb,hmv⟩:=zEa r hA (zN hf hx);obtain rfl:s=since:=by omega
 obtain rfl:s=last:=by omega
 obtain⟨_,_,_,es,cl,hb2,hent,hbn⟩:=oW r hB hmv;have hcl:cl=s:=by have:=hent.len;rw[hbn.1];simp at this;omega
 subst hcl;refine⟨.tuple #[.bool false],Val.const rfl,λw1 hbl=>?_⟩;have hb1:w1.heap[(φ A).b]?=some (.mapIter (some (φ B).b) cl sn cl):=by rw[hbl.block _ (r.lt hA)];exact hb
 have hb3:w1.heap[(φ B).b]?=some (.map es cl):=by rw[hbl.block _ (r.lt hB)];exact hb2
 unfold execOp;rcases run_next_at (P:=P) w1 o.type (φ A).b (φ B).b cl cl sn es cl hb1 hb3 (zSm hbn) (Nat.le_refl _)with⟨_,hrun⟩|⟨e,he,_⟩
 ·simp only[ho,hu,Sem.run_bind,hrun,Result.andThen_ok,Sem.run_pure]
 ·obtain⟨q1,_,q3⟩:=zPb hbn he
  have:=zBh.2 ⟨q1,q3⟩;rw[hno]at this;cases this
theorem yIi (x:Operand){A B s:Nat}{seen:Array Value}{m:Mk}{g:Blk}(ho:o.op=.next x false)(hx:ev a x=some (.complex .f64 A 0))(hA:H[A]?=some (some ⟨[.map (some B),.int .i64 (s:Int),.agg seen,.int .i64 (s:Int)],m⟩))(hro:m.b=false)
  (hB:H[B]?=some (some g)) (hl:g.cells.length=2*s) (hne:iD s seen.toList≠[]):zEn P N o a H λv H'=>∃y∈(iD s seen.toList).map (gI B s seen g.cells),v=y.1/\H'=H.set A (some y.2):=by
 refine⟨λB0 w0 φ w ac r hf=>?_⟩;obtain⟨since,last,sn,h1,h2,rfl,hu,hmp,hbase,hsz,hb,hmv⟩:=zEa r hA (zN hf hx);obtain rfl:s=since:=by omega
 obtain rfl:s=last:=by omega
 obtain⟨_,_,_,es,cl,hb2,hent,hbn⟩:=oW r hB hmv;have hcl:cl=s:=by have:=hent.len;rw[hbn.1];simp at this;omega
 subst hcl;rcases run_next_at (P:=P) w o.type (φ A).b (φ B).b cl cl sn es cl hb hb2 (zSm hbn) (Nat.le_refl _)with⟨h0,_⟩|⟨e,he,w1,hw1,hrun⟩
 ·exfalso
  obtain⟨i,hi⟩:=List.exists_mem_of_ne_nil _ hne;obtain⟨q1,q2⟩:=zBh.1 hi;have hi2:i<es.size:=by rw[<-hbn.1];exact q1
  have hmem:es[i]∈leftOf es sn:=by
   unfold leftOf;rw[Array.mem_filter];refine⟨Array.getElem_mem hi2,?_⟩;rw[hbn.2 i es[i] (Array.getElem?_eq_getElem hi2),q2];rfl
  have:=Array.size_pos_of_mem hmem;omega
 ·obtain⟨q1,q2,q3⟩:=zPb hbn he
  have hw:w1.heap=w.heap/\w1.os=w.os/\w1.tape=w.tape/\w1.output=w.output:=by rcases hw1 with rfl|rfl <;> exact⟨rfl,rfl,rfl,rfl⟩
  have hb1:w1.heap[(φ A).b]?=some (.mapIter (some (φ B).b) cl sn cl):=by rw[hw.1];exact hb
  have hset:=heap_set (o':=.mapIter (some (φ B).b) cl (sn.push e.born) cl) hb1;have key:=nP (w':=ChangeMaps.setBlock w1 (φ A).b (.mapIter (some (φ B).b) cl (sn.push e.born) cl)) (g':=(gI B cl (sn.map (λ(x:Nat)=>.int .i64 (x:Int))) g.cells e.born).2) (l':=φ A) r hA hro hw.2.1 hw.2.2.1 hw.2.2.2 (by simp[ChangeMaps.setBlock,hw.1])
   (λq hq1 hq=>by rw[<-hw.1];exact hset.2 q hq) (.inl rfl) hbase (.inl ⟨rfl,rfl⟩) (λhext=>by
    rw[mZ]at hext ⊢;refine⟨_,_,hset.1,.miter hmp hbase hsz,by rw[hbase];simp[gI],λi v hi=>?_⟩;rw[hbase];unfold gI at hi
    match i,hi with
    |0,hi=>simp only[List.getElem?_cons_zero,Option.some.injEq]at hi;subst hi;exact⟨_,rfl,hmv.mono hext⟩
    |1,hi=>simp only[List.getElem?_cons_succ,List.getElem?_cons_zero,Option.some.injEq]at hi;subst hi;exact⟨_,rfl,.int _ _⟩
    |2,hi =>
     simp only[List.getElem?_cons_succ,List.getElem?_cons_zero,Option.some.injEq]at hi;subst hi;refine⟨_,rfl,.agg _ _ (by simp) λj h1 h2=>?_⟩;have e1:(sn.map (λ(x:Nat)=>Value.int .i64 (x:Int))).push (.int .i64 (e.born:Int))=(sn.push e.born).map (λ(x:Nat)=>Value.int .i64 (x:Int)):=by simp
     simp only[e1];rw[Array.getElem_map];exact .int _ _
    |3,hi=>simp only[List.getElem?_cons_succ,List.getElem?_cons_zero,Option.some.injEq]at hi;subst hi;exact⟨_,rfl,.int _ _⟩
    |i+4,hi=>simp at hi)
  have hent2:=hent.at e.born e (by simpa using q2);refine⟨_,(gI B cl (sn.map (λ(x:Nat)=>.int .i64 (x:Int))) g.cells e.born).1,.tuple #[.bool true,e.key,e.val],_,_,⟨_,List.mem_map.2 ⟨e.born,zBh.2 ⟨q1,q3⟩,rfl⟩,rfl,rfl⟩,key.1,key.2,?_,?_⟩
  ·have hv:Val φ (lens H) (gI B cl (sn.map (λ(x:Nat)=>.int .i64 (x:Int))) g.cells e.born).1 (.tuple #[.bool true,e.key,e.val]):=by
    refine .tuple _ _ rfl λi hi hi'=>?_
    match i,hi with
    |0,_=>exact .bool _
    |1,_=>exact hent2.1
    |2,_=>exact hent2.2
   exact hv.mono key.1
  ·unfold execOp
   simp only[ho,hu,Sem.run_bind,hrun,Result.andThen_ok,Sem.run_pure]
theorem zZu (x:Operand){A B i st:Nat}{s:Int}{seen:Array Value}{m:Mk}{g:Blk}{k:IntKind}(ho:o.op=.entry x)(hx:ev a x=some (.complex .f64 A 0))(hA:H[A]?=some (some ⟨[.map (some B),.int .i64 s,.agg seen,.int .i64 (st:Int)],m⟩))
  (hB:H[B]?=some (some g)) (hlast:seen.toList.getLast?=some (.int k (i:Int))) (hl:g.cells.length=2*st) (hi:i<st):zR P N o a H (.tuple #[g.cells.getD (2*i) undef,g.cells.getD (2*i+1) undef]):=by
 refine⟨λB0 w0 φ w ac r hf=>?_⟩;obtain⟨since,last,sn,h1,h2,rfl,hu,hmp,hbase,hsz,hb,hmv⟩:=zEa r hA (zN hf hx);obtain rfl:st=last:=by omega
 obtain⟨_,_,_,es,cl,hb2,hent,hbn⟩:=oW r hB hmv;have hcl:cl=st:=by have:=hent.len;rw[hbn.1];simp at this;omega
 subst hcl;have hback:sn.back?=some i:=by
  rw[Array.toList_map,List.getLast?_map]at hlast;cases hq:sn.toList.getLast? with
  |none=>rw[hq]at hlast;cases hlast
  |some j =>
   rw[hq]at hlast;simp only[Option.map_some,Option.some.injEq,Value.int.injEq]at hlast;have:j=i:=by omega
   subst this;rw[<-Array.getLast?_toList];exact hq
 have hsize:i<es.size:=by rw[<-hbn.1];exact hi
 have hfind:es.find? (·.born == i)=some es[i]:=by
  rw[Array.find?_eq_some_iff_getElem];refine⟨by rw[hbn.2 i _ (Array.getElem?_eq_getElem hsize)];simp,i,hsize,rfl,λj hj=>?_⟩;rw[hbn.2 j _ (Array.getElem?_eq_getElem (by omega))];simp;omega
 have hent2:=hent.at i es[i] (by simp);refine⟨.tuple #[es[i].key,es[i].val],?_,λw1 hbl=>?_⟩
 ·refine .tuple _ _ rfl λj hj hj'=>?_
  match j,hj with
  |0,_=>exact hent2.1
  |1,_=>exact hent2.2
 ·have hb1:w1.heap[(φ A).b]?=some (.mapIter (some (φ B).b) since sn cl):=by rw[hbl.block _ (r.lt hA)];exact hb
  have hb3:w1.heap[(φ B).b]?=some (.map es cl):=by rw[hbl.block _ (r.lt hB)];exact hb2
  unfold execOp;simp[ho,hu,Instr.entry,getObj,Sem.run,hb1,hb3,hback,hfind,Result.andThen]
end
section
variable {P:Program} {o:Oper} {f:Fm} {h:Hp}
theorem yLa {T:TypeId}{x:Operand}(ho:o.op=.range T x):yF P o f h (zCd P f h T x):=by
 unfold zCd;split
 ·rename_i b hx hT
  exact mX λ_ _ _ _ _ hag hpl=>zIu T x ho (yR hx hag (by rw[ho];simp[Op.operands])) hT hpl
 ·rename_i A K E hx hT
  split
  ·rename_i g hg
   exact zFu λ_ _ _ _ _ hag hall hpl=>yEs T x ho (yR hx hag (by rw[ho];simp[Op.operands])) (hall A g hg) hT hpl
  ·exact trivial
 ·exact trivial
theorem zQq (b:ByteArray):b.size=(yQ b).length:=by cases b with|mk d=>cases d;rfl
theorem yIe {x:Operand}{b:Bool}(ho:o.op=.next x b):yF P o f h (bif b then zCp f h x else zBu f h x):=by
 cases b with
 |true =>
  simp only[cond_true];unfold zCp;split
  ·rename_i A hx
   split
   ·rename_i s p hg
    refine mJ (λhp=>?_) λhp=>?_
    ·have h1:=xS.1 hp
     exact uJ hg rfl λ_ _ _ hag hfp=>zBo x ho (yR hx hag (by rw[ho];simp[Op.operands])) (hfp A _ hg) rfl (by rw[zQq];exact h1)
    ·exact zY λ_ _ _ hag hfp=>zJb x ho (yR hx hag (by rw[ho];simp[Op.operands])) (hfp A (by simp) _ hg) (λhlt=>by rw[zQq]at hlt;rw[xS.2 hlt]at hp;cases hp)
   ·exact trivial
  ·exact trivial
 |false =>
  simp only[cond_false];unfold zBu;split
  ·rename_i A hx
   split
   ·rename_i B s seen s' hg
    refine yN λhs=>?_;obtain rfl:=yP.1 hs;split
    ·rename_i g hB
     unfold zRb;refine yN λhl=>?_;have hl:=yP.1 hl;split
     ·rename_i hno
      exact zY λ_ _ _ hag hfp=>yFu x ho (yR hx hag (by rw[ho];simp[Op.operands])) (hfp A (by simp) _ hg) (hfp B (by simp) _ hB) hl hno
     ·rename_i hne
      exact⟨⟨dI hg rfl,qT hg⟩,λ_ _ _ hag hfp=>yIi x ho (yR hx hag (by rw[ho];simp[Op.operands])) (hfp A _ hg) rfl (hfp B _ hB) hl (by simpa using hne)⟩
    ·exact trivial
   ·exact trivial
  ·exact trivial
theorem yCs {x:Operand}(ho:o.op=.entry x):yF P o f h (zCc f h x):=by
 unfold zCc;split
 ·rename_i A hx
  split
  ·rename_i B s seen st hg
   split
   ·rename_i g hB
    unfold zMu;split
    ·rename_i k i hl
     refine yN λhc=>zY λ_ _ _ hag hfp=>?_;simp only[Bool.and_eq_true,yP,xS]at hc;exact zZu x ho (yR hx hag (by rw[ho];simp[Op.operands])) (hfp A (by simp) _ hg) (hfp B (by simp) _ hB) hl hc.1 hc.2
    ·exact trivial
   ·exact trivial
  ·exact trivial
 ·exact trivial
end
end
end Go.Gh
end
section
set_option maxRecDepth 4000
namespace Go.Gh
open Go.RowKit

theorem yHv {P:Program}{f:FuncId}{A n fl:Nat}{L:List (List UInt8)}{ro:Mk}{y v:Value}{h h1:SH}(hn:L.length=n)(hp:Pick h A ⟨L.map (λs=>S s),ro⟩ h1)(hy:yB y=true)(hv:yB v=true)
  (k:∀(w:World) (bk o c:Nat),(∀(j:Nat) x,(L.map λs=>(⟨⟨s⟩⟩:ByteArray))[j]?=some x->w.cell? ⟨bk,o+j,none⟩=some (.string x))->bk<w.heap.size->n<=c ->
   Calls P f #[.slice (some ⟨bk,o,none⟩) n c,y] w λe w'=>e=.returned v/\Below w.heap.size w w'):zH P f [gsl A 0 n n fl,y] h λr q=>r=v/\q=h:=by
 unfold zH;intro H i;unfold Run;intro B0 w0 φs Ls φ w vs he hr hvs;have hA:=i.look hp;obtain⟨hs,hg⟩:=hvs;obtain⟨u0,g0,e0⟩:=hg 0 _ rfl;obtain⟨u1,g1,e1⟩:=hg 1 _ rfl;have hu:=Val.det hy e1;rw[hu]at g1;have hlen:lens H A=some n:=by unfold lens;rw[hA];simp[hn]
 cases e0 with
 |slc _ _ _ m _ _ cap c hL hvn hc hm hx =>
  rw[hlen]at hL;cases hL;obtain⟨rfl,_,hmp⟩:=hx rfl;have hvs:vs=#[.slice (some ⟨(φ A).b,(φ A).base+0,none⟩) n cap,y]:=by
   refine Array.ext (by simpa using hs) λj h1 h2=>?_
   match j,h2 with
   |0,_=>rw[Array.getElem?_eq_getElem (by omega)]at g0;exact Option.some.inj g0
   |1,_=>rw[Array.getElem?_eq_getElem (by omega)]at g1;exact Option.some.inj g1
  rw[hvs];obtain⟨us,q1,q2⟩:=rI hr hA hmp 0 (vs:=L.map λs=>S s) (λj u hj=>by rw[Nat.zero_add];exact hj);have hcell:∀(j:Nat) x,(L.map λs=>(⟨⟨s⟩⟩:ByteArray))[j]?=some x->w.cell? ⟨(φ A).b,(φ A).base+0+j,none⟩=some (.string x):=λj x hj=>by
   rw[List.getElem?_map]at hj;cases hs:L[j]? with
   |none=>rw[hs]at hj;cases hj
   |some s =>
    rw[hs]at hj;obtain rfl:(⟨⟨s⟩⟩:ByteArray)=x:=Option.some.inj hj;obtain⟨u,k1,k2⟩:=q1.get j (S s) (by rw[List.getElem?_map,hs];rfl);have hu:=Val.det rfl k2;subst hu;have:=q2 j (S s) (by simpa using k1);rwa [tV]at this
  refine(k w _ _ cap hcell (hr.lt hA) hc).mono ?_;rintro e w' ⟨rfl,hb⟩;exact⟨φ,v,H,v,he,hr.later hb,rfl,Val.const hv,h,⟨rfl,rfl⟩,i⟩
section
variable {P:Program} {sz:Nat} {ops:Array Oper} {Q:wA} {rest:List Oper} {a:AF} {h h' h1:SH} {m:Mode} {t:Nat} {ty:TypeId} {pos:String} {aft:Array Edge}
theorem yFw {T:Nat}{x:Operand}{b:ByteArray}(hx:ev a x=some (.string b))(hT:P.underlying T=some .string)(hN:Nat.blt t sz=true)
  (k:∀A,GO (m.nw h (A,⟨[.string b,.int .i64 (0:Nat)],false⟩)) P sz ops Q rest ((t,.complex .f64 A 0)::a) ((A,⟨[.string b,.int .i64 (0:Nat)],false⟩)::h)):GO m P sz ops Q (⟨some t,.range T x,ty,pos,aft,none⟩::rest) a h :=
 mH (v:=λA=>.complex .f64 A 0) hN (λ_ _ _ _ _ hpl hag=>zIu T x rfl ((hag.ev (by simp[Op.operands])).trans hx) hT hpl) k
theorem yBy {x:Operand}{A p:Nat}{s:List UInt8}{h1:SH}(hx:ev a x=some (.complex .f64 A 0))(hp:p<s.length)(hN:Nat.blt t sz=true)
  (k:∀c n:Nat,(s[p]!.toNat<128/\c=s[p]!.toNat/\n=p+1)\/(128<=s[p]!.toNat/\128<=c/\c<=2147483647)->GO .seq P sz ops Q rest ((t,.tuple #[.bool true,.int .i64 p,.int .i32 (c:Int)])::a) ((A,⟨[S s,.int .i64 (n:Int)],false⟩)::h1)) :
  GO .seq P sz ops Q (⟨some t,.next x true,ty,pos,aft,none⟩::rest) a ((A,⟨[S s,.int .i64 (p:Int)],false⟩)::h1):=by
 have hat:((⟨⟨s⟩⟩:ByteArray)[p]'hp)=s[p]!:=by rw[getElem!_pos s p hp];rfl
 by_cases hc:s[p]!.toNat<128
 ·have hd:=decode_ascii ⟨⟨s⟩⟩ p hp (by rw[hat];exact hc)
  rw[hat]at hd;refine nN (dst:=some t) (m:=.seq) hN .head (λn0 H a' hA hag=>?_) trivial (k _ _ (.inl ⟨hc,rfl,rfl⟩));have:=zBo (P:=P) (N:=⟨sz,n0⟩) (o:=⟨some t,.next x true,ty,pos,aft,none⟩) x rfl ((hag.ev (by simp[Op.operands])).trans hx) hA rfl (show p<(⟨⟨s⟩⟩:ByteArray).size from hp);rw[hd]at this;exact this
 ·obtain⟨hd1,hd2⟩:=decode_high ⟨⟨s⟩⟩ p hp (by rw[hat];omega)
  have hd3:=decode_le ⟨⟨s⟩⟩ p;refine nN (dst:=some t) (m:=.seq) hN .head (λn0 H a' hA hag=>?_) trivial (k _ (p+(Utf8.decode ⟨⟨s⟩⟩ p).2) (.inr ⟨by omega,hd1,hd3⟩));exact zBo (P:=P) (N:=⟨sz,n0⟩) (o:=⟨some t,.next x true,ty,pos,aft,none⟩) x rfl ((hag.ev (by simp[Op.operands])).trans hx) hA rfl (show p<(⟨⟨s⟩⟩:ByteArray).size from hp)
theorem yIu {x:Operand}{A p:Nat}{s:List UInt8}{h1:SH}(hx:ev a x=some (.complex .f64 A 0))(hp:¬p<s.length)(hN:Nat.blt t sz=true)
  (k:GO .seq P sz ops Q rest ((t,.tuple #[.bool false])::a) ((A,⟨[S s,.int .i64 (p:Int)],false⟩)::h1)) :
  GO .seq P sz ops Q (⟨some t,.next x true,ty,pos,aft,none⟩::rest) a ((A,⟨[S s,.int .i64 (p:Int)],false⟩)::h1) :=
 tZ (m:=.seq) (λh'=>∃h1,Pick h' A ⟨[S s,.int .i64 (p:Int)],false⟩ h1) ⟨_,.head⟩ (λ_ _ _ _ _ i ⟨_,hp'⟩ hag=>zJb x rfl ((hag.ev (by simp[Op.operands])).trans hx) (i.look hp') (show ¬p<(⟨⟨s⟩⟩:ByteArray).size from hp)) hN trivial k
end
end Go.Gh
namespace Go.Proofs.YtbidadebolllkaaGreatDoor
open Go.Gh Go.RowKit

def prb (s:List UInt8):Bool:=s.all λb=>decide (33<=b.toNat/\b.toNat<=126)
theorem zLf {s:List UInt8}{i:Nat}(h:i<s.length):bat s (i:Int)=(s[i]!.toNat:Int):=by rw[aH h,getElem!_pos s i h]
theorem yHm (s:List UInt8)(h:SH)(hs:s.length<=100000):zH Tryz.prog 94 [S s] h λr q=>r=B (prb s)/\q=h:=by
 obtain⟨b,hb⟩:∃b,prb s=b:=⟨_,rfl⟩;rw[hb];unfold prb at hb;refine yG Tryz.func94 rfl rfl ?_
 repeat'(first|apply zE|apply zD|apply zC|refine jg ?_ ?_|apply zB|apply zM|exact jS|fail)
 all_goals try exact jX
 refine yH (S:=Nat) (λi=>[(0,S s),(5,I s.length),(6,I i)]) (λ_=>h) (λi=>i<=s.length/\(s.drop i).all (λb=>decide (33<=b.toNat/\b.toNat<=126))=b) (λi=>s.length-i) 0 ⟨Nat.zero_le _,hb⟩ jB jT ?_;rintro i ⟨hi,hg⟩;by_cases hil:i<s.length
 ·have hbt:=zLf hil
  rw[tP hil]at hg
  repeat'(first|apply zE|apply zD|apply zC|refine jg ?_ ?_|(apply ja;exact jH)|refine jw ?_|refine jk ?_|(apply vJ;(iterate 3 exact rfl);all_goals intro hc)|(apply yO;exact rfl)|refine jd ?_|(apply vA;exact rfl;all_goals intro hc)|apply zB|apply zV|apply zQ|apply xM|apply zL|apply zJ|apply zM|exact jO|exact jW|fail)
  all_goals first
   |exact jX
   |(rw[decide_eq_true (by omega),Bool.true_and]at hg
     exact⟨i+1,⟨hil,hg⟩,by show s.length-(i+1)<s.length-i;omega,jB,jT⟩)
   |(rw[decide_eq_false (by omega),Bool.false_and]at hg
     exact jF (k:=by exact⟨congrArg B hg,rfl⟩))
 ·rw[tQ (by omega)]at hg
  repeat'(first|apply zE|apply zD|apply zC|refine jg ?_ ?_|refine jf ?_|apply zB|apply zW|apply zT|apply zJ|apply zU|exact jS|fail)
  all_goals first|exact jX|exact jF (k:=by exact⟨congrArg B hg,rfl⟩)
theorem yOb (s:List UInt8)(h:SH)(hs:s.length<=100000):zH Tryz.prog 289 [S s] h λr q=>r=B (prb s)/\q=h:=by
 obtain⟨b,hb⟩:∃b,prb s=b:=⟨_,rfl⟩;rw[hb];unfold prb at hb;refine yG Tryz.func289 rfl rfl ?_
 repeat'(first|apply zE|apply zD|apply zC|(apply yFw;exact rfl;exact Tryz.underlying9;exact rfl;intro A)|refine jg ?_ ?_|apply zB|apply zM|exact jS|fail)
 all_goals try exact jX
 refine yH (S:=Nat) (λi=>[(6,.complex .f64 A 0)]) (λi=>(A,⟨[S s,I i],false⟩)::h) (λi=>i<=s.length/\(s.drop i).all (λb=>decide (33<=b.toNat/\b.toNat<=126))=b) (λi=>s.length-i) 0 ⟨Nat.zero_le _,hb⟩ jB jT ?_;rintro i ⟨hi,hg⟩;by_cases hil:i<s.length
 ·rw[tP hil]at hg
  repeat'(first|apply zE|apply zD|apply zC|(apply yBy;exact rfl;exact hil;exact rfl;intro cc nn hcn)|refine jg ?_ ?_|refine jw ?_|refine jk ?_|(apply vJ;(iterate 3 exact rfl);all_goals intro hc)|(apply yO;exact rfl)|(apply vA;exact rfl;all_goals intro hc)|apply zB|apply zV|apply zQ|apply xM|apply zL|apply zJ|apply zM|exact jS|fail)
  all_goals first
   |exact jX
   |(obtain⟨rfl,hcc⟩:nn=i+1/\33<=s[i]!.toNat/\s[i]!.toNat<=126:=by omega
     rw[decide_eq_true hcc,Bool.true_and]at hg;exact⟨i+1,⟨hil,hg⟩,by show s.length-(i+1)<s.length-i;omega,jB,jT⟩)
   |(rw[decide_eq_false (by omega),Bool.false_and]at hg
     exact jF (k:=by exact⟨congrArg B hg,rfl⟩))
 ·rw[tQ (by omega)]at hg
  repeat'(first|apply zE|apply zD|apply zC|(apply yIu;exact rfl;exact hil;exact rfl)|refine jg ?_ ?_|(apply zX;exact rfl)|apply zB|apply zW|apply zT|apply zJ|apply zU|exact jS|fail)
  all_goals first|exact jX|exact jF (k:=by exact⟨congrArg B hg,rfl⟩)
end Go.Proofs.YtbidadebolllkaaGreatDoor
end
section
set_option maxRecDepth 4000
namespace Go.Proofs.YtbidadebolllkaaGreatDoor
open Go.Gh Go.RowKit

def wrd (s:List UInt8):Bool:=decide (s≠[]) && (decide (bat s 0≠36) && prb s)
theorem yOk (s:List UInt8)(h:SH)(hs:s.length<=100000):zH Tryz.prog 229 [S s] h λr q=>r=B (wrd s)/\q=h:=by
 have hP:=λh=>yOb s h hs;unfold wrd;generalize prb s=b at *;by_cases h0:s=[]
 ·rw[decide_eq_false (λg=>g h0),Bool.false_and]
  refine yG Tryz.func229 rfl rfl ?_
  repeat'(first|apply zE|apply zD|apply zC|refine jg ?_ ?_|refine jq ?_ (c:=by exact⟨_,hP _,jN⟩)|refine jw ?_|refine jk ?_|(apply lP;(iterate 3 exact rfl);all_goals intro hc)|apply zB|apply zJ|exact jS|fail)
  all_goals first|exact jX|exact jG
 ·rw[decide_eq_true h0,Bool.true_and]
  have hl:=List.length_pos_iff.2 h0;refine yG Tryz.func229 rfl rfl ?_
  repeat'(first|apply zE|apply zD|apply zC|refine jg ?_ ?_|refine jq ?_ (c:=by exact⟨_,hP _,jN⟩)|refine jw ?_|refine jk ?_|refine jh ?_|(apply lP;(iterate 3 exact rfl);all_goals intro hc)|apply zB|apply zJ|exact jO|fail)
  all_goals first|exact jX|exact jF (k:=by exact⟨congrArg B (by rw[decide_eq_true hc,Bool.true_and]),rfl⟩)|exact jF (k:=by exact⟨congrArg B (by rw[decide_eq_false (λg=>g hc),Bool.false_and]),rfl⟩)
def spl :Nat->List UInt8->List (List UInt8)
 |0,s=>[s]
 |k+1,s=>s.take (Lib.indexByte s 32).toNat::spl k (s.drop ((Lib.indexByte s 32).toNat+1))
theorem bO :∀(k:Nat) (s:List UInt8),(spl k s).length=k+1
 |0,_=>rfl
 |k+1,s=>by show(spl k _).length+1=_;rw[bO]
theorem yHe {s:List UInt8}{c:UInt8}{k:Nat}(h:s.count c=k+1):∃o:Nat,Lib.indexByte s c=o/\o<s.length/\(s.drop (o+1)).count c=k:=by
 have hge:=Lib.indexByte_ge s c;by_cases hn:Lib.indexByte s c=-1
 ·have:=Lib.indexByte_none hn
  have:s.count c=0:=List.count_eq_zero.2 λhm=>by
   obtain⟨j,hj,e⟩:=List.mem_iff_getElem.1 hm;exact this j (by rw[List.getElem?_eq_getElem hj,e])
  omega
 ·obtain⟨o,ho⟩:∃o:Nat,Lib.indexByte s c=o:=⟨(Lib.indexByte s c).toNat,by omega⟩
  obtain⟨h1,h2⟩:=Lib.indexByte_some ho;obtain⟨hlt,he⟩:=List.getElem?_eq_some_iff.1 h1;refine⟨o,ho,hlt,?_⟩;have hs:s=s.take o++c::s.drop (o+1):=by
   conv=>lhs;rw[<-List.take_append_drop o s,List.drop_eq_getElem_cons hlt,he]
  have ht:(s.take o).count c=0:=List.count_eq_zero.2 λhm=>by
   obtain⟨j,hj,e⟩:=List.mem_iff_getElem.1 hm;rw[List.length_take]at hj;rw[List.getElem_take]at e;exact h2 j (by omega) (by rw[List.getElem?_eq_getElem (by omega),e])
  rw[hs,List.count_append,ht,List.count_cons_self]at h;omega
theorem yNj (s:List UInt8)(h:SH):zH Tryz.prog 290 [S s,S [32]] h λr q=>r=I (s.count 32)/\q=h :=
 cX rfl rfl λw=>(Tryz.strings_Count_one ⟨⟨s⟩⟩ 32 w).mono λe w' ⟨h1,h2⟩=>⟨h1,h2▸.refl _ _⟩
theorem yEa (s:List UInt8)(h:SH):zH Tryz.prog 291 [S s,S [32]] h λr q=>r=I (Lib.indexByte s 32)/\q=h :=
 cX rfl rfl λw=>(Tryz.strings_Index_one ⟨⟨s⟩⟩ 32 w).mono λe w' ⟨h1,h2⟩=>⟨h1,h2▸.refl _ _⟩
abbrev sV (s:List UInt8):Value:=S s
theorem yKf (s:List UInt8)(h:SH)(hs:s.length<=100000):zH Tryz.prog 302 [S s,S [32],I 0,I (-1)] h λr q =>
  ∃A,r=gsl A 0 (spl (s.count 32) s).length (spl (s.count 32) s).length 0/\q=(A,⟨(spl (s.count 32) s).map sV,false⟩)::h:=by
 have hcl:s.count 32<=s.length:=List.count_le_length;obtain⟨K,hK⟩:∃K,s.count 32=K:=⟨_,rfl⟩;rw[hK]at hcl;obtain⟨R,hR⟩:∃R,spl K s=R:=⟨_,rfl⟩;have hRl:R.length=K+1:=by rw[<-hR,bO]
 have hC:∀h,zH Tryz.prog 290 [S s,S [32]] h λr q=>r=I K/\q=h:=λh=>by rw[<-hK];exact yNj s h
 rw[hK,hR,hRl];have hz:∀n:Nat,qE (S []) (((n:Nat):Int).toNat*1)=(List.replicate n []).map sV:=λn=>yFb (f:=sV) [] rfl rfl n;refine mT Tryz.func302 rfl rfl ?_
 repeat'(first|apply zE|apply zD|apply zC|refine jg ?_ ?_|(apply ja;exact jH)|(apply pU;iterate 3 exact rfl)|(apply yMo zK;(iterate 6 exact rfl);decide;omega;(focus first|rfl);exact rfl)|(refine jc ?_ (c:=by exact⟨_,hC _,jN⟩);rintro _ _ ⟨rfl,rfl⟩)|(apply yO;exact rfl)|(apply zX;exact rfl)|apply zB|apply zL|apply zM|exact jS|exact jW|intro A)
 all_goals try exact jX
 have hmin:min ((K:Int)+1) ((s.length:Int)+1)=((K+1:Nat):Int):=by omega
 rw[hmin,hz];rename SH=>h;refine yH (S:=List (List UInt8) × List UInt8) (λx=>[(0,S x.2),(1,S [32]),(2,I 0),(3,I (((K+1:Nat):Int)-1)),(9,gsl A 0 ((K+1)*1) (K+1) 1),(10,I x.1.length)])
  (λx=>(A,⟨(x.1++List.replicate (K+1-x.1.length) []).map sV,false⟩)::h) (λx=>x.1.length<=K/\x.2.length<=s.length/\x.2.count 32=K-x.1.length/\x.1++spl (K-x.1.length) x.2=R) (λx=>K-x.1.length) ([],s) ⟨Nat.zero_le _,Nat.le_refl _,hK,hR⟩ jB (by exact zA.nil) ?_
 rintro⟨D,x⟩ ⟨hD,hx,hcn,hg⟩;dsimp only at hD hx hcn hg ⊢;have hCl:((D++List.replicate (K+1-D.length) []).map sV).length=(K+1)*1:=by rw[List.length_map,List.length_append,List.length_replicate];omega
 have hst:∀y,yD ((D++List.replicate (K+1-D.length) []).map sV) (0+((D.length:Nat):Int).toNat*1) (S y) (((D++[y])++List.replicate (K+1-(D++[y]).length) []).map sV):=λy=>by
  have e:(D++List.replicate (K+1-D.length) []).set D.length y=(D++[y])++List.replicate (K+1-(D++[y]).length) []:=by
   rw[List.set_append_right _ _ (Nat.le_refl _),Nat.sub_self,show K+1-D.length=(K-D.length)+1 by omega,List.replicate_succ,List.set_cons_zero,List.append_assoc,List.length_append];rw[show K+1-(D.length+[y].length)=K-D.length by show K+1-(D.length+1)=_;omega];rfl
  rw[<-e];exact fT (f:=sV) (by rw[List.length_append,List.length_replicate];omega)
 by_cases hDl:D.length<K
 ·obtain⟨k,hk⟩:∃k,K-D.length=k+1:=⟨K-D.length-1,by omega⟩
  rw[hk]at hcn hg;obtain⟨o,ho,hol,hoc⟩:=yHe hcn;have hI:∀h,zH Tryz.prog 291 [S x,S [32]] h λr q=>r=I o/\q=h:=λh=>by rw[<-ho];exact yEa x h
  have hg:D++(x.take (Lib.indexByte x 32).toNat::spl k (x.drop ((Lib.indexByte x 32).toNat+1)))=R:=hg;rw[ho,Int.toNat_natCast]at hg;have hwr:IntKind.i64.wrap ((o:Int)+(([32]:List UInt8).length:Int))=(o:Int)+1:=IntWalk.i64_in _ (by show _<=(o:Int)+1/\(o:Int)+1<=_;omega)
  repeat'(first|apply zE|apply zD|apply zC|refine jg ?_ ?_|(apply ja;exact jH)|(apply yV zK;(iterate 4 exact rfl);exact up)|(refine jc ?_ (c:=by exact⟨_,hI _,jN⟩);rintro _ _ ⟨rfl,rfl⟩)|(apply zX;exact rfl)|refine jd ?_|apply zB|apply zQ|apply zL|apply zM|exact jO|((with_reducible apply Ln.mk);first|omega)|((with_reducible apply Wr.mk);first|exact hwr|exact IntWalk.i64_in _ (by omega))|((with_reducible apply Se.mk);first|exact hst _)|exact True.intro)
  all_goals try exact jX
  rw[show((o:Int)+0).toNat=o by omega,show((o:Int)+1).toNat=o+1 by omega];have hd1:(D++[x.take o]).length=D.length+1:=by rw[List.length_append];rfl
  refine⟨(D++[x.take o],x.drop (o+1)),⟨by rw[hd1];exact hDl,by show(x.drop (o+1)).length<=_;rw[List.length_drop];omega,?_,?_⟩,by show K-(D++[x.take o]).length<_;rw[hd1];show K-(D.length+1)<K-D.length;omega,⟨rfl,rfl,rfl,rfl,rfl,congrArg some (congrArg I (by show _=(((D++[x.take o]).length:Nat):Int);rw[hd1];rfl)),trivial⟩,zA.nil⟩
  ·show(x.drop (o+1)).count 32=K-(D++[x.take o]).length
   rw[hd1,hoc];omega
  ·show(D++[x.take o])++spl (K-(D++[x.take o]).length) (x.drop (o+1))=R
   rw[hd1,show K-(D.length+1)=k by omega,List.append_assoc];exact hg
 ·have hDe:D.length=K:=by omega
  have hg:D++spl (K-D.length) x=R:=hg;rw[hDe,Nat.sub_self]at hg;have hg:D++[x]=R:=hg
  repeat'(first|apply zE|apply zD|apply zC|refine jg ?_ ?_|(apply ja;exact jH)|(apply yV zK;(iterate 4 exact rfl);exact up)|refine jf ?_|apply zB|apply zW|apply zT|apply zJ|apply zU|exact jO|((with_reducible apply Ln.mk);first|omega)|exact jW|((with_reducible apply Se.mk);first|exact hst _)|exact True.intro)
  all_goals try exact jX
  have hfin:((D++[x])++List.replicate (K+1-(D++[x]).length) []).map sV=R.map sV:=by
   rw[hg,hRl,Nat.sub_self,List.replicate_zero,List.append_nil]
  rw[hfin];exact jF (k:=by exact⟨A,vR rfl rfl (by omega) (by omega) rfl,rfl⟩)
theorem yMe (s:List UInt8)(h:SH)(hs:s.length<=100000):zH Tryz.prog 243 [S s,S [32]] h λr q =>
  ∃A,r=gsl A 0 (spl (s.count 32) s).length (spl (s.count 32) s).length 0/\q=(A,⟨(spl (s.count 32) s).map sV,false⟩)::h:=by
 have hG:=λh=>yKf s h hs;generalize spl (s.count 32) s=R at *;refine yJ Tryz.func243 rfl rfl ?_
 repeat'(first|apply zE|apply zD|apply zC|refine jg ?_ ?_|(refine jc ?_ (c:=by exact⟨_,hG _,jN⟩);rintro _ _ ⟨A2,rfl,rfl⟩)|apply zB|apply zJ|exact jS|fail)
 all_goals first|exact jX|exact jF (k:=by exact⟨A2,rfl,rfl⟩)
theorem zCy :∀(k:Nat) (s:List UInt8),∀x∈spl k s,x.length<=s.length
 |0,s,x,h=>by rcases List.mem_singleton.1 h with rfl;exact Nat.le_refl _
 |k+1,s,x,h=>by
  rcases List.mem_cons.1 h with rfl|h
  ·rw[List.length_take];omega
  ·have:=zCy k _ x h
   rw[List.length_drop]at this;omega
def jne (L:List (List UInt8)):Int:=if L.all wrd=true then(if(Lib.join L [32]).length<=200 then 0 else 9)else 3
theorem yLs (L:List (List UInt8))(A fl:Nat)(ro:Mk)(h h1:SH)(hp:Pick h A ⟨L.map sV,ro⟩ h1)(hn:L.length<=140737488355328)(hl:(Lib.join L [32]).length<=140737488355328) :
  zH Tryz.prog 103 [gsl A 0 L.length L.length fl,S [32]] h λr q=>r=S (Lib.join L [32])/\q=h:=by
 refine yHv rfl hp rfl rfl λw bk o c hc hb hcap=>?_;have e:((L.map λs=>(⟨⟨s⟩⟩:ByteArray)).map (·.data.toList))=L:=by rw[List.map_map];simp[Function.comp_def]
 have:=Tryz.strings_Join bk o c (L.map λs=>(⟨⟨s⟩⟩:ByteArray)) ⟨#[32]⟩ w hc hb (by rw[List.length_map];exact hn) (by rw[List.length_map];exact hcap) (by rw[e];exact hl);rw[e,List.length_map]at this;exact this
theorem yPp (L:List (List UInt8))(A fl:Nat)(ro:Mk)(h h1:SH)(hp:Pick h A ⟨L.map sV,ro⟩ h1)(hn:L.length<=100000)(hm:∀x∈L,x.length<=100000)(hl:(Lib.join L [32]).length<=140737488355328) :
  zH Tryz.prog 180 [gsl A 0 L.length L.length fl] h λr q=>∃z,r=.tuple #[S z,I (jne L)]/\q=h:=by
 have hJ:=λh h1 hp=>yLs L A fl ro h h1 hp (by omega) hl;unfold jne;generalize Lib.join L [32]=J at *;obtain⟨b,hb⟩:∃b,L.all wrd=b:=⟨_,rfl⟩;rw[hb];have hlb:(L.map sV).length=L.length:=List.length_map _;refine yG Tryz.func180 rfl rfl ?_
 repeat'(first|apply zE|apply zD|apply zC|refine jg ?_ ?_|apply zB|apply zM|exact jS|fail)
 all_goals try exact jX
 refine yH (S:=Nat) (λi=>[(0,gsl A 0 L.length L.length fl),(7,gsl A 0 L.length L.length fl),(8,I L.length),(9,I i)]) (λ_=>h) (λi=>i<=L.length/\(L.drop i).all wrd=b) (λi=>L.length-i) 0 ⟨Nat.zero_le _,hb⟩ jB jT ?_;rintro i ⟨hi,hg⟩;by_cases hil:i<L.length
 ·have hw:=λh=>yOk L[i]! h (hm _ (xD hil))
  have hcell:(L.map sV)[0+((i:Int)).toNat*1]?=some (S L[i]!):=oO (f:=sV) hil;rw[tP hil]at hg;generalize wrd L[i]! = wb at *
  repeat'(first|apply zE|apply zD|apply zC|refine jg ?_ ?_|(apply ja;exact jH)|(apply yS;exact rfl;exact rfl)|(apply jm;exact jI)|refine jq ?_ (c:=by exact⟨_,hw _,jN⟩)|refine jd ?_|(apply uO;exact rfl;all_goals intro hc)|apply zB|apply zV|apply zQ|apply xM|apply zL|apply zJ|apply zM|exact jO|((with_reducible apply Ln.mk);first|omega)|exact jW|((with_reducible apply Ce.mk);first|exact hcell)|exact True.intro|exact rfl)
  all_goals first
   |exact jX
   |(rw[show wb=false by simpa using hc,Bool.false_and]at hg
     subst hg
     (apply yA;(exact(show zO _ _ _ _ [_,_] from⟨rfl,⟨rfl,trivial⟩⟩));exact⟨[],rfl,rfl⟩;exact jT))
   |(rw[show wb=true by simpa using hc,Bool.true_and]at hg
     exact⟨i+1,⟨hil,hg⟩,by show L.length-(i+1)<L.length-i;omega,jB,jT⟩)
 ·rw[tQ (by omega)]at hg
  subst hg
  repeat'(first|apply zE|apply zD|apply zC|refine jg ?_ ?_|refine jq ?_ (c:=by exact⟨_,hJ _ _ hp,jN⟩)|refine jf ?_|(apply vA;exact rfl;all_goals intro hc)|apply zB|apply zV|apply zW|apply zT|apply zL|apply zJ|apply zU|exact jS|fail)
  all_goals first
   |contradiction
   |exact jF (k:=by exact⟨[],congrArg (λz:Int=>Value.tuple #[S [],I z]) (by rw[if_pos rfl,if_neg (by omega)]),rfl⟩)
   |exact jF (k:=by exact⟨J,congrArg (λz:Int=>Value.tuple #[S J,I z]) (by rw[if_pos rfl,if_pos (by omega)]),rfl⟩)
def vwd (s:List UInt8):Bool:=decide (s=[]\/jne (spl (s.count 32) s)=0)
theorem yMs (s:List UInt8)(hs:s.length<=1000):(Lib.join (spl (s.count 32) s) [32]).length<=140737488355328:=by
 have hc:s.count 32<=s.length:=List.count_le_length;have hl:=bO (s.count 32) s;have hm:=zCy (s.count 32) s;generalize spl (s.count 32) s=L at *;have hb:∀L:List (List UInt8),(∀x∈L,x.length<=1000)->(Lib.join L [32]).length<=L.length*1001:=by
  intro L
  induction L with
  |nil=>intro _;exact Nat.le_refl 0
  |cons x r ih =>
   intro hx;rw[Lib.join_cons,List.length_append];have h1:=hx x List.mem_cons_self;have h2:∀r:List (List UInt8),(∀x∈r,x.length<=1000)->(Lib.joinTail [32] r).length<=r.length*1001:=by
    intro r
    induction r with
    |nil=>intro _;exact Nat.le_refl 0
    |cons y r ih2 =>
     intro hy;have h3:=ih2 λz hz=>hy z (List.mem_cons_of_mem _ hz);have h4:=hy y List.mem_cons_self;have e:Lib.joinTail [32] (y::r)=([32]++y)++Lib.joinTail [32] r:=rfl;have h5:(y::r).length*1001=r.length*1001+1001:=by show(r.length+1)*1001=_;omega
     rw[e,List.length_append,List.length_append,h5];show 1+y.length+_<=_;omega
   have h3:=h2 r λz hz=>hx z (List.mem_cons_of_mem _ hz);rw[List.length_cons,Nat.add_mul];omega
 have:=hb L λx hx=>Nat.le_trans (hm x hx) hs;have:L.length*1001<=1001*1001:=Nat.mul_le_mul_right _ (by omega);omega
theorem zZx (s:List UInt8)(h:SH)(hs:s.length<=1000)(h0:s≠[]):zH Tryz.prog 188 [S s] h λr q =>
  ∃ad n fl,r=.slice ad n fl/\(0<n↔jne (spl (s.count 32) s)=0)/\q=h:=by
 have hS:=λh=>yMe s h (by omega);have hc:s.count 32<=s.length:=List.count_le_length;have hl:=bO (s.count 32) s;have hQ:=λA h h1 hp=>yPp (spl (s.count 32) s) A 0 false h h1 hp (by omega) (λx hx=>by have:=zCy _ _ x hx;omega) (yMs s hs);generalize spl (s.count 32) s=L at *;generalize jne L=e at *;refine yG Tryz.func188 rfl rfl ?_
 repeat'(first|apply zE|apply zD|apply zC|refine jg ?_ ?_|(refine jc ?_ (c:=by exact⟨_,hS _,jN⟩);rintro _ _ ⟨A2,rfl,rfl⟩)|(refine jc ?_ (c:=by exact⟨_,hQ _ _ _ .head,jN⟩);rintro _ _ ⟨z,rfl,rfl⟩)|refine jf ?_|(apply mA;exact rfl;all_goals intro hc)|apply zB|apply zV|apply zL|apply zJ|exact jS|fail)
 all_goals first
  |contradiction
  |exact jF (k:=by exact⟨none,0,0,rfl,⟨λg=>absurd g (Nat.lt_irrefl 0),λg=>absurd g hc⟩,rfl⟩)
  |exact jF (k:=by exact⟨_,_,_,rfl,⟨λ_=>by omega,λ_=>by omega⟩,rfl⟩)
theorem yJh (s:List UInt8)(h:SH)(hs:s.length<=1000):zH Tryz.prog 141 [S s] h λr q=>r=B (vwd s)/\q=h:=by
 unfold vwd;by_cases h0:s=[]
 ·rw[decide_eq_true (.inl h0)]
  refine yG Tryz.func141 rfl rfl ?_
  repeat'(first|apply zE|apply zD|apply zC|refine jg ?_ ?_|refine jk ?_|(apply gO;(iterate 3 exact rfl);exact ‹_›;exact rfl)|apply zB|apply zJ|exact jS|fail)
  all_goals first|exact jX|exact jG
 ·have hW:=λh=>zZx s h hs h0
  generalize jne (spl (s.count 32) s)=e at *;refine yG Tryz.func141 rfl rfl ?_
  repeat'(first|apply zE|apply zD|apply zC|refine jg ?_ ?_|(refine jc ?_ (c:=by exact⟨_,hW _,jN⟩);rintro _ _ ⟨ad,n,fl,rfl,hn,rfl⟩)|refine jw ?_|refine ji ?_|apply zB|apply zJ|exact jS|fail)
  all_goals first|exact jX|exact jF (k:=by exact⟨congrArg B (decide_eq_decide.2 ⟨λg=>.inr (hn.1 (by omega)),λg=>by rcases g with g|g;exact absurd g h0;have:=hn.2 g;omega⟩),rfl⟩)

theorem zOf {α:Type}[Inhabited α]{p:α->Bool}{l:List α}{i:Nat}(h:i<l.length):(l.drop i).any p=(p l[i]! || (l.drop (i+1)).any p):=by rw[wD h];rfl
theorem zSb {α:Type}{p:α->Bool}{l:List α}{i:Nat}(h:l.length<=i):(l.drop i).any p=false:=by rw[List.drop_of_length_le h];rfl
def nmv (s:List UInt8):Bool:=decide (s≠[]/\s.length<=32) && (prb s && (if bat s 0=92 then decide (2<=s.length)else decide (bat s 0≠36) && !Lib.containsAny s [92,46,91,93]))
theorem yAg {s:List UInt8}(h:prb s=true):∀(j:Nat) b,s[j]?=some b->b.toNat<128:=by
 intro j b hj;unfold prb at h;have:=List.all_eq_true.1 h b (List.mem_of_getElem? hj);rw[decide_eq_true_eq]at this;omega
theorem yAu (s:List UInt8)(h:SH)(hs:s.length<=1000)(hp:prb s=true):zH Tryz.prog 95 [S s,S [92,46,91,93]] h λr q=>r=B (Lib.containsAny s [92,46,91,93])/\q=h :=
 cX rfl rfl λw=>Tryz.strings_ContainsAny_laid ⟨⟨s⟩⟩ ⟨#[92,46,91,93]⟩ w (show s.length<4294967281 by omega) (by decide) (λj b hj=>yAg hp j b hj) (λj b hj=>by
  have hj:([92,46,91,93]:List UInt8)[j]?=some b:=hj;have:=List.mem_of_getElem? hj;simp only[List.mem_cons,List.not_mem_nil,or_false]at this;rcases this with rfl|rfl|rfl|rfl <;> decide)
theorem zZg (s:List UInt8)(h:SH)(hs:s.length<=1000):zH Tryz.prog 39 [S s] h λr q=>r=B (nmv s)/\q=h:=by
 have hP:=λh=>yHm s h (by omega);have hC:=λh=>yAu s h hs;unfold nmv;generalize prb s=b at *;generalize Lib.containsAny s [92,46,91,93]=c at *;by_cases h0:s≠[]/\s.length<=32
 ·rw[decide_eq_true h0,Bool.true_and]
  have hl:=List.length_pos_iff.2 h0.1;have h01:=h0.1;have h02:=h0.2;cases b with
  |false =>
   rw[Bool.false_and];refine yG Tryz.func39 rfl rfl ?_
   repeat'(first|apply zE|apply zD|apply zC|refine jg ?_ ?_|(apply yS;exact rfl;exact rfl)|refine jq ?_ (c:=by exact⟨_,hP _,jN⟩)|refine jw ?_|refine ji ?_|(apply yO;exact rfl)|apply zB|apply zV|apply zJ|exact jS|fail)
   all_goals first|exact jX|exact jG
  |true =>
   rw[Bool.true_and];have hb:=uG s 0;refine yG Tryz.func39 rfl rfl ?_
   repeat'(first|apply zE|apply zD|apply zC|refine jg ?_ ?_|(apply yS;exact rfl;exact rfl)|refine jq ?_ (c:=by exact⟨_,hP _,jN⟩)|refine jq ?_ (c:=by exact⟨_,hC _ rfl,jN⟩)|refine jw ?_|refine jk ?_|refine ji ?_|(apply lP;(iterate 3 exact rfl);all_goals intro hc)|(apply zX;exact rfl)|(apply vA;exact rfl;all_goals intro hc)|apply zB|apply zV|apply zL|apply zJ|exact jO|fail)
   all_goals first
    |exact jX
    |exact jF (k:=by exact⟨congrArg B (by rw[if_pos (by assumption)];exact decide_eq_decide.2 (by omega)),rfl⟩)
    |exact jF (k:=by exact⟨congrArg B (by rw[if_neg (by assumption),decide_eq_true (by assumption),Bool.true_and]),rfl⟩)
    |exact jF (k:=by exact⟨congrArg B (by rw[if_neg (by assumption),decide_eq_false (λg=>g (by assumption)),Bool.false_and]),rfl⟩)
 ·rw[decide_eq_false h0,Bool.false_and]
  by_cases h1:s=[]
  ·refine yG Tryz.func39 rfl rfl ?_
   repeat'(first|apply zE|apply zD|apply zC|refine jg ?_ ?_|refine jk ?_|(apply gO;(iterate 3 exact rfl);exact ‹_›;exact rfl)|(apply yO;exact rfl)|apply zB|apply zV|apply zJ|exact jS|fail)
   all_goals first|exact jX|exact jG
  ·have h2:32<s.length:=by
    rcases Nat.lt_or_ge 32 s.length with g|g
    ·exact g
    ·exact absurd ⟨h1,g⟩ h0
   refine yG Tryz.func39 rfl rfl ?_
   repeat'(first|apply zE|apply zD|apply zC|refine jg ?_ ?_|refine jw ?_|refine jk ?_|refine ji ?_|(apply gO;(iterate 3 exact rfl);omega;exact rfl)|(apply yO;exact rfl)|apply zB|apply zV|apply zJ|exact jS|fail)
   all_goals first|exact jX|exact jG
def pX (n:Int):Bool:=decide (-32768<=n/\n<=32768)
theorem zPe (n:Int)(h:SH):zH Tryz.prog 189 [I n] h λr q=>r=B (pX n)/\q=h:=by
 unfold pX;refine yG Tryz.func189 rfl rfl ?_
 repeat'(first|apply zE|apply zD|apply zC|refine jg ?_ ?_|refine jw ?_|refine jk ?_|(apply rX;(iterate 3 exact rfl);all_goals intro hc)|apply zB|apply zJ|exact jS|fail)
 all_goals first|contradiction|exact jF (k:=by exact⟨congrArg B (decide_eq_decide.2 (by omega)),rfl⟩)|exact jF (k:=by exact⟨congrArg B (decide_eq_false (by omega)).symm,rfl⟩)
def wid (a b:Int):Int:=if pX a=true/\pX b=true then max a b-min a b+1 else 0
theorem zRj (a b:Int)(h:SH):zH Tryz.prog 144 [I a,I b] h λr q=>r=I (wid a b)/\q=h:=by
 have h1:=λh=>zPe a h;have h2:=λh=>zPe b h;unfold wid;by_cases hb:pX a=true/\pX b=true
 ·rw[if_pos hb]
  rw[hb.1]at h1;rw[hb.2]at h2;obtain⟨g1,g2⟩:=hb;unfold pX at g1 g2;rw[decide_eq_true_eq]at g1 g2;refine yJ Tryz.func144 rfl rfl ?_
  repeat'(first|apply zE|apply zD|apply zC|refine jg ?_ ?_|(apply ja;exact jH)|(apply yS;exact rfl;exact rfl)|(apply pU;iterate 3 exact rfl)|(apply uQ;iterate 3 exact rfl)|refine jq ?_ (c:=by exact⟨_,h1 _,jN⟩)|refine jq ?_ (c:=by exact⟨_,h2 _,jN⟩)|refine jw ?_|(apply zX;exact rfl)|apply zB|apply zL|apply zJ|exact jS|exact jW|fail)
  all_goals first|exact jX|exact jG
 ·rw[if_neg hb]
  generalize pX a=x at *;generalize pX b=y at *;refine yJ Tryz.func144 rfl rfl ?_
  repeat'(first|apply zE|apply zD|apply zC|refine jg ?_ ?_|(apply ja;exact jH)|(apply yS;exact rfl;exact rfl)|(apply pU;iterate 3 exact rfl)|(apply uQ;iterate 3 exact rfl)|refine jq ?_ (c:=by exact⟨_,h1 _,jN⟩)|refine jq ?_ (c:=by exact⟨_,h2 _,jN⟩)|refine jw ?_|refine jk ?_|(apply zOk;(iterate 3 exact rfl);all_goals intro hc)|(apply yO;exact rfl)|(apply uO;exact rfl;all_goals intro hc)|apply zB|apply zV|apply zL|apply zJ|exact jS|((with_reducible apply Wr.mk);first|rfl))
  all_goals first|exact jG|(exfalso;apply hb;constructor <;> simp_all;done)
def knd (t:Int):Int:=if t=3\/t=4 then 1 else if t=6 then 2 else if t=0 then 3 else 0
theorem yBs (t:Int)(h:SH):zH Tryz.prog 143 [I t] h λr q=>r=I (knd t)/\q=h:=by
 unfold knd;refine yG Tryz.func143 rfl rfl ?_
 repeat'(first|apply zE|apply zD|apply zC|refine jg ?_ ?_|(apply tC;exact rfl;exact ‹_›)|(apply vA;exact rfl;all_goals intro hc)|apply zB|apply zV|apply zQ|apply xM|apply zL|apply zJ|apply zM|exact jS|fail)
 all_goals first
  |exact jX
  |exact jF (k:=by exact⟨congrArg I (by rw[if_pos (by omega)]),rfl⟩)
  |exact jF (k:=by exact⟨congrArg I (by rw[if_neg (by omega),if_pos (by omega)]),rfl⟩)
  |exact jF (k:=by exact⟨congrArg I (by rw[if_neg (by omega),if_neg (by omega),if_pos (by omega)]),rfl⟩)
  |exact jF (k:=by exact⟨congrArg I (by rw[if_neg (by omega),if_neg (by omega),if_neg (by omega)]),rfl⟩)
theorem yPq (l:List Scp)(p:Scp->Bool)(f:Nat)(cap:List Value)(v:Value)(h:SH)(hv:Has h (zF scF l) 3 l.length v)(hl:l.length<=100000)(hen:xL Tryz.prog f=true)
  (hF:∀x∈l,∀h',zA h' h->zH Tryz.prog f (.agg ⟨scF x⟩::cap) h' λr q=>r=B (p x)/\q=h') :
  zH Tryz.prog 96 [v,.func (.func f) #[] ⟨cap⟩] h λr q=>∃k:Int,r=I k/\(0<=k↔l.any p=true)/\q=h:=by
 obtain⟨ad,fl,rfl,hh⟩:=hv;have hlb:=yK (f:=scF) (w:=3) (λ_=>rfl) l;obtain⟨b,hb⟩:∃b,l.any p=b:=⟨_,rfl⟩;rw[hb];refine yJ Tryz.func96 rfl rfl ?_
 repeat'(first|apply zE|apply zD|apply zC|refine jg ?_ ?_|apply zB|apply zM|exact jS|fail)
 all_goals try exact jX
 refine yH (S:=Nat) (λi=>[(0,.slice ad l.length fl),(1,.func (.func f) #[] ⟨cap⟩),(7,I l.length),(8,I i)]) (λ_=>h) (λi=>i<=l.length/\(l.drop i).any p=b) (λi=>l.length-i) 0 ⟨Nat.zero_le _,hb⟩ jB jT ?_;rintro i ⟨hi,hg⟩;by_cases hil:i<l.length
 ·obtain⟨A',ro,g1,rfl,hp⟩:=hh (by omega)
  have hX:=hF l[i]! (xD hil) h .nil;rw[zOf hil]at hg;generalize p l[i]! = y at *
  repeat'(first|apply zE|apply zD|apply zC|refine jg ?_ ?_|(apply ja;exact jH)|(apply jl;exact jI)|(apply zZ;exact rfl;exact rfl;(focus first|assumption);exact rfl;exact⟨_,hX,jN⟩;rintro _ _ ⟨rfl,rfl⟩)|refine jd ?_|(apply uO;exact rfl;all_goals intro hc)|apply zB|apply zV|apply zQ|apply xM|apply zL|apply zJ|apply zM|exact jO|((with_reducible apply Ln.mk);first|rfl|(simp[hlb];first|done|omega))|exact jW|((with_reducible apply Su.mk);first|exact xO (λ_=>rfl) (by omega))|exact True.intro|exact rfl)
  all_goals first
   |exact jX
   |(rw[hc,Bool.true_or]at hg
     (apply yA;(exact(show zO _ _ _ _ [_] from⟨rfl,trivial⟩));exact⟨i,rfl,⟨λ_=>hg.symm,λ_=>by omega⟩,rfl⟩;exact jT))
   |(rw[hc,Bool.false_or]at hg
     exact⟨i+1,⟨hil,hg⟩,by show l.length-(i+1)<l.length-i;omega,jB,jT⟩)
 ·rw[zSb (by omega)]at hg
  subst hg
  repeat'(first|apply zE|apply zD|apply zC|refine jg ?_ ?_|refine jf ?_|apply zB|apply zW|apply zT|apply zJ|apply zU|exact jS|fail)
  all_goals first|exact jX|exact jF (k:=by exact⟨-1,rfl,⟨λg=>absurd g (by decide),λg=>by cases g⟩,rfl⟩)
theorem zIo (l:List Scp)(p:Scp->Bool)(f:Nat)(cap:List Value)(v:Value)(h:SH)(hv:Has h (zF scF l) 3 l.length v)(hl:l.length<=100000)(hen:xL Tryz.prog f=true)
  (hF:∀x∈l,∀h',zA h' h->zH Tryz.prog f (.agg ⟨scF x⟩::cap) h' λr q=>r=B (p x)/\q=h') :
  zH Tryz.prog 214 [v,.func (.func f) #[] ⟨cap⟩] h λr q=>r=B (l.any p)/\q=h:=by
 have hI:=yPq l p f cap v h hv hl hen hF;generalize l.any p=b at *;obtain⟨ad,fl,rfl,hh⟩:=hv;refine yJ Tryz.func214 rfl rfl ?_
 repeat'(first|apply zE|apply zD|apply zC|refine jg ?_ ?_|(refine jc ?_ (c:=by exact⟨_,hI,jN⟩);rintro _ _ ⟨k,rfl,hk,rfl⟩)|apply zB|apply zJ|exact jS|fail)
 all_goals first|exact jX|exact jF (k:=by exact⟨congrArg B (by cases b <;> simp_all),rfl⟩)
theorem yJx (l:List Vr)(p:Vr->Bool)(f:Nat)(cap:List Value)(v:Value)(h:SH)(hv:Has h (zF vrF l) 7 l.length v)(hl:l.length<=100000)(hen:xL Tryz.prog f=true)
  (hF:∀x∈l,∀h',zA h' h->zH Tryz.prog f (.agg ⟨vrF x⟩::cap) h' λr q=>r=B (p x)/\q=h') :
  zH Tryz.prog 285 [v,.func (.func f) #[] ⟨cap⟩] h λr q=>∃k:Int,r=I k/\(0<=k↔l.any p=true)/\q=h:=by
 obtain⟨ad,fl,rfl,hh⟩:=hv;have hlb:=yK (f:=vrF) (w:=7) (λ_=>rfl) l;obtain⟨b,hb⟩:∃b,l.any p=b:=⟨_,rfl⟩;rw[hb];refine yJ Tryz.func285 rfl rfl ?_
 repeat'(first|apply zE|apply zD|apply zC|refine jg ?_ ?_|apply zB|apply zM|exact jS|fail)
 all_goals try exact jX
 refine yH (S:=Nat) (λi=>[(0,.slice ad l.length fl),(1,.func (.func f) #[] ⟨cap⟩),(7,I l.length),(8,I i)]) (λ_=>h) (λi=>i<=l.length/\(l.drop i).any p=b) (λi=>l.length-i) 0 ⟨Nat.zero_le _,hb⟩ jB jT ?_;rintro i ⟨hi,hg⟩;by_cases hil:i<l.length
 ·obtain⟨A',ro,g1,rfl,hp⟩:=hh (by omega)
  have hX:=hF l[i]! (xD hil) h .nil;rw[zOf hil]at hg;generalize p l[i]! = y at *
  repeat'(first|apply zE|apply zD|apply zC|refine jg ?_ ?_|(apply ja;exact jH)|(apply jl;exact jI)|(apply zZ;exact rfl;exact rfl;(focus first|assumption);exact rfl;exact⟨_,hX,jN⟩;rintro _ _ ⟨rfl,rfl⟩)|refine jd ?_|(apply uO;exact rfl;all_goals intro hc)|apply zB|apply zV|apply zQ|apply xM|apply zL|apply zJ|apply zM|exact jO|((with_reducible apply Ln.mk);first|rfl|(simp[hlb];first|done|omega))|exact jW|((with_reducible apply Su.mk);first|exact xO (λ_=>rfl) (by omega))|exact True.intro|exact rfl)
  all_goals first
   |exact jX
   |(rw[hc,Bool.true_or]at hg
     (apply yA;(exact(show zO _ _ _ _ [_] from⟨rfl,trivial⟩));exact⟨i,rfl,⟨λ_=>hg.symm,λ_=>by omega⟩,rfl⟩;exact jT))
   |(rw[hc,Bool.false_or]at hg
     exact⟨i+1,⟨hil,hg⟩,by show l.length-(i+1)<l.length-i;omega,jB,jT⟩)
 ·rw[zSb (by omega)]at hg
  subst hg
  repeat'(first|apply zE|apply zD|apply zC|refine jg ?_ ?_|refine jf ?_|apply zB|apply zW|apply zT|apply zJ|apply zU|exact jS|fail)
  all_goals first|exact jX|exact jF (k:=by exact⟨-1,rfl,⟨λg=>absurd g (by decide),λg=>by cases g⟩,rfl⟩)
theorem zAc (l:List Vr)(p:Vr->Bool)(f:Nat)(cap:List Value)(v:Value)(h:SH)(hv:Has h (zF vrF l) 7 l.length v)(hl:l.length<=100000)(hen:xL Tryz.prog f=true)
  (hF:∀x∈l,∀h',zA h' h->zH Tryz.prog f (.agg ⟨vrF x⟩::cap) h' λr q=>r=B (p x)/\q=h') :
  zH Tryz.prog 216 [v,.func (.func f) #[] ⟨cap⟩] h λr q=>r=B (l.any p)/\q=h:=by
 have hI:=yJx l p f cap v h hv hl hen hF;generalize l.any p=b at *;obtain⟨ad,fl,rfl,hh⟩:=hv;refine yJ Tryz.func216 rfl rfl ?_
 repeat'(first|apply zE|apply zD|apply zC|refine jg ?_ ?_|(refine jc ?_ (c:=by exact⟨_,hI,jN⟩);rintro _ _ ⟨k,rfl,hk,rfl⟩)|apply zB|apply zJ|exact jS|fail)
 all_goals first|exact jX|exact jF (k:=by exact⟨congrArg B (by cases b <;> simp_all),rfl⟩)
end Go.Proofs.YtbidadebolllkaaGreatDoor
end
section
set_option maxRecDepth 4000
namespace Go.Gh
open Go.RowKit

def SWr (P:Program)(sz:Nat)(c:Code)(Q:wA)(a:AF)(h:SH):Prop:=∀E H n0,n0.ro=none->Inv E h H->AWp P ⟨sz,n0⟩ c (SQ E Q) a H
section
variable {P:Program} {sz:Nat} {Q:wA} {a:AF} {h:SH}
theorem uE {c:Code}(k:SWp P sz c Q a h):SWr P sz c Q a h:=by
 unfold SWp at k;exact λE H n0 _ i=>k E H n0 i
theorem uF {x y:Code}(k:SWr P sz x (sO (λa h=>SWr P sz y Q a h) Q) a h):SWr P sz (.seq x y) Q a h :=
 λE H n0 hr i=>oB ((k E H n0 hr i).mono λe a' H' ⟨h',h1,h2⟩=>by
  unfold sO at h1;cases e with
  |normal=>exact h1 E H' n0 hr h2
  |_=>exact⟨h',h1,h2⟩)
theorem zIh {id:Nat}{c:Code}(k:SWr P sz c (uR id Q) a h):SWr P sz (.block id c) Q a h :=
 λE H n0 hr i=>zFa ((k E H n0 hr i).mono λe a' H' ⟨h',h1,h2⟩=>by
  unfold uR at h1;cases e with
  |exit id' =>
   by_cases hid:id'=id
   ·simp only[mL,hid,if_true]at h1 ⊢;exact⟨h',h1,h2⟩
   ·simp only[mL,hid,if_false]at h1 ⊢;exact⟨h',h1,h2⟩
  |_=>exact⟨h',h1,h2⟩)
theorem zQk {f:FuncId}{fn:Func}{c:Code}{as0:List Value}{R:Value->SH->Prop}(hf:P.funcs[f]?=some fn)(hb:fn.body=some c)
  (hN:Nat.ble as0.length fn.ntmps=true) (k:SWr P fn.ntmps c (qM P fn R) (vY 0 as0) h):zH P f as0 h R:=by
 unfold zH;intro H i;refine eL hf hb hN λ_=>(k ⟨H,h⟩ H ⟨H.length,none⟩ rfl i).mono ?_;rintro e a' H' ⟨h',k1,k2⟩;have fin:qM P fn R .ret a' h'->bT P ⟨fn.ntmps,⟨H.length,none⟩⟩ fn (λr H'=>∃q,R r q/\Inv ⟨H,h⟩ q H') .ret a' H' :=
  λg=>by unfold qM at g;obtain⟨vs,q,g1,g2,g3⟩:=g;exact⟨vs,zO.res k2 g1,vs,H',gD,rfl,q,g2,k2.le g3.le⟩
 cases e with
 |normal=>exact fin (by unfold qM at k1 ⊢;exact k1)
 |ret=>exact fin k1
 |_=>exact(by unfold qM at k1;exact k1:False).elim
theorem zTc {f:Operand}{ps:Array Tmp}{as0 bd:Code}{g:FuncId}{first captured:Array Value}{b:AF}{d:Nat}{R:SH->Prop}
  (hf:ev a f=some (.func (.func g) first captured)) (hen:xL P g=true) (hd:vO d=(ps,as0,bd,sz)) (hb:Sub b a) (hbs:∀x∈b,x.1<sz)
  (hrun:∀A,zH P g (first.toList++[.chan (some A)]++captured.toList) ((A,⟨yX 0 d (.int .i64 0) b,false⟩)::h) λ_ q=>∃g,q=(A,⟨yX 0 d (.int .i64 0) b,false⟩)::g/\R g)
  (k:∀g,R g->Q .normal a g):SWr P sz (.rangeFunc f ps as0 bd) Q a h:=by
 unfold zH at hrun;intro E H n0 hr i;refine zTo (N:=⟨sz,n0⟩) hr hf hen hd hb hbs (.app H _) (hrun H.length _ (i.new _).refl) ?_;rintro r H2 ⟨q,⟨g,rfl,hR⟩,i2⟩;have i3:=(i.new _).comp i2;exact⟨0,.int .i64 0,b,.normal,i3.sat _ List.mem_cons_self,.inl rfl,rfl,g,k g hR,(i3.upd .head).le (zA.drop .nil).le⟩
end
section
variable {P:Program} {sz:Nat} {ops:Array Oper} {Q:wA} {rest:List Oper} {a:AF} {h h1 h':SH} {t:Nat} {ty:TypeId} {pos:String} {aft:Array Edge}
theorem zLt {x:Operand}{xs:List Operand}{ts:Array TypeId}{A d szl:Nat}{b:AF}{ps:Array Tmp}{as0 bd:Code}{vs:List Value}{g:SH}{R:SH->Prop}(hx:ev a x=some (.chan (some A)))(hxs:evs a xs=some vs)(hN:Nat.blt t sz=true)
  (hd:vO d=(ps,as0,bd,szl)) (hl:vs.length=ps.size) (hps:∀t∈ps.toList,t<szl)
  (hbody:SWp P szl as0 (λe a1 h1=>e=.normal/\∃g1,zA h1 ((A,⟨yX 0 d (.int .i64 0) b,false⟩)::g1) /\
   SWp P szl bd (λe2 _ h2=>e2=.normal/\∃g2,zA h2 ((A,⟨yX 1 d (.int .i64 0) b,false⟩)::g2)/\R g2) a1 ((A,⟨yX 1 d (.int .i64 0) b,false⟩)::g1)) (pS b (ps.toList.zip vs)) ((A,⟨yX 0 d (.int .i64 0) b,false⟩)::g))
  (k:∀g2,R g2->GO .seq P sz ops Q rest ((t,.bool true)::a) ((A,⟨yX 0 d (.int .i64 0) b,false⟩)::g2)) :
  GO .seq P sz ops Q (⟨some t,.call { callee:=.value x,args:=xs.toArray,argTypes:=ts },ty,pos,aft,none⟩::rest) a ((A,⟨yX 0 d (.int .i64 0) b,false⟩)::g):=by
 unfold SWp at hbody;unfold GO at k ⊢;intro E H n0 i;refine rA rfl (zNz x xs ts (K:=λr H'=>r=.bool true/\∃g2,R g2/\Inv E ((A,⟨yX 0 d (.int .i64 0) b,false⟩)::g2) H') rfl hx hxs hN
  ⟨by omega,b,ps,as0,bd,szl,i.sat _ List.mem_cons_self,by rw[Int.toNat_natCast];exact hd,hl,hps,λl=>?_⟩ λr H' ⟨hr,g2,hR,i2⟩=>?_)
 ·refine(hbody E H ⟨H.length,some l⟩ i).mono ?_
  rintro e a1 H1 ⟨h1,⟨rfl,g1,ht1,hbd⟩,i0⟩;have i1:=i0.le ht1.le;refine⟨b,i1.sat _ List.mem_cons_self,(hbd E _ ⟨H.length,some l⟩ (i1.upd .head)).mono ?_⟩;rintro e2 a2 H2 ⟨h2,⟨rfl,g2,ht2,hR⟩,i02⟩;have i2:=i02.le ht2.le;exact⟨b,i2.sat _ List.mem_cons_self,rfl,g2,hR,i2.upd .head⟩
 ·subst hr
  exact k g2 hR E H' n0 i2
variable {tt:TT} {α:Type} [DecidableEq α] {kf:α->List Value}
def rM (kf:α->List Value)(l:List α):List Value:=l.flatMap λx=>[.agg ⟨kf x⟩,.bool true]
theorem zFz (hl:∀x y,yW (kf x) (kf y)=true)(he:∀x y,xI (kf x) (kf y)=true↔x=y)(c:α):∀(l:List α) (i:Nat),if c∈l then ∃j,wZ (.a (kf c)) (rM kf l) i=some (some (j,.bool true))else wZ (.a (kf c)) (rM kf l) i=some none
 |[],i=>by rw[if_neg (by simp)];rfl
 |x::r,i=>by
  have ih:=zFz hl he c r (i+1);have e:wZ (.a (kf c)) (rM kf (x::r)) i=(bif yW (kf x) (kf c)then(bif xI (kf x) (kf c)then some (some (i,.bool true))else wZ (.a (kf c)) (rM kf r) (i+1))else none):=rfl;rw[hl x c]at e;by_cases hx:x=c
  ·rw[(he x c).2 hx]at e
   rw[if_pos (by simp[hx])];exact⟨i,e⟩
  ·have:xI (kf x) (kf c)=false:=by
    cases hq:xI (kf x) (kf c)with
    |false=>rfl
    |true=>exact absurd ((he x c).1 hq) hx
   rw[this]at e;by_cases hm:c∈r
   ·rw[if_pos hm]at ih
    rw[if_pos (List.mem_cons_of_mem _ hm)];obtain⟨j,hj⟩:=ih;exact⟨j,e.trans hj⟩
   ·rw[if_neg hm]at ih
    rw[if_neg (by rintro(_|g);exact hx rfl;exact hm (by assumption))];exact e.trans ih
theorem zKd {T:Nat}{x y:Operand}{A K E s b:Nat}{tk:TK}{l:List α}{ro:Mk}{c:α}(ht:tt.Ok P)(hx:ev a x=some (.map (some A)))(hp:Pick h A ⟨rM kf l,ro⟩ h1)(hk:ev a y=some (.agg ⟨kf c⟩))
  (hT:P.underlying T=some (.map K E)) (hK:sP P K (.a (kf c))=true) (hl:∀x y,yW (kf x) (kf y)=true) (he:∀x y,xI (kf x) (kf y)=true↔x=y) (hE:tt.get E=some ⟨tk,s,b,some (.bool false)⟩) (hN:Nat.blt t sz=true)
  (k:GO .seq P sz ops Q rest ((t,.bool (decide (c∈l)))::a) h):GO .seq P sz ops Q (⟨some t,.lookup T x y false,ty,pos,aft,none⟩::rest) a h:=by
 obtain⟨_,hI,hz'⟩:=xQ (TT.get_ok ht hE);have hz2:=hz' _ rfl;have hq:=zFz hl he c l 0;by_cases hm:c∈l
 ·rw[if_pos hm]at hq
  obtain⟨j,hq⟩:=hq;rw[decide_eq_true hm]at k;exact tZ (m:=.seq) (λh'=>∃h1,Pick h' A ⟨rM kf l,ro⟩ h1) ⟨_,hp⟩ (λ_ _ _ _ _ i ⟨_,hp⟩ hag=>bE T x y false rfl ((hag.ev (by simp[Op.operands,Call.operands])).trans hx) ((hag.ev (by simp[Op.operands,Call.operands])).trans hk) rfl (i.look hp) hT hK (hz2▸hI) rfl hq) hN trivial k
 ·rw[if_neg hm]at hq
  rw[decide_eq_false hm]at k;exact tZ (m:=.seq) (λh'=>∃h1,Pick h' A ⟨rM kf l,ro⟩ h1) ⟨_,hp⟩ (λ_ _ _ _ _ i ⟨_,hp⟩ hag=>bE T x y false rfl ((hag.ev (by simp[Op.operands,Call.operands])).trans hx) ((hag.ev (by simp[Op.operands,Call.operands])).trans hk) rfl (i.look hp) hT hK (hz2▸hI) rfl hq) hN trivial k
theorem zVe {T:Nat}{x y z:Operand}{A K E:Nat}{l:List α}{c:α}(hx:ev a x=some (.map (some A)))(hu:Upd h A ⟨rM kf l,false⟩ ⟨rM kf (l++[c]),false⟩ h')(hk:ev a y=some (.agg ⟨kf c⟩))(hv:ev a z=some (.bool true))(hm:c ∉ l)
  (hT:P.underlying T=some (.map K E)) (hK:sP P K (.a (kf c))=true) (hl:∀x y,yW (kf x) (kf y)=true) (he:∀x y,xI (kf x) (kf y)=true↔x=y)
  (k:GO .seq P sz ops Q rest a h'):GO .seq P sz ops Q (⟨none,.mapUpdate T x y z,ty,pos,aft,none⟩::rest) a h:=by
 have hq:=zFz hl he c l 0;rw[if_neg hm]at hq;have e:rM kf (l++[c])=rM kf l++[.agg ⟨kf c⟩,.bool true]:=by unfold rM;rw[List.flatMap_append];rfl
 rw[e]at hu;exact nN (m:=.seq) rfl hu (λ_ _ _ hA hag=>zDm T x y z (.inl rfl) ((hag.ev (by simp[Op.operands,Call.operands])).trans hx) ((hag.ev (by simp[Op.operands,Call.operands])).trans hk) rfl ((hag.ev (by simp[Op.operands,Call.operands])).trans hv) hA rfl hT hK hq) trivial k
end
attribute [irreducible] SWr
end Go.Gh
end
section
set_option maxRecDepth 4000
namespace Go.Proofs.YtbidadebolllkaaGreatDoor
open Go.Gh Go.RowKit

def nD :Nat->List Scp->Bool
 |_,[]=>true
 |i,s::r=>decide (-1<=s.2.2/\s.2.2<(i:Int)) && nD (i+1) r
theorem yDk {k:Nat}{l:List Scp}{i:Nat}(h:i<l.length):nD k (l.drop i)=(decide (-1<=l[i]!.2.2/\l[i]!.2.2<(k:Int)) && nD (k+1) (l.drop (i+1))):=by rw[wD h];rfl
def bdV (n:Nat)(x:Vr):Bool:=decide (x.2.2.1 < -1\/(n:Int)<=x.2.2.1\/x.2.2.2.1<0)
def dcl (ss:List Scp)(vs:List Vr):Bool:=nD 0 ss && !vs.any (bdV ss.length)
theorem zWx (x:Vr)(b n fl:Nat)(ad:Option Addr)(h h1:SH)(hp:Pick h b ⟨[.slice ad n fl],false⟩ h1)(hn:n<=100000):zH Tryz.prog 284 [.agg ⟨vrF x⟩,zG b 0 1] h λr q=>r=B (bdV n x)/\q=h:=by
 unfold bdV;refine yJ Tryz.func284 rfl rfl ?_
 repeat'(first|apply zE|apply zD|apply zC|refine jg ?_ ?_|(apply jm;exact jI)|refine jx ?_|refine jw ?_|refine jk ?_|(apply vJ;(iterate 3 exact rfl);all_goals intro hc)|apply zB|apply zJ|exact jS|exact jL|exact jE|exact True.intro|intro A|exact rfl)
 all_goals first|contradiction|exact jF (k:=by exact⟨congrArg B (decide_eq_true (by omega)).symm,rfl⟩)|exact jF (k:=by exact⟨congrArg B (decide_eq_decide.2 (by omega)),rfl⟩)
theorem yPf (ss:List Scp)(vs:List Vr)(v w:Value)(h:SH)(hv:Has h (zF scF ss) 3 ss.length v)(hw:Has h (zF vrF vs) 7 vs.length w)(h1:ss.length<=1000)(h2:vs.length<=1000) :
  zH Tryz.prog 210 [v,w] h λr q=>r=B (dcl ss vs)/\q=h:=by
 have hC:=λf cap h hw hen hF=>zAc vs (bdV ss.length) f cap w h hw (by omega) hen hF;obtain⟨ad,fl,rfl,hh⟩:=id hv;obtain⟨ad2,fl2,rfl,-⟩:=id hw;have hlb:=yK (f:=scF) (w:=3) (λ_=>rfl) ss;obtain⟨b,hb⟩:∃b,nD 0 ss=b:=⟨_,rfl⟩;unfold dcl;rw[hb];refine yJ Tryz.func210 rfl rfl ?_
 repeat'(first|apply zE|apply zD|apply zC|refine jg ?_ ?_|(apply jm;exact jI)|refine jx ?_|apply zB|apply zM|exact jS|exact jL|exact jE|exact True.intro|intro A|exact rfl)
 all_goals try exact jX
 obtain⟨b2,rfl⟩:∃m,m=A:=⟨_,rfl⟩;refine yH (S:=Nat) (λi=>[(1,.slice ad2 vs.length fl2),(2,zG b2 0 1),(7,.slice ad ss.length fl),(8,I ss.length),(9,I i)]) (λ_=>(b2,⟨[.slice ad ss.length fl],false⟩)::h) (λi=>i<=ss.length/\nD i (ss.drop i)=b) (λi=>ss.length-i) 0 ⟨Nat.zero_le _,hb⟩ jB jT ?_;rintro i ⟨hi,hg⟩;by_cases hil:i<ss.length
 ·obtain⟨A',ro,g1,rfl,hp⟩:=hh (by omega)
  rw[yDk hil]at hg
  repeat'(first|apply zE|apply zD|apply zC|refine jg ?_ ?_|(apply ja;exact jH)|(apply jm;exact jI)|(apply jl;exact jI)|(apply js;exact jJ)|refine jy ?_|refine jw ?_|refine jk ?_|(apply vJ;(iterate 3 exact rfl);all_goals intro hc)|(apply yO;exact rfl)|refine jd ?_|(apply vA;exact rfl;all_goals intro hc)|apply zB|apply zV|apply zQ|apply xM|apply zL|apply zJ|apply zM|exact jO|((with_reducible apply Ln.mk);first|rfl|(simp[hlb];first|done|omega))|exact jW|exact jE|exact jP|((with_reducible apply Su.mk);first|exact xO (λ_=>rfl) (by omega))|exact True.intro|intro A|exact rfl)
  all_goals first
   |exact jX
   |(rw[decide_eq_true (by omega),Bool.true_and]at hg
     exact⟨i+1,⟨hil,hg⟩,by show ss.length-(i+1)<ss.length-i;omega,jB,jT⟩)
   |(rw[decide_eq_false (by omega),Bool.false_and]at hg
     subst hg;exact jG)
 ·rw[List.drop_of_length_le (by omega)]at hg
  have hg:true=b:=hg;subst hg;have hX:=hC 284 [zG b2 0 1] ((b2,⟨[.slice ad ss.length fl],false⟩)::h) (hw.re jT) rfl λx hx h' ht=>by
   obtain⟨h3,hp3,_⟩:=ht.pick (.head);exact zWx x b2 ss.length fl ad h' h3 hp3 (by omega)
  generalize vs.any (bdV ss.length)=y at *
  repeat'(first|apply zE|apply zD|apply zC|refine jg ?_ ?_|(apply yS;exact rfl;exact rfl)|(apply rK;iterate 3 exact rfl)|refine jq ?_ (c:=by exact⟨_,hX,jN⟩)|refine jf ?_|apply zB|apply zW|apply zT|apply zJ|apply zU|exact jS|fail)
  all_goals first|exact jX|exact jG
def bdR (x:Vr):Bool:=if x.2.2.2.2.1=true then decide (wid x.2.2.2.2.2.1 x.2.2.2.2.2.2=0)else decide (x.2.2.2.2.2.1≠0\/x.2.2.2.2.2.2≠0)
theorem zKa (s:List UInt8)(h:SH)(hs:s.length<=1000):zH Tryz.prog 211 [S s] h λr q=>r=B (!nmv s)/\q=h:=by
 have hN:=λh=>zZg s h hs;generalize nmv s=b at *;refine yG Tryz.func211 rfl rfl ?_
 repeat'(first|apply zE|apply zD|apply zC|refine jg ?_ ?_|(apply yS;exact rfl;exact rfl)|refine jq ?_ (c:=by exact⟨_,hN _,jN⟩)|apply zB|apply zJ|exact jS|fail)
 all_goals first|exact jX|exact jG
theorem zJt (n m:Int)(h:SH):zH Tryz.prog 212 [I n,I m] h λr q=>r=B (decide (n<0\/m<n))/\q=h:=by
 refine yJ Tryz.func212 rfl rfl ?_
 repeat'(first|apply zE|apply zD|apply zC|refine jg ?_ ?_|refine jw ?_|refine jk ?_|(apply vJ;(iterate 3 exact rfl);all_goals intro hc)|apply zB|apply zJ|exact jS|fail)
 all_goals first|contradiction|exact jF (k:=by exact⟨congrArg B (decide_eq_true (by omega)).symm,rfl⟩)|exact jF (k:=by exact⟨congrArg B (decide_eq_decide.2 (by omega)),rfl⟩)
theorem yEn (x:Vr)(h:SH):zH Tryz.prog 213 [.agg ⟨vrF x⟩] h λr q=>r=B (bdR x)/\q=h:=by
 have hW:=λh=>zRj x.2.2.2.2.2.1 x.2.2.2.2.2.2 h;unfold bdR;generalize wid x.2.2.2.2.2.1 x.2.2.2.2.2.2=z at *;refine yG Tryz.func213 rfl rfl ?_
 repeat'(first|apply zE|apply zD|apply zC|refine jg ?_ ?_|(apply jm;exact jI)|refine jx ?_|refine jq ?_ (c:=by exact⟨_,hW _,jN⟩)|refine jw ?_|refine jk ?_|(apply yOa;(iterate 3 exact rfl);all_goals intro hc)|(apply uO;exact rfl;all_goals intro hc)|apply zB|apply zV|apply zL|apply zJ|exact jS|exact jL|exact jE|exact True.intro|intro A|exact rfl)
 all_goals first
  |contradiction
  |exact jF (k:=by exact⟨congrArg B (by rw[if_pos (by assumption)]),rfl⟩)
  |exact jF (k:=by exact⟨congrArg B (by rw[if_neg (by simp_all)];exact(decide_eq_true (by omega)).symm),rfl⟩)
  |exact jF (k:=by exact⟨congrArg B (by rw[if_neg (by simp_all)];exact decide_eq_decide.2 (by omega)),rfl⟩)

theorem zZa (x:Scp)(b:Nat)(h h1:SH)(hp:Pick h b ⟨[fnV 211],false⟩ h1)(hs:x.1.length<=1000):zH Tryz.prog 215 [.agg ⟨scF x⟩,zG b 0 1] h λr q=>r=B (!nmv x.1)/\q=h:=by
 have hN:=λh=>zKa x.1 h hs;generalize nmv x.1=y at *;refine yJ Tryz.func215 rfl rfl ?_
 repeat'(first|apply zE|apply zD|apply zC|refine jg ?_ ?_|(apply jm;exact jI)|refine jx ?_|refine jq ?_ (c:=by exact⟨_,hN _,jN⟩)|apply zB|apply zJ|exact jS|exact jL|exact jE|exact True.intro|intro A|exact rfl)
 all_goals first|exact jX|exact jG
theorem yPm (x:Vr)(b:Nat)(h h1:SH)(hp:Pick h b ⟨[fnV 211],false⟩ h1)(hs:x.1.length<=1000):zH Tryz.prog 217 [.agg ⟨vrF x⟩,zG b 0 1] h λr q=>r=B (!nmv x.1)/\q=h:=by
 have hN:=λh=>zKa x.1 h hs;generalize nmv x.1=y at *;refine yJ Tryz.func217 rfl rfl ?_
 repeat'(first|apply zE|apply zD|apply zC|refine jg ?_ ?_|(apply jm;exact jI)|refine jx ?_|refine jq ?_ (c:=by exact⟨_,hN _,jN⟩)|apply zB|apply zJ|exact jS|exact jL|exact jE|exact True.intro|intro A|exact rfl)
 all_goals first|exact jX|exact jG
theorem yEl (x:Scp)(b:Nat)(h h1:SH)(hp:Pick h b ⟨[fnV 212],false⟩ h1):zH Tryz.prog 218 [.agg ⟨scF x⟩,zG b 0 1] h λr q=>r=B (decide (x.2.1<0\/4<x.2.1))/\q=h:=by
 have hN:=λh=>zJt x.2.1 4 h;refine yJ Tryz.func218 rfl rfl ?_
 repeat'(first|apply zE|apply zD|apply zC|refine jg ?_ ?_|(apply jm;exact jI)|refine jx ?_|refine jq ?_ (c:=by exact⟨_,hN _,jN⟩)|apply zB|apply zJ|exact jS|exact jL|exact jE|exact True.intro|intro A|exact rfl)
 all_goals first|exact jX|exact jG
theorem yOx (x:Vr)(b:Nat)(h h1:SH)(hp:Pick h b ⟨[fnV 212],false⟩ h1):zH Tryz.prog 219 [.agg ⟨vrF x⟩,zG b 0 1] h λr q=>r=B (decide (x.2.1<0\/18<x.2.1))/\q=h:=by
 have hN:=λh=>zJt x.2.1 18 h;refine yJ Tryz.func219 rfl rfl ?_
 repeat'(first|apply zE|apply zD|apply zC|refine jg ?_ ?_|(apply jm;exact jI)|refine jx ?_|refine jq ?_ (c:=by exact⟨_,hN _,jN⟩)|apply zB|apply zJ|exact jS|exact jL|exact jE|exact True.intro|intro A|exact rfl)
 all_goals first|exact jX|exact jG
abbrev ckF (k:Int × List UInt8):List Value:=[I k.1,S k.2]
abbrev ceF (k:Int × List UInt8 × Bool × Int × Int):List Value:=[I k.1,S k.2.1,B k.2.2.1,I k.2.2.2.1,I k.2.2.2.2]
def nI (x:Scp):Int × List UInt8:=(x.2.2,x.1)
def oU (x:Vr):Int × List UInt8 × Bool × Int × Int:=(x.2.2.1,x.1,x.2.2.2.2.1,x.2.2.2.2.2.1,x.2.2.2.2.2.2)
theorem ckEq (x y:Int × List UInt8):xI (ckF x) (ckF y)=true↔x=y:=by
 obtain⟨a1,a2⟩:=x;obtain⟨b1,b2⟩:=y;simp[xI]
theorem ceEq (x y:Int × List UInt8 × Bool × Int × Int):xI (ceF x) (ceF y)=true↔x=y:=by
 obtain⟨a1,a2,a3,a4,a5⟩:=x;obtain⟨b1,b2,b3,b4,b5⟩:=y;simp[xI]
theorem zXg (x:Scp)(h:SH):zH Tryz.prog 221 [.agg ⟨scF x⟩] h λr q=>r=.agg ⟨ckF (nI x)⟩/\q=h:=by
 refine yG Tryz.func221 rfl rfl ?_
 repeat'(first|apply zE|apply zD|apply zC|refine jg ?_ ?_|(apply jm;exact jI)|(apply js;exact jJ)|refine jy ?_|refine jx ?_|(apply xZ zK;exact rfl;exact rfl;(focus first|with_reducible exact yIp);exact rfl;(focus repeat(first|exact yT.nil|(apply yT.one;exact rfl;exact rfl;(first|(focus(repeat(first|exact yD.zero|apply yD.succ));done)))));exact rfl)|apply zB|apply zJ|exact jS|exact jL|exact jE|exact jP|exact True.intro|intro A|exact rfl)
 all_goals first|exact jX|(apply yA;(exact(show zO _ _ _ _ [_] from(sG zK rfl rfl rfl (by exact pk) (by first|rfl|exact ‹_›|omega|(simp ;first|done|omega)) (by first|rfl|exact ‹_›|omega|(simp ;first|done|omega)) trivial)));exact⟨rfl,rfl⟩;exact jT)
theorem yNg (x:Vr)(h:SH):zH Tryz.prog 223 [.agg ⟨vrF x⟩] h λr q=>r=.agg ⟨ceF (oU x)⟩/\q=h:=by
 refine yG Tryz.func223 rfl rfl ?_
 repeat'(first|apply zE|apply zD|apply zC|refine jg ?_ ?_|(apply jm;exact jI)|(apply js;exact jJ)|refine jy ?_|refine jx ?_|(apply xZ zK;exact rfl;exact rfl;(focus first|with_reducible exact yFz);exact rfl;(focus repeat(first|exact yT.nil|(apply yT.one;exact rfl;exact rfl;(first|(focus(repeat(first|exact yD.zero|apply yD.succ));done)))));exact rfl)|apply zB|apply zJ|exact jS|exact jL|exact jE|exact jP|exact True.intro|intro A|exact rfl)
 all_goals first|exact jX|(apply yA;(exact(show zO _ _ _ _ [_] from(sG zK rfl rfl rfl (by exact pk) (by first|rfl|exact ‹_›|omega|(simp ;first|done|omega)) (by first|rfl|exact ‹_›|omega|(simp ;first|done|omega)) trivial)));exact⟨rfl,rfl⟩;exact jT)
def uq {α β:Type}[DecidableEq β](f:α->β):List β->List α->Bool
 |_,[]=>true
 |s,x::r=>if f x∈s then false else uq f (s++[f x]) r
theorem zNr {α β:Type}[Inhabited α][DecidableEq β]{f:α->β}{s:List β}{l:List α}{i:Nat}(h:i<l.length):uq f s (l.drop i)=if f l[i]!∈s then false else uq f (s++[f l[i]!]) (l.drop (i+1)):=by rw[wD h];rfl
theorem yKh (l:List Scp)(v:Value)(h:SH)(hv:Has h (zF scF l) 3 l.length v)(hl:l.length<=1000) :
  zH Tryz.prog 220 [v,fnV 221] h λr q=>r=B (uq nI [] l)/\q=h:=by
 obtain⟨ad,fl,rfl,hh⟩:=hv;have hlb:=yK (f:=scF) (w:=3) (λ_=>rfl) l;obtain⟨b,hb⟩:∃b,uq nI [] l=b:=⟨_,rfl⟩;rw[hb];refine yJ Tryz.func220 rfl rfl ?_
 repeat'(first|apply zE|apply zD|apply zC|refine jg ?_ ?_|(apply eN;exact rfl)|apply zB|apply zM|exact jS|intro A)
 all_goals try exact jX
 obtain⟨m,rfl⟩:∃m,m=A:=⟨_,rfl⟩;refine yH (S:=Nat × List (Int × List UInt8)) (λx=>[(1,fnV 221),(5,.map (some m)),(9,.slice ad l.length fl),(10,I l.length),(11,I x.1)]) (λx=>(m,⟨rM ckF x.2,false⟩)::h) (λx=>x.1<=l.length/\uq nI x.2 (l.drop x.1)=b) (λx=>l.length-x.1) (0,[]) ⟨Nat.zero_le _,hb⟩ jB (by exact zA.nil) ?_;rintro⟨i,s⟩ ⟨hi,hg⟩;dsimp only at hi hg ⊢;by_cases hil:i<l.length
 ·obtain⟨A',ro,g1,rfl,hp⟩:=hh (by omega)
  have hX:=λh=>zXg l[i]! h;rw[zNr hil]at hg;obtain⟨c,hcc⟩:∃c,nI l[i]! = c:=⟨_,rfl⟩;rw[hcc]at hX hg
  repeat'(first|apply zE|apply zD|apply zC|(apply zKd (kf:=ckF) zK;exact rfl;exact pk;exact rfl;exact Tryz.underlying333;kernel_rfl;exact λ_ _=>rfl;exact ckEq;exact rfl;exact rfl)|(apply zVe (kf:=ckF);exact rfl;exact up;exact rfl;exact rfl;exact hc;exact Tryz.underlying333;kernel_rfl;exact λ_ _=>rfl;exact ckEq)|refine jg ?_ ?_|(apply ja;exact jH)|(apply jl;exact jI)|(apply js;exact jJ)|refine jy ?_|refine jq ?_ (c:=by exact⟨_,hX _,jN⟩)|refine jd ?_|(apply vA;exact rfl;all_goals intro hc)|apply zB|apply zV|apply zQ|apply xM|apply zL|apply zJ|apply zM|exact jO|((with_reducible apply Ln.mk);first|rfl|(simp[hlb];first|done|omega))|exact jW|exact jP|((with_reducible apply Su.mk);first|exact xY|exact xO (λ_=>rfl) (by omega))|exact True.intro|intro A|exact rfl)
  all_goals first
   |exact jX
   |(rw[if_pos hc]at hg
     subst hg
     (apply yA;(exact(show zO _ _ _ _ [_] from⟨rfl,trivial⟩));exact⟨rfl,rfl⟩;exact jT))
   |(rw[if_neg hc]at hg
     exact⟨(i+1,s++[c]),⟨hil,hg⟩,by show l.length-(i+1)<l.length-i;omega,jB,jT⟩)
 ·rw[List.drop_of_length_le (by omega)]at hg
  have hg:true=b:=hg;subst hg
  repeat'(first|apply zE|apply zD|apply zC|refine jg ?_ ?_|refine jf ?_|apply zB|apply zW|apply zT|apply zJ|apply zU|exact jS|fail)
  all_goals first|exact jX|exact jG
theorem zYg (l:List Vr)(v:Value)(h:SH)(hv:Has h (zF vrF l) 7 l.length v)(hl:l.length<=1000) :
  zH Tryz.prog 222 [v,fnV 223] h λr q=>r=B (uq oU [] l)/\q=h:=by
 obtain⟨ad,fl,rfl,hh⟩:=hv;have hlb:=yK (f:=vrF) (w:=7) (λ_=>rfl) l;obtain⟨b,hb⟩:∃b,uq oU [] l=b:=⟨_,rfl⟩;rw[hb];refine yJ Tryz.func222 rfl rfl ?_
 repeat'(first|apply zE|apply zD|apply zC|refine jg ?_ ?_|(apply eN;exact rfl)|apply zB|apply zM|exact jS|intro A)
 all_goals try exact jX
 obtain⟨m,rfl⟩:∃m,m=A:=⟨_,rfl⟩;refine yH (S:=Nat × List (Int × List UInt8 × Bool × Int × Int)) (λx=>[(1,fnV 223),(5,.map (some m)),(9,.slice ad l.length fl),(10,I l.length),(11,I x.1)]) (λx=>(m,⟨rM ceF x.2,false⟩)::h) (λx=>x.1<=l.length/\uq oU x.2 (l.drop x.1)=b) (λx=>l.length-x.1) (0,[]) ⟨Nat.zero_le _,hb⟩ jB (by exact zA.nil) ?_;rintro⟨i,s⟩ ⟨hi,hg⟩;dsimp only at hi hg ⊢;by_cases hil:i<l.length
 ·obtain⟨A',ro,g1,rfl,hp⟩:=hh (by omega)
  have hX:=λh=>yNg l[i]! h;rw[zNr hil]at hg;obtain⟨c,hcc⟩:∃c,oU l[i]! = c:=⟨_,rfl⟩;rw[hcc]at hX hg
  repeat'(first|apply zE|apply zD|apply zC|(apply zKd (kf:=ceF) zK;exact rfl;exact pk;exact rfl;exact Tryz.underlying334;kernel_rfl;exact λ_ _=>rfl;exact ceEq;exact rfl;exact rfl)|(apply zVe (kf:=ceF);exact rfl;exact up;exact rfl;exact rfl;exact hc;exact Tryz.underlying334;kernel_rfl;exact λ_ _=>rfl;exact ceEq)|refine jg ?_ ?_|(apply ja;exact jH)|(apply jl;exact jI)|(apply js;exact jJ)|refine jy ?_|refine jq ?_ (c:=by exact⟨_,hX _,jN⟩)|refine jd ?_|(apply vA;exact rfl;all_goals intro hc)|apply zB|apply zV|apply zQ|apply xM|apply zL|apply zJ|apply zM|exact jO|((with_reducible apply Ln.mk);first|rfl|(simp[hlb];first|done|omega))|exact jW|exact jP|((with_reducible apply Su.mk);first|exact xY|exact xO (λ_=>rfl) (by omega))|exact True.intro|intro A|exact rfl)
  all_goals first
   |exact jX
   |(rw[if_pos hc]at hg
     subst hg
     (apply yA;(exact(show zO _ _ _ _ [_] from⟨rfl,trivial⟩));exact⟨rfl,rfl⟩;exact jT))
   |(rw[if_neg hc]at hg
     exact⟨(i+1,s++[c]),⟨hil,hg⟩,by show l.length-(i+1)<l.length-i;omega,jB,jT⟩)
 ·rw[List.drop_of_length_le (by omega)]at hg
  have hg:true=b:=hg;subst hg
  repeat'(first|apply zE|apply zD|apply zC|refine jg ?_ ?_|refine jf ?_|apply zB|apply zW|apply zT|apply zJ|apply zU|exact jS|fail)
  all_goals first|exact jX|exact jG

theorem aI {d:Nat}{fn:Func}{c:Code}{ps:Array Tmp}{as0 bd:Code}{r:List (Array Tmp × Code × Code)}(hf:Tryz.prog.funcs[d]?=some fn)(hb:fn.body=some c)(hr:qY c=(ps,as0,bd)::r):vO d=(ps,as0,bd,fn.ntmps):=by
 unfold vO;rw[hf];dsimp only;rw[hb];dsimp only;rw[hr]
inductive GrS (h:SH):List (List UInt8)->Value->SH->Prop
 |nil:GrS h [] (.slice none 0 0) h
 |some (A:Nat) (l:List (List UInt8)):GrS h l (gsl A 0 l.length l.length 1) ((A,⟨l.map sV,false⟩)::h)
theorem GrS.ofc {h:SH}{l:List (List UInt8)}{A n k:Nat}{c:List Value}(hc:c=l.map sV)(hn:l.length=n)(hk:k=n):GrS h l (gsl A 0 k n 1) ((A,⟨c,false⟩)::h):=by
 subst hc hn hk;exact .some A l
theorem GrS.sl {h q:SH}{l:List (List UInt8)}{u:Value}(g:GrS h l u q):∃ad fl,u=.slice ad l.length fl:=by
 cases g with
 |nil=>exact⟨_,_,rfl⟩
 |some A l=>exact⟨_,_,rfl⟩
theorem GrS.tk {h q:SH}{l:List (List UInt8)}{u:Value}(g:GrS h l u q):zA q h:=by
 cases g with
 |nil=>exact .nil
 |some A l=>exact .drop .nil
theorem yKn (L:List (List UInt8))(A fl:Nat)(h:SH)(hl:L.length<=100000) :
  zH Tryz.prog 174 [gsl A 0 L.length L.length fl] ((A,⟨L.map sV,false⟩)::h) λr q=>∃L':List (List UInt8),L'.length=L.length/\r=.tuple #[]/\q=(A,⟨L'.map sV,false⟩)::h:=by
 refine yG Tryz.func174 rfl rfl ?_
 repeat'(first|apply zE|apply zD|apply zC|refine jg ?_ ?_|(apply ja;exact jH)|apply zB|apply zM|exact jS|exact jW|fail)
 all_goals try exact jX
 refine yH (S:=Nat × Int × List (List UInt8)) (λx=>[(0,gsl A 0 L.length L.length fl),(2,I x.1),(3,I x.2.1)]) (λx=>(A,⟨x.2.2.map sV,false⟩)::h) (λx=>x.2.2.length=L.length/\(x.1:Int)+x.2.1=L.length-1) (λx=>L.length-x.1) (0,(L.length:Int)-1,L) ⟨rfl,by show((0:Nat):Int)+((L.length:Int)-1)=_;omega⟩ jB (by exact zA.nil) ?_;rintro⟨i,j,X⟩ ⟨hX,hij⟩;dsimp only at hX hij ⊢;by_cases hlt:(i:Int)<j
 ·obtain⟨k,rfl⟩:∃k:Nat,j=k:=⟨j.toNat,by omega⟩
  have hXl:(X.map sV).length=L.length:=by rw[List.length_map];exact hX
  have hc1:(X.map sV)[0+((i:Nat):Int).toNat*1]?=some (S X[i]!):=oO (f:=sV) (by omega);have hc2:(X.map sV)[0+((k:Nat):Int).toNat*1]?=some (S X[k]!):=oO (f:=sV) (by omega);have hs1:∀y,yD (X.map sV) (0+((i:Nat):Int).toNat*1) (S y) ((X.set i y).map sV):=λy=>fT (f:=sV) (by omega);have hs2:∀y z,yD ((X.set i y).map sV) (0+((k:Nat):Int).toNat*1) (S z) (((X.set i y).set k z).map sV):=λy z=>fT (f:=sV) (by rw[List.length_set];omega);have hYl:∀y,((X.set i y).map sV).length=L.length:=λy=>by rw[List.length_map,List.length_set];exact hX
  repeat'(first|apply zE|apply zD|apply zC|refine jr ?_|refine jg ?_ ?_|(apply ja;exact jH)|(apply jm;exact jI)|(apply yV zK;(iterate 4 exact rfl);exact up)|refine jd ?_|apply zB|apply zQ|apply zL|apply zM|exact jO|((with_reducible apply Ln.mk);first|exact hXl|exact hYl _)|exact jW|((with_reducible apply Ce.mk);first|exact hc1|exact hc2)|((with_reducible apply Se.mk);first|exact hs1 _|exact hs2 _ _)|exact True.intro|exact Or.inl rfl|apply And.intro|exact rfl)
  all_goals try exact jX
  exact⟨(i+1,(k:Int)-1,(X.set i X[k]!).set k X[i]!),⟨by show((X.set i X[k]!).set k X[i]!).length=_;rw[List.length_set,List.length_set];exact hX,by show((i+1:Nat):Int)+((k:Int)-1)=_;omega⟩,by show L.length-(i+1)<L.length-i;omega,jB,by exact zA.nil⟩
 ·repeat'(first|apply zE|apply zD|apply zC|refine jg ?_ ?_|(apply pT;exact rfl;exact ‹_›)|apply zB|apply zW|apply zT|apply zU|exact jS|fail)
  all_goals first|exact jX|(apply qQ;(exact(show zO _ _ _ _ [] from trivial));exact⟨X,hX,rfl,rfl⟩;exact jT)
theorem zYz (fl:Nat)(h:SH):zH Tryz.prog 174 [.slice none 0 fl] h λr q=>r=.tuple #[]/\q=h:=by
 refine yG Tryz.func174 rfl rfl ?_
 repeat'(first|apply zE|apply zD|apply zC|refine jg ?_ ?_|(apply ja;exact jH)|apply zB|apply zM|exact jS|exact jW|fail)
 all_goals try exact jX
 refine yH (S:=Unit) (λ_=>[(0,.slice none 0 fl),(2,I 0),(3,I (-1))]) (λ_=>h) (λ_=>True) (λ_=>0) () trivial jB jT ?_;rintro - -
 repeat'(first|apply zE|apply zD|apply zC|refine jg ?_ ?_|(apply zX;exact rfl)|apply zB|apply zW|apply zT|apply zU|exact jS|fail)
 all_goals first|exact jX|(apply qQ;(exact(show zO _ _ _ _ [] from trivial));exact⟨rfl,rfl⟩;exact jT)
theorem yCg :∃ac bd,vO 105=(#[10],ac,bd,22)/\∀(ss:List Scp) (b2 b5 A fl:Nat) (ad:Option Addr) (i:Nat) (O:List (List UInt8)) (u:Value) (q h:SH) (bi bs:Nat),i<ss.length->ss.length<=1000->O.length<=1000->Has h (zF scF ss) 3 ss.length (.slice ad ss.length fl)->GrS h O u q ->
  SWp Tryz.prog 22 ac (λe a1 h1=>e=.normal/\∃g1,zA h1 ((A,⟨yX 0 105 (.int .i64 0) [(2,zG b2 0 1),(5,zG b5 0 1)],false⟩)::g1) /\
   SWp Tryz.prog 22 bd (λe2 _ h2=>e2=.normal/\∃g2,zA h2 ((A,⟨yX 1 105 (.int .i64 0) [(2,zG b2 0 1),(5,zG b5 0 1)],false⟩)::g2)/\∃u' q',g2=(b5,⟨[u'],false⟩)::(b2,⟨[.slice ad ss.length fl],false⟩)::(bi,⟨[I i],false⟩)::(bs,⟨[.slice ad ss.length fl],false⟩)::q'/\GrS h (O++[ss[i]!.1]) u' q') a1
    ((A,⟨yX 1 105 (.int .i64 0) [(2,zG b2 0 1),(5,zG b5 0 1)],false⟩)::g1))
   [(10,I i),(2,zG b2 0 1),(5,zG b5 0 1)] ((A,⟨yX 0 105 (.int .i64 0) [(2,zG b2 0 1),(5,zG b5 0 1)],false⟩)::(b5,⟨[u],false⟩)::(b2,⟨[.slice ad ss.length fl],false⟩)::(bi,⟨[I i],false⟩)::(bs,⟨[.slice ad ss.length fl],false⟩)::q):=by
 refine⟨_,_,aI Tryz.func105 rfl rfl,?_⟩;intro ss b2 b5 A fl ad i O u q h bi bs hil hl hO hv hG;obtain⟨_,_,e,hh⟩:=hv;cases e;obtain⟨A',ro,g1,rfl,hp⟩:=hh (by omega);have hlb:=yK (f:=scF) (w:=3) (λ_=>rfl) ss
 repeat'(first|apply zD|apply zC|refine jg ?_ ?_|exact jS|apply And.intro|exact rfl)
 refine⟨_,zA.nil,?_⟩;cases hG with
 |nil =>
  repeat'(first|apply zC|refine jr ?_|refine jg ?_ ?_|(apply jm;exact jI)|(apply yV zK;(iterate 4 exact rfl);exact up)|refine jb ?_|(apply qD zK;(iterate 5 exact rfl);exact⟨by decide⟩;exact pk)|apply zQ|apply zM|exact jV|((with_reducible apply Ln.mk);first|rfl|(simp[hlb];first|done|omega))|((with_reducible apply Ce.mk);first|rfl|exact vL (λ_=>rfl) (by omega) (by decide) rfl)|((with_reducible apply Se.mk);first|(focus(repeat(first|exact yD.zero));done))|exact jU|exact True.intro|refine Rc.mk ⟨_,_,pk,?_⟩|exact Or.inl rfl|apply And.intro|apply Or.inr|intro A|exact rfl)
  exact⟨_,jT,gsl A 0 (1*1) 1 1,_,rfl,.ofc (n:=1) rfl rfl rfl⟩
 |some A3 _ =>
  have hob:(O.map sV).length=O.length:=List.length_map _
  repeat'(first|apply zC|refine jr ?_|refine jg ?_ ?_|(apply jm;exact jI)|(apply yV zK;(iterate 4 exact rfl);exact up)|refine jb ?_|(apply qK zK;(iterate 5 exact rfl);exact⟨by decide⟩;exact up;exact pk)|apply zQ|apply zM|exact jV|((with_reducible apply Ln.mk);first|rfl|omega|(simp[hlb,hob];first|done|omega))|((with_reducible apply Ce.mk);first|rfl|exact vL (λ_=>rfl) (by omega) (by decide) rfl)|((with_reducible apply Se.mk);first|(focus(repeat(first|exact yD.zero));done))|exact jU|exact True.intro|refine Rc.mk ⟨_,_,pk,?_⟩|exact Or.inl rfl|apply And.intro|apply Or.inr|intro A|exact rfl)
  exact⟨_,jT,_,_,rfl,.ofc (n:=O.length+1) (List.map_append ..).symm (by rw[List.length_append];rfl) (by omega)⟩
def rC :Nat->List Scp->Int->Nat
 |0,_,_=>0
 |k+1,ss,i=>if 0<=i then rC k ss ss[i.toNat]!.2.2+1 else 0
theorem yKy (ss:List Scp):∀(k:Nat) (i:Int),rC k ss i<=k:=by
 intro k
 induction k with
 |zero=>intro i;exact Nat.le_refl 0
 |succ k ih =>
  intro i;show(if 0<=i then rC k ss ss[i.toNat]!.2.2+1 else 0)<=k+1;split
  ·have:=ih ss[i.toNat]!.2.2;omega
  ·omega
def gJ (ss:List Scp):Prop:=∀i,i<ss.length->-1<=ss[i]!.2.2/\ss[i]!.2.2<(i:Int)
theorem yCl (ss:List Scp)(A b2 b5 bi bs fl i0:Nat)(ad:Option Addr)(h:SH)(hv:Has h (zF scF ss) 3 ss.length (.slice ad ss.length fl))(hl:ss.length<=1000)(hd:gJ ss)(hi0:i0<ss.length) :
  zH Tryz.prog 228 [.chan (some A),zG bi 0 1,zG bs 0 1] ((A,⟨yX 0 105 (.int .i64 0) [(2,zG b2 0 1),(5,zG b5 0 1)],false⟩)::(bi,⟨[I i0],false⟩)::(bs,⟨[.slice ad ss.length fl],false⟩)::(b5,⟨[.slice none 0 0],false⟩)::(b2,⟨[.slice ad ss.length fl],false⟩)::h)
   λ_ q=>∃g,q=(A,⟨yX 0 105 (.int .i64 0) [(2,zG b2 0 1),(5,zG b5 0 1)],false⟩)::g/\∃O u q',O.length=rC (ss.length+1) ss i0/\g=(b5,⟨[u],false⟩)::q'/\GrS h O u q':=by
 obtain⟨ac,bd,hLT,hround⟩:=yCg;have hlb:=yK (f:=scF) (w:=3) (λ_=>rfl) ss;refine wF Tryz.func228 rfl rfl ?_
 repeat'(first|apply zM)
 refine yH (S:=Int × List (List UInt8) × Value × SH × Nat) (λx=>[(0,.chan (some A)),(1,zG bi 0 1),(2,zG bs 0 1)])
  (λx=>(A,⟨yX 0 105 (.int .i64 0) [(2,zG b2 0 1),(5,zG b5 0 1)],false⟩)::(b5,⟨[x.2.2.1],false⟩)::(b2,⟨[.slice ad ss.length fl],false⟩)::(bi,⟨[I x.1],false⟩)::(bs,⟨[.slice ad ss.length fl],false⟩)::x.2.2.2.1)
  (λx=>-1<=x.1/\x.1<ss.length/\x.1<x.2.2.2.2/\x.2.2.2.2<=ss.length+1/\x.2.1.length+x.2.2.2.2<=ss.length+1/\GrS h x.2.1 x.2.2.1 x.2.2.2.1/\x.2.1.length+rC x.2.2.2.2 ss x.1=rC (ss.length+1) ss i0) (λx=>(x.1+1).toNat)
  (i0,[],.slice none 0 0,h,ss.length+1) ⟨by show(-1:Int)<=(i0:Int);omega,by show(i0:Int)<_;omega,by show(i0:Int)<((ss.length+1:Nat):Int);omega,Nat.le_refl _,by show 0+(ss.length+1)<=_;omega,.nil,Nat.zero_add _⟩ jB jT ?_
 rintro⟨c,O,u,q,k⟩ ⟨h1,h2,h3,h4,h5,hG,hdp⟩;dsimp only at h1 h2 h3 h4 h5 hG hdp ⊢;by_cases hc0:0<=c
 ·obtain⟨i,rfl⟩:∃i:Nat,c=i:=⟨c.toNat,by omega⟩
  have hr:=hround ss b2 b5 A fl ad i O u q h bi bs (by omega) hl (by omega) hv hG;obtain⟨_,_,e,hh⟩:=id hv;cases e;obtain⟨A',ro,g1,rfl,hp⟩:=hh (by omega);obtain⟨d1,d2⟩:=hd i (by omega);obtain⟨k,rfl⟩:∃m,k=m+1:=⟨k-1,by omega⟩;have hdp:O.length+(if 0<=(i:Int)then rC k ss ss[((i:Int)).toNat]!.2.2+1 else 0)=rC (ss.length+1) ss i0:=hdp;rw[if_pos hc0,Int.toNat_natCast]at hdp
  repeat'(first|apply zE|apply zD|apply zC|(apply zLt;(iterate 3 exact rfl);exact hLT;exact rfl;decide;exact hr;rintro g2 ⟨u',q',rfl,hG'⟩;obtain⟨h9,hp9,_⟩:=(GrS.tk hG').pick hp)|refine jg ?_ ?_|(apply yS;exact rfl;exact rfl)|(apply jm;exact jI)|(apply yV zK;(iterate 4 exact rfl);exact up)|(apply yO;exact rfl)|(apply zX;exact rfl)|apply zB|apply zQ|apply zL|apply zM|exact jO|((with_reducible apply Ln.mk);first|rfl|(simp[hlb];first|done|omega))|((with_reducible apply Ce.mk);first|rfl|exact vL (λ_=>rfl) (by omega) (by decide) rfl)|((with_reducible apply Se.mk);first|(focus(repeat(first|exact yD.zero));done))|exact True.intro|exact rfl)
  all_goals try exact jX
  exact⟨(ss[i]!.2.2,O++[ss[i]!.1],u',q',k),⟨d1,by show ss[i]!.2.2<(ss.length:Int);omega,by show ss[i]!.2.2<(k:Int);omega,by show k<=_;omega,by show(O++[ss[i]!.1]).length+k<=_;rw[List.length_append];show O.length+1+k<=_;omega,hG',by show(O++[ss[i]!.1]).length+rC k ss ss[i]!.2.2=_;rw[List.length_append,<-hdp];show O.length+1+rC k ss ss[i]!.2.2=_;omega⟩,by show(ss[i]!.2.2+1).toNat<((i:Int)+1).toNat;omega,jB,jT⟩
 ·obtain rfl:c=-1:=by omega
  have hz:rC k ss (-1)=0:=by cases k <;> rfl
  rw[hz]at hdp
  repeat'(first|apply zE|apply zD|apply zC|refine jg ?_ ?_|(apply jm;exact jI)|(apply zX;exact rfl)|apply zB|apply zW|apply zT|apply zU|exact jS|exact jL|exact jE|exact True.intro|exact rfl)
  all_goals try exact jX
  (apply qQ;(exact(show zO _ _ _ _ [] from trivial));exact⟨_,rfl,O,u,q,by omega,rfl,hG⟩;exact jT)
theorem yFi (v:Value)(i:Int)(h:SH)(hv:∃ad n fl,v=.slice ad n fl):zH Tryz.prog 173 [v,I i] h λr q=>∃bi bs,r=.func (.func 228) #[] #[zG bi 0 1,zG bs 0 1]/\q=(bi,⟨[I i],false⟩)::(bs,⟨[v],false⟩)::h:=by
 obtain⟨ad,n,fl,rfl⟩:=hv;refine yJ Tryz.func173 rfl rfl ?_
 repeat'(first|apply zE|apply zD|apply zC|refine jg ?_ ?_|refine jx ?_|(apply rK;iterate 3 exact rfl)|apply zB|apply zJ|exact jS|intro A)
 all_goals first|exact jX|exact jF (k:=by exact⟨_,_,rfl,rfl⟩)
theorem yEe (ss:List Scp)(i:Nat)(v:Value)(h:SH)(hv:Has h (zF scF ss) 3 ss.length v)(hl:ss.length<=1000)(hd:gJ ss)(hi:i<ss.length) :
  zH Tryz.prog 105 [v,I i] h λr q=>∃ad fl,r=.slice ad (rC (ss.length+1) ss i) fl/\q=h:=by
 obtain⟨ad,fl,rfl,-⟩:=id hv;have hU:=λh=>yFi (.slice ad ss.length fl) i h ⟨_,_,_,rfl⟩;refine zSe ?_;refine zQk Tryz.func105 rfl rfl ?_;refine uF (uE ?_)
 repeat'(first|apply zD|apply zC|refine jg ?_ ?_|refine jx ?_|apply zB|exact jS|intro A)
 refine uF (uE ?_)
 repeat'(first|apply zD|apply zC|refine jy ?_|apply zB|intro A)
 refine uF (uF (uE ?_))
 repeat'(first|apply zD|apply zC|refine jg ?_ ?_|(apply jm;exact jI)|(refine jc ?_ (c:=by exact⟨_,hU _,jN⟩);rintro _ _ ⟨bi,bs,rfl,rfl⟩)|apply zB|exact jS|exact jL|exact jE|exact True.intro|exact rfl)
 rename_i b2;obtain⟨b5,rfl⟩:∃m,m=A:=⟨_,rfl⟩;refine zIh (zTc (b:=[(2,zG b2 0 1),(5,zG b5 0 1)]) rfl (by kernel_rfl) (aI Tryz.func105 rfl rfl) ⟨rfl,rfl,trivial⟩ (λx hx=>by
  simp only[List.mem_cons,List.not_mem_nil,or_false]at hx;rcases hx with rfl|rfl
  ·exact(show 2<22 by decide)
  ·exact(show 5<22 by decide)) (λA=>yCl ss A b2 b5 bi bs fl i ad h hv hl hd hi) ?_)
 rintro g ⟨O,u,q',hO,rfl,hG⟩;apply zQ;apply zB;refine uE ?_;have hOl:O.length<=100000:=by
  have:=yKy ss (ss.length+1) i;omega
 cases hG with
 |nil =>
  repeat'(first|apply zE|apply zD|apply zC|refine jg ?_ ?_|(apply jm;exact jI)|(refine jc ?_ (c:=by exact⟨_,zYz 0 _,jN⟩);rintro _ _ ⟨rfl,rfl⟩)|apply zB|apply zJ|exact jS|exact jL|exact jE|exact True.intro|exact rfl)
  all_goals first|exact jX|exact jF (k:=by exact⟨h,⟨none,0,by rw[<-hO];rfl,rfl⟩,.nil⟩)
 |some A3 _ =>
  have hRv:=λh=>yKn O A3 1 h hOl
  repeat'(first|apply zE|apply zD|apply zC|refine jg ?_ ?_|(apply jm;exact jI)|(refine jc ?_ (c:=by exact⟨_,hRv _,jC⟩);rintro _ _ ⟨O',hO',rfl,rfl⟩)|apply zB|apply zJ|exact jS|exact jL|exact jE|exact True.intro|exact rfl)
  all_goals first|exact jX|exact jF (k:=by exact⟨h,⟨_,_,by rw[<-hO];rfl,rfl⟩,.nil⟩)
end Go.Proofs.YtbidadebolllkaaGreatDoor
end
