/- Part 3 of the proof of the law TopDamage: texts merged. No condition. -/
import Derived.Test.YteddogfolceahaaGreatZTopDamageB
import Derived.Test.YteddogfolceahaaGreatProg
import Derived.KernelRfl
set_option linter.unusedSimpArgs false
set_option linter.unusedVariables false
section
set_option maxRecDepth 4000
namespace Go.Gh
open Go.RowKit

inductive TK |bool|int (k:IntKind)|str|slice (E:Nat)|ptr (E:Nat)|arr (n E:Nat)|st (fs:List (Nat × Nat))|other
structure TE where
 k:TK
 sz:Nat
 by':Nat
 z:Option Value
inductive TT |leaf|node (l:TT) (t:Nat) (e:TE) (r:TT)
def TT.get :TT→Nat→Option TE
 |.leaf,_=>none
 |.node l t e r,n=>bif Nat.blt n t then l.get n else bif Nat.beq n t then some e else r.get n
def tkOf :TypeDesc→TK
 |.bool=>.bool
 |.int k=>.int k
 |.string=>.str
 |.slice E=>.slice E
 |.pointer E=>.ptr E
 |.array n E=>.arr n E
 |.struct fs=>.st (fs.toList.map fun f=>(f.type,f.offset))
 |_=>.other
def zO (P:Program)(t:Nat):Option TE:=match P.underlying t,P.info? t with
 |some d,some i=>some ⟨tkOf d,i.size,i.bytes,bif Nat.ble i.size 300 then i.zero else none⟩
 |_,_=>none
def TT.Ok (P:Program):TT→Prop
 |.leaf=>True
 |.node l t e r=>l.Ok P∧zO P t=some e∧r.Ok P
theorem TT.get_ok {P:Program}:∀{tt:TT} {t:Nat} {e:TE},tt.Ok P→tt.get t=some e→zO P t=some e
 |.leaf,_,_,_,h=>by cases h
 |.node l s e' r,t,e,k,h=>by
  unfold TT.get at h
  cases hb:Nat.blt t s with
  |true=>rw[hb]at h;exact TT.get_ok k.1 h
  |false =>
   rw[hb]at h
   cases hc:Nat.beq t s with
   |true =>
    rw[hc]at h
    simp only[cond_false,cond_true,Option.some.injEq]at h
    rw[Nat.eq_of_beq_eq_true hc,←h];exact k.2.1
   |false=>rw[hc]at h;exact TT.get_ok k.2.2 h
section
variable {P:Program} {t:Nat} {e:TE}
theorem te_desc (h:zO P t=some e):∃d,P.underlying t=some d∧tkOf d=e.k:=by
 unfold zO at h
 split at h
 ·rename_i d i h1 h2;simp only[Option.some.injEq]at h;subst h;exact⟨d,h1,rfl⟩
 ·cases h
theorem te_inf (h:zO P t=some e):∃z,tinf P t=some (z,e.sz,e.by')∧(∀v,e.z=some v→z=some v):=by
 unfold zO at h
 split at h
 ·rename_i d i h1 h2
  simp only[Option.some.injEq]at h;subst h
  refine⟨i.zero,by simp[tinf,h2],fun v hv=>?_⟩
  simp only at hv
  cases hb:Nat.ble i.size 300 with
  |true=>rw[hb]at hv;exact hv
  |false=>rw[hb]at hv;cases hv
 ·cases h
theorem te_bool (h:zO P t=some e)(hk:e.k=.bool):P.underlying t=some .bool:=by
 obtain⟨d,h1,h2⟩:=te_desc h;rw[hk]at h2;cases d <;> first|(cases h2;done)|exact h1
theorem te_int {k:IntKind}(h:zO P t=some e)(hk:e.k=.int k):P.underlying t=some (.int k):=by
 obtain⟨d,h1,h2⟩:=te_desc h;rw[hk]at h2;cases d <;> first|(cases h2;done)|(cases h2;exact h1)
theorem te_str (h:zO P t=some e)(hk:e.k=.str):P.underlying t=some .string:=by
 obtain⟨d,h1,h2⟩:=te_desc h;rw[hk]at h2;cases d <;> first|(cases h2;done)|exact h1
theorem te_slice {E:Nat}(h:zO P t=some e)(hk:e.k=.slice E):P.underlying t=some (.slice E):=by
 obtain⟨d,h1,h2⟩:=te_desc h;rw[hk]at h2;cases d <;> first|(cases h2;done)|(cases h2;exact h1)
theorem te_ptr {E:Nat}(h:zO P t=some e)(hk:e.k=.ptr E):P.underlying t=some (.pointer E):=by
 obtain⟨d,h1,h2⟩:=te_desc h;rw[hk]at h2;cases d <;> first|(cases h2;done)|(cases h2;exact h1)
theorem te_arr {n E:Nat}(h:zO P t=some e)(hk:e.k=.arr n E):P.underlying t=some (.array n E):=by
 obtain⟨d,h1,h2⟩:=te_desc h;rw[hk]at h2;cases d <;> first|(cases h2;done)|(cases h2;exact h1)
theorem te_st {fs:List (Nat × Nat)}(h:zO P t=some e)(hk:e.k=.st fs):∃fl:Array Field,P.underlying t=some (.struct fl)∧fl.toList.map (fun f=>(f.type,f.offset))=fs:=by
 obtain⟨d,h1,h2⟩:=te_desc h;rw[hk]at h2;cases d <;> first|(cases h2;done)|(rename_i fl;refine⟨fl,h1,?_⟩;simp only[tkOf]at h2;exact TK.st.inj h2)
theorem te_field {fs:List (Nat × Nat)}{f F fo:Nat}(h:zO P t=some e)(hk:e.k=.st fs)(hf:fs[f]?=some (F,fo)):fieldOf P t f=some (F,fo):=by
 obtain⟨fl,h1,h2⟩:=te_st h hk
 unfold fieldOf
 rw[h1]
 simp only
 rw[←h2,List.getElem?_map,Array.getElem?_toList]at hf
 exact hf
def TK.agg :TK→Bool
 |.st _|.arr _ _=>true
 |_=>false
theorem te_agg (h:zO P t=some e):aggT P t=some e.k.agg:=by
 obtain⟨d,h1,h2⟩:=te_desc h
 unfold aggT
 rw[h1,←h2]
 cases d <;> rfl
end

def ikn :IntKind→Nat
 |.i8=>0|.i16=>1|.i32=>2|.i64=>3|.u8=>4|.u16=>5|.u32=>6|.u64=>7
def ikb (k k':IntKind):Bool:=Nat.beq (ikn k) (ikn k')
theorem ikb_eq {k k':IntKind}(h:ikb k k'=true):k=k':=by
 cases k <;> cases k' <;> first|rfl|(cases h)

abbrev PV :=Option (Prop × Value)
def pv (v:Value):PV:=some (True,v)
def gbin (tt:TT)(T:Nat)(op:BinOp):Value→Value→PV
 |.int k m,.int k' n=>bif ikb k k' then(match op with
  |.lss=>pv (.bool (decide (m<n)))|.leq=>pv (.bool (decide (m≤n)))|.gtr=>pv (.bool (decide (n<m)))|.geq=>pv (.bool (decide (n≤m)))
  |.eql=>pv (.bool (decide (m=n)))|.neq=>pv (.bool (decide (m≠n)))|_=>none)else none
 |.string ⟨⟨l⟩⟩,.string ⟨⟨m⟩⟩=>match op with
  |.add=>some (l.length+m.length≤9223372036854775807,S (l++m))|.eql=>pv (.bool (decide (l=m)))|.neq=>pv (.bool (decide (l≠m)))
  |.lss=>pv (.bool (Op.bytesLess l m))|.gtr=>pv (.bool (!(Op.bytesLess l m || (l == m))))|_=>none
 |.bool m,.bool n=>match tt.get T with
  |some ⟨.bool,_,_,_⟩=>(match op with|.eql=>pv (.bool (decide (m=n)))|.neq=>pv (.bool (decide (m≠n)))|_=>none)
  |_=>none
 |.pointer ad,.pointer none=>match tt.get T with
  |some ⟨.ptr _,_,_,_⟩=>(match op with|.eql=>pv (.bool ad.isNone)|.neq=>pv (.bool ad.isSome)|_=>none)
  |_=>none
 |_,_=>none
def glen (tt:TT)(T:Nat):Value→PV
 |.string ⟨⟨l⟩⟩=>(match tt.get T with|some ⟨.str,_,_,_⟩=>pv (I l.length)|_=>none)
 |.slice _ n _=>(match tt.get T with|some ⟨.slice _,_,_,_⟩=>pv (I n)|_=>none)
 |_=>none
def gslc (tt:TT)(T:Nat):Value→Option Value→Option Value→PV
 |.string ⟨⟨l⟩⟩,some (.int _ i),some (.int _ n)=>(match tt.get T with|some ⟨.str,_,_,_⟩=>some (0≤i∧i≤n∧n≤l.length,S ((l.take n.toNat).drop i.toNat))|_=>none)
 |.string ⟨⟨l⟩⟩,some (.int _ i),none=>(match tt.get T with|some ⟨.str,_,_,_⟩=>some (0≤i∧i≤l.length,S (l.drop i.toNat))|_=>none)
 |.string ⟨⟨l⟩⟩,none,some (.int _ n)=>(match tt.get T with|some ⟨.str,_,_,_⟩=>some (0≤n∧n≤l.length,S (l.take n.toNat))|_=>none)
 |.slice (some ⟨A,off,some n⟩) len _,some (.int _ i),some (.int _ h)=>(match tt.get T with
  |some ⟨.slice E,_,_,_⟩=>(match tt.get E with|some ⟨_,s,_,_⟩=>some ((0≤i∧i≤h∧h≤len)∧(i<h∨i=0),gsl A (off+i.toNat*s) n (h-i).toNat 0)|none=>none)|_=>none)
 |.slice (some ⟨A,off,some n⟩) len _,some (.int _ i),none=>(match tt.get T with
  |some ⟨.slice E,_,_,_⟩=>(match tt.get E with|some ⟨_,s,_,_⟩=>some ((0≤i∧i≤len)∧(i<len∨i=0),gsl A (off+i.toNat*s) n (len-i.toNat) 0)|none=>none)|_=>none)
 |.slice (some ⟨A,off,some n⟩) len _,none,some (.int _ h)=>(match tt.get T with
  |some ⟨.slice E,_,_,_⟩=>(match tt.get E with|some _=>some (0≤h∧h≤len,gsl A off n h.toNat 0)|none=>none)|_=>none)
 |.pointer (some ⟨A,off,some n⟩),none,none=>(match tt.get T with
  |some ⟨.arr len E,_,_,_⟩=>(match tt.get E with|some _=>some (len≤maxLen,gsl A off n len 0)|none=>none)|_=>none)
 |.pointer (some ⟨A,off,some n⟩),none,some (.int _ h)=>(match tt.get T with
  |some ⟨.arr len E,_,_,_⟩=>(match tt.get E with|some _=>some ((0≤h∧h≤len)∧len≤maxLen,gsl A off n h.toNat 0)|none=>none)|_=>none)
 |_,_,_=>none
def gidx (tt:TT)(T:Nat):Value→Value→PV
 |.string ⟨⟨l⟩⟩,.int _ i=>(match tt.get T with|some ⟨.str,_,_,_⟩=>some (0≤i∧i<l.length,.int .u8 (bat l i))|_=>none)
 |.agg ⟨vs⟩,.int _ i=>(match tt.get T with
  |some ⟨.arr len E,_,_,_⟩=>(match tt.get E with
   |some ⟨k,1,_,_⟩=>(match k.agg,Nat.ble len vs.length with|false,true=>some (0≤i∧i<len,vs.getD i.toNat (.bool false))|_,_=>none)
   |_=>none)
  |_=>none)
 |_,_=>none
def gidxA (tt:TT)(T:Nat):Value→Value→PV
 |.slice (some ⟨A,off,some n⟩) len _,.int _ i=>(match tt.get T with
  |some ⟨.slice E,_,_,_⟩=>(match tt.get E with|some ⟨_,s,_,_⟩=>some (0≤i∧i<len,gptr A (off+i.toNat*s) n)|none=>none)|_=>none)
 |.pointer (some ⟨A,off,some n⟩),.int _ i=>(match tt.get T with
  |some ⟨.arr len E,_,_,_⟩=>(match tt.get E with|some ⟨_,s,_,_⟩=>some (0≤i∧i<len,gptr A (off+i.toNat*s) n)|none=>none)|_=>none)
 |_,_=>none
def gfldA (tt:TT)(T f:Nat):Value→PV
 |.pointer (some ⟨A,off,some n⟩)=>(match tt.get T with
  |some ⟨.st fs,_,_,_⟩=>(match fs[f]? with
   |some (F,fo)=>(match tt.get F with|some ⟨_,s+1,_,_⟩=>pv (gptr A (off+fo) n)|_=>none)
   |none=>none)
  |_=>none)
 |_=>none
def gfld (tt:TT)(T f:Nat):Value→PV
 |.agg ⟨vs⟩=>(match tt.get T with
  |some ⟨.st fs,_,_,_⟩=>(match fs[f]? with
   |some (F,fo)=>(match tt.get F with
    |some e=>(match e.k.agg with|false=>(match vs[fo]? with|some v=>pv v|none=>none)|true=>none)
    |none=>none)
   |none=>none)
  |_=>none)
 |_=>none
def gext (i:Nat):Value→PV
 |.tuple ⟨vs⟩=>(match vs[i]? with|some v=>pv v|none=>none)
 |_=>none
def gnil :Value→PV
 |.pointer (some ad)=>pv (.pointer (some ad))
 |.func (.func f) us vs=>pv (.func (.func f) us vs)
 |_=>none
def ob {α β:Type}:Option α→(α→Option β)→Option β
 |some v,f=>f v
 |none,_=>none
theorem ob_some {α β:Type}{x:Option α}{f:α→Option β}{y:β}(h:ob x f=some y):∃v,x=some v∧f v=some y:=by
 cases x with
 |none=>cases h
 |some v=>exact⟨v,rfl,h⟩
def oo (a:AF):Option Operand→Option (Option Value)
 |none=>some none
 |some x=>match ev a x with|some v=>some (some v)|none=>none

def gpure (tt:TT)(a:AF):Op→PV
 |.move x|.assign x=>(match ev a x with|some v=>pv v|none=>none)
 |.pick c x y=>(match ev a c with
  |some (.bool b)=>(match b with
   |true=>(match ev a x with|some v=>pv v|none=>none)
   |false=>(match ev a y with|some v=>pv v|none=>none))
  |_=>none)
 |.binOp op T x y _=>ob (ev a x) fun u=>ob (ev a y) fun v=>gbin tt T op u v
 |.index T x y=>ob (ev a x) fun u=>ob (ev a y) fun v=>gidx tt T u v
 |.indexAddr T x y=>ob (ev a x) fun u=>ob (ev a y) fun v=>gidxA tt T u v
 |.fieldAddr T x f=>ob (ev a x) fun u=>gfldA tt T f u
 |.field T x f=>ob (ev a x) fun u=>gfld tt T f u
 |.extract x i=>ob (ev a x) fun u=>gext i u
 |.nilCheck x=>ob (ev a x) fun u=>gnil u
 |.slice T x lo hi none=>ob (ev a x) fun u=>ob (oo a lo) fun l=>ob (oo a hi) fun h=>gslc tt T u l h
 |.call ⟨.builtin .len,⟨[x]⟩,⟨[T]⟩⟩=>ob (ev a x) fun u=>glen tt T u
 |_=>none
def gar2 (op:BinOp):Value→Value→Option (Prop × IntKind × Int)
 |.int k m,.int k' n=>(match op with
   |.add=>bif ikb k k' then some (True,k,m+n)else none
   |.sub=>bif ikb k k' then some (True,k,m-n)else none
   |.mul=>bif ikb k k' then some (True,k,m*n)else none
   |.quo=>bif ikb k k' then some (n≠0,k,m.tdiv n)else none
   |.and=>bif ikb k k' then some (True,k,((BitVec.ofInt k.bits m&&&BitVec.ofInt k.bits n).toNat:Int))else none
   |.or=>bif ikb k k' then some (True,k,((BitVec.ofInt k.bits m ||| BitVec.ofInt k.bits n).toNat:Int))else none
   |.xor=>bif ikb k k' then some (True,k,((BitVec.ofInt k.bits m^^^BitVec.ofInt k.bits n).toNat:Int))else none
   |.shl=>some (0≤n,k,m*2^(min n.toNat k.bits))
   |_=>none)
 |_,_=>none
def gcon (tt:TT)(T U:Nat):Value→Option (Prop × IntKind × Int)
 |.int _ n=>(match tt.get T,tt.get U with|some _,some ⟨.int k,_,_,_⟩=>some (True,k,n)|_,_=>none)
 |_=>none
def gneg :Value→Option (Prop × IntKind × Int)
 |.int k n=>some (True,k,0-n)
 |_=>none
def garith (tt:TT)(a:AF):Op→Option (Prop × IntKind × Int)
 |.binOp op _ x y _=>ob (ev a x) fun u=>ob (ev a y) fun v=>gar2 op u v
 |.unOp .neg _ x=>ob (ev a x) fun u=>gneg u
 |.convert T U x=>ob (ev a x) fun u=>gcon tt T U u
 |_=>none
def gex2 (op:BinOp):Value→Value→Option (Prop × IntKind × Int)
 |.int k m,.int k' n=>(match op with
   |.rem=>bif ikb k k' then some (n≠0,k,m.tmod n)else none
   |.shr=>some (0≤n,k,m/2^(min n.toNat k.bits))
   |_=>none)
 |_,_=>none
def gexact (a:AF):Op→Option (Prop × IntKind × Int)
 |.binOp op _ x y _=>ob (ev a x) fun u=>ob (ev a y) fun v=>gex2 op u v
 |_=>none

section
variable {P:Program} {tt:TT} {N:Fr} {a:AF} {H:Heap} {t:Nat} {op:Op} {ty:TypeId} {pos:String} {aft:Array Edge} {p:Prop} {v:Value}

theorem pv_some {u v:Value}{p:Prop}(h:pv u=some (p,v)):v=u:=by simp only[pv,Option.some.injEq,Prod.mk.injEq]at h;exact h.2.symm

theorem gbin_ok (ht:tt.Ok P){o:BinOp}{T U:Nat}{x y:Operand}{u w:Value}(hx:ev a x=some u)(hy:ev a y=some w)(h:gbin tt T o u w=some (p,v))(hp:p) :
  APure P N ⟨some t,.binOp o T x y U,ty,pos,aft,none⟩ a H v:=by
 unfold gbin at h
 split at h
 ·rename_i k m k' n
  cases hk:ikb k k' with
  |false=>rw[hk]at h;cases h
  |true =>
   rw[hk]at h
   obtain rfl:=ikb_eq hk
   simp only[cond_true]at h
   cases o <;> simp only[reduceCtorEq]at h <;> obtain rfl:=pv_some h
   ·exact a_eql T U x y rfl hx hy
   ·exact a_neq T U x y rfl hx hy
   ·exact a_lss T U x y rfl hx hy
   ·exact a_leq T U x y rfl hx hy
   ·exact a_gtr T U x y rfl hx hy
   ·exact a_geq T U x y rfl hx hy
 ·cases o <;> simp only[reduceCtorEq]at h
  ·simp only[Option.some.injEq,Prod.mk.injEq]at h
   obtain⟨rfl,rfl⟩:=h
   exact a_sadd T U x y rfl hx hy hp
  ·obtain rfl:=pv_some h;exact a_seql T U x y rfl hx hy
  ·obtain rfl:=pv_some h;exact a_sneq T U x y rfl hx hy
  ·obtain rfl:=pv_some h;exact a_slss T U x y rfl hx hy
  ·obtain rfl:=pv_some h;exact a_sgtr T U x y rfl hx hy
 ·split at h
  ·rename_i h1
   have hb:=te_bool (TT.get_ok ht h1) rfl
   cases o <;> simp only[reduceCtorEq]at h <;> obtain rfl:=pv_some h
   ·exact a_beql T U x y rfl hx hy hb
   ·exact a_bneq T U x y rfl hx hy hb
  ·cases h
 ·split at h
  ·rename_i h1
   have hb:=te_ptr (TT.get_ok ht h1) rfl
   cases o <;> simp only[reduceCtorEq]at h <;> obtain rfl:=pv_some h
   ·exact a_pnil T U x y rfl hx hy hb
   ·exact a_pnotnil T U x y rfl hx hy hb
  ·cases h
 ·cases h

theorem oo_none {a:AF}{lo:Option Operand}(h:oo a lo=some none):lo=none:=by
 cases lo with
 |none=>rfl
 |some x=>simp only[oo]at h;split at h <;> cases h
theorem oo_some {a:AF}{lo:Option Operand}{v:Value}(h:oo a lo=some (some v)):∃x,lo=some x∧ev a x=some v:=by
 cases lo with
 |none=>cases h
 |some x =>
  simp only[oo]at h
  split at h
  ·rename_i u hu;simp only[Option.some.injEq]at h;exact⟨x,rfl,by rw[hu,h]⟩
  ·cases h

theorem gslc_ok (ht:tt.Ok P){T:Nat}{x:Operand}{lo hi:Option Operand}{u:Value}{ol oh:Option Value}(hx:ev a x=some u)(hl:oo a lo=some ol)(hh:oo a hi=some oh)(h:gslc tt T u ol oh=some (p,v))(hp:p) :
  APure P N ⟨some t,.slice T x lo hi none,ty,pos,aft,none⟩ a H v:=by
 unfold gslc at h
 split at h
 ·obtain⟨xl,rfl,e1⟩:=oo_some hl
  obtain⟨xh,rfl,e2⟩:=oo_some hh
  split at h
  ·rename_i h1
   simp only[Option.some.injEq,Prod.mk.injEq]at h;obtain⟨rfl,rfl⟩:=h
   exact a_sslice T x xl xh rfl hx e1 e2 (te_str (TT.get_ok ht h1) rfl) hp
  ·cases h
 ·obtain⟨xl,rfl,e1⟩:=oo_some hl
  obtain rfl:=oo_none hh
  split at h
  ·rename_i h1
   simp only[Option.some.injEq,Prod.mk.injEq]at h;obtain⟨rfl,rfl⟩:=h
   exact a_sfrom T x xl rfl hx e1 (te_str (TT.get_ok ht h1) rfl) hp
  ·cases h
 ·obtain rfl:=oo_none hl
  obtain⟨xh,rfl,e2⟩:=oo_some hh
  split at h
  ·rename_i h1
   simp only[Option.some.injEq,Prod.mk.injEq]at h;obtain⟨rfl,rfl⟩:=h
   exact a_sto T x xh rfl hx e2 (te_str (TT.get_ok ht h1) rfl) hp
  ·cases h
 ·obtain⟨xl,rfl,e1⟩:=oo_some hl
  obtain⟨xh,rfl,e2⟩:=oo_some hh
  split at h
  ·rename_i h1
   split at h
   ·rename_i h2
    simp only[Option.some.injEq,Prod.mk.injEq]at h;obtain⟨rfl,rfl⟩:=h
    obtain⟨z,hI,_⟩:=te_inf (TT.get_ok ht h2)
    exact a_cut T x xl xh rfl hx e1 e2 (te_slice (TT.get_ok ht h1) rfl) hI hp.1 hp.2
   ·cases h
  ·cases h
 ·obtain⟨xl,rfl,e1⟩:=oo_some hl
  obtain rfl:=oo_none hh
  split at h
  ·rename_i h1
   split at h
   ·rename_i h2
    simp only[Option.some.injEq,Prod.mk.injEq]at h;obtain⟨rfl,rfl⟩:=h
    obtain⟨z,hI,_⟩:=te_inf (TT.get_ok ht h2)
    exact a_cutfrom T x xl rfl hx e1 (te_slice (TT.get_ok ht h1) rfl) hI hp.1 hp.2
   ·cases h
  ·cases h
 ·obtain rfl:=oo_none hl
  obtain⟨xh,rfl,e2⟩:=oo_some hh
  split at h
  ·rename_i h1
   split at h
   ·rename_i h2
    simp only[Option.some.injEq,Prod.mk.injEq]at h;obtain⟨rfl,rfl⟩:=h
    obtain⟨z,hI,_⟩:=te_inf (TT.get_ok ht h2)
    exact a_cutto T x xh rfl hx e2 (te_slice (TT.get_ok ht h1) rfl) hI hp
   ·cases h
  ·cases h
 ·obtain rfl:=oo_none hl
  obtain rfl:=oo_none hh
  split at h
  ·rename_i h1
   split at h
   ·rename_i h2
    simp only[Option.some.injEq,Prod.mk.injEq]at h;obtain⟨rfl,rfl⟩:=h
    obtain⟨z,hI,_⟩:=te_inf (TT.get_ok ht h2)
    exact a_arrall T x rfl hx (te_arr (TT.get_ok ht h1) rfl) hI hp
   ·cases h
  ·cases h
 ·obtain rfl:=oo_none hl
  obtain⟨xh,rfl,e2⟩:=oo_some hh
  split at h
  ·rename_i h1
   split at h
   ·rename_i h2
    simp only[Option.some.injEq,Prod.mk.injEq]at h;obtain⟨rfl,rfl⟩:=h
    obtain⟨z,hI,_⟩:=te_inf (TT.get_ok ht h2)
    exact a_arrto T x xh rfl hx e2 (te_arr (TT.get_ok ht h1) rfl) hI hp.1 hp.2
   ·cases h
  ·cases h
 ·cases h

theorem gpure_ok (ht:tt.Ok P)(h:gpure tt a op=some (p,v))(hp:p):APure P N ⟨some t,op,ty,pos,aft,none⟩ a H v:=by
 unfold gpure at h
 split at h
 ·split at h
  ·rename_i hx;obtain rfl:=pv_some h;exact a_move _ rfl hx
  ·cases h
 ·split at h
  ·rename_i hx;obtain rfl:=pv_some h;exact a_assign _ rfl hx
  ·cases h
 ·rename_i c x y
  split at h
  ·rename_i hc
   split at h
   ·split at h
    ·rename_i hx;obtain rfl:=pv_some h;exact a_pick_true c x y rfl hc rfl hx
    ·cases h
   ·split at h
    ·rename_i hx;obtain rfl:=pv_some h;exact a_pick_false c x y rfl hc rfl hx
    ·cases h
  ·cases h
 ·obtain⟨u,hx,h⟩:=ob_some h
  obtain⟨w,hy,h⟩:=ob_some h
  exact gbin_ok ht hx hy h hp
 ·obtain⟨u,hx,h⟩:=ob_some h
  obtain⟨w,hy,h⟩:=ob_some h
  unfold gidx at h
  split at h
  ·split at h
   ·rename_i h1
    simp only[Option.some.injEq,Prod.mk.injEq]at h;obtain⟨rfl,rfl⟩:=h
    exact a_sidx _ _ _ rfl hx hy (te_str (TT.get_ok ht h1) rfl) hp
   ·cases h
  ·split at h
   ·rename_i h1
    split at h
    ·rename_i h2
     split at h
     ·rename_i h3 h4
      simp only[Option.some.injEq,Prod.mk.injEq]at h;obtain⟨rfl,rfl⟩:=h
      obtain⟨z,hI,_⟩:=te_inf (TT.get_ok ht h2)
      have hlen:=Nat.le_of_ble_eq_true h4
      refine a_aindex _ _ _ rfl hx hy (te_arr (TT.get_ok ht h1) rfl) (by rw[te_agg (TT.get_ok ht h2)];exact congrArg some h3) hI hp ?_
      rw[List.getD_eq_getElem?_getD,List.getElem?_eq_getElem (by omega)];rfl
     ·cases h
    ·cases h
   ·cases h
  ·cases h
 ·obtain⟨u,hx,h⟩:=ob_some h
  obtain⟨w,hy,h⟩:=ob_some h
  unfold gidxA at h
  split at h
  ·split at h
   ·rename_i h1
    split at h
    ·rename_i h2
     simp only[Option.some.injEq,Prod.mk.injEq]at h;obtain⟨rfl,rfl⟩:=h
     obtain⟨z,hI,_⟩:=te_inf (TT.get_ok ht h2)
     exact a_idxAddr _ _ _ rfl hx hy (te_slice (TT.get_ok ht h1) rfl) hI hp
    ·cases h
   ·cases h
  ·split at h
   ·rename_i h1
    split at h
    ·rename_i h2
     simp only[Option.some.injEq,Prod.mk.injEq]at h;obtain⟨rfl,rfl⟩:=h
     obtain⟨z,hI,_⟩:=te_inf (TT.get_ok ht h2)
     exact a_aidxAddr _ _ _ rfl hx hy (te_arr (TT.get_ok ht h1) rfl) hI hp
    ·cases h
   ·cases h
  ·cases h
 ·obtain⟨u,hx,h⟩:=ob_some h
  unfold gfldA at h
  split at h
  ·split at h
   ·rename_i h1
    split at h
    ·rename_i h2
     split at h
     ·rename_i h3
      obtain rfl:=pv_some h
      obtain⟨z,hI,_⟩:=te_inf (TT.get_ok ht h3)
      exact a_fieldAddr _ _ _ rfl hx (te_field (TT.get_ok ht h1) rfl h2) hI (by simp)
     ·cases h
    ·cases h
   ·cases h
  ·cases h
 ·obtain⟨u,hx,h⟩:=ob_some h
  unfold gfld at h
  split at h
  ·split at h
   ·rename_i h1
    split at h
    ·rename_i h2
     split at h
     ·rename_i h3
      split at h
      ·rename_i h4
       split at h
       ·rename_i h5
        obtain rfl:=pv_some h
        exact a_field _ _ _ rfl hx (te_field (TT.get_ok ht h1) rfl h2) (by rw[te_agg (TT.get_ok ht h3),h4]) h5
       ·cases h
      ·cases h
     ·cases h
    ·cases h
   ·cases h
  ·cases h
 ·obtain⟨u,hx,h⟩:=ob_some h
  unfold gext at h
  split at h
  ·split at h
   ·rename_i h1
    obtain rfl:=pv_some h
    exact a_extract _ _ rfl hx (by simpa using h1)
   ·cases h
  ·cases h
 ·obtain⟨u,hx,h⟩:=ob_some h
  unfold gnil at h
  split at h
  ·obtain rfl:=pv_some h;exact a_nilCheck _ rfl hx
  ·obtain rfl:=pv_some h;exact a_nilCheckF _ rfl hx
  ·cases h
 ·obtain⟨u,hx,h⟩:=ob_some h
  obtain⟨l,hl,h⟩:=ob_some h
  obtain⟨w,hw,h⟩:=ob_some h
  exact gslc_ok ht hx hl hw h hp
 ·obtain⟨u,hx,h⟩:=ob_some h
  unfold glen at h
  split at h
  ·split at h
   ·rename_i h1
    obtain rfl:=pv_some h;exact a_slen _ _ rfl hx (te_str (TT.get_ok ht h1) rfl)
   ·cases h
  ·split at h
   ·rename_i h1
    obtain rfl:=pv_some h;exact a_len _ _ rfl hx (te_slice (TT.get_ok ht h1) rfl)
   ·cases h
  ·cases h
 ·cases h

variable {k:IntKind} {e r:Int}
theorem ikb_some {k1 k2:IntKind}{q:Prop}{x:Int}(hq:(bif ikb k1 k2 then some (q,k1,x)else none)=some (p,k,e)):k1=k2∧q=p∧k1=k∧x=e:=by
 cases hb:ikb k1 k2 with
 |false=>rw[hb]at hq;cases hq
 |true=>rw[hb]at hq;simp only[cond_true,Option.some.injEq,Prod.mk.injEq]at hq;exact⟨ikb_eq hb,hq.1,hq.2.1,hq.2.2⟩
theorem gar2_ok {o:BinOp}{T U:Nat}{x y:Operand}{u w:Value}(hx:ev a x=some u)(hy:ev a y=some w)(h:gar2 o u w=some (p,k,e))(hp:p)(hr:k.wrap e=r) :
  APure P N ⟨some t,.binOp o T x y U,ty,pos,aft,none⟩ a H (.int k r):=by
 unfold gar2 at h
 split at h
 ·cases o <;> simp only[reduceCtorEq]at h
  ·obtain⟨rfl,rfl,rfl,rfl⟩:=ikb_some h;exact a_add _ _ _ _ rfl hx hy hr
  ·obtain⟨rfl,rfl,rfl,rfl⟩:=ikb_some h;exact a_sub _ _ _ _ rfl hx hy hr
  ·obtain⟨rfl,rfl,rfl,rfl⟩:=ikb_some h;exact a_mul _ _ _ _ rfl hx hy hr
  ·obtain⟨rfl,rfl,rfl,rfl⟩:=ikb_some h;exact a_quo _ _ _ _ rfl hx hy hp hr
  ·obtain⟨rfl,rfl,rfl,rfl⟩:=ikb_some h;exact a_and _ _ _ _ rfl hx hy hr
  ·obtain⟨rfl,rfl,rfl,rfl⟩:=ikb_some h;exact a_or _ _ _ _ rfl hx hy hr
  ·obtain⟨rfl,rfl,rfl,rfl⟩:=ikb_some h;exact a_xor _ _ _ _ rfl hx hy hr
  ·simp only[Option.some.injEq,Prod.mk.injEq]at h
   obtain⟨rfl,rfl,rfl⟩:=h
   exact a_shl _ _ _ _ rfl hx hy hp hr
 ·cases h
theorem garith_ok (ht:tt.Ok P)(h:garith tt a op=some (p,k,e))(hp:p)(hr:k.wrap e=r):APure P N ⟨some t,op,ty,pos,aft,none⟩ a H (.int k r):=by
 unfold garith at h
 split at h
 ·obtain⟨u,hx,h⟩:=ob_some h
  obtain⟨w,hy,h⟩:=ob_some h
  exact gar2_ok hx hy h hp hr
 ·obtain⟨u,hx,h⟩:=ob_some h
  unfold gneg at h
  split at h
  ·simp only[Option.some.injEq,Prod.mk.injEq]at h
   obtain⟨rfl,rfl,rfl⟩:=h
   exact a_neg _ _ rfl hx hr
  ·cases h
 ·obtain⟨u,hx,h⟩:=ob_some h
  unfold gcon at h
  split at h
  ·split at h
   ·rename_i h1 h2
    simp only[Option.some.injEq,Prod.mk.injEq]at h
    obtain⟨rfl,rfl,rfl⟩:=h
    obtain⟨d,hd,_⟩:=te_desc (TT.get_ok ht h1)
    exact a_conv _ _ _ rfl hx hd (te_int (TT.get_ok ht h2) rfl) hr
   ·cases h
  ·cases h
 ·cases h
theorem gexact_ok (h:gexact a op=some (p,k,e))(hp:p)(hr:e=r):APure P N ⟨some t,op,ty,pos,aft,none⟩ a H (.int k r):=by
 unfold gexact at h
 split at h
 ·obtain⟨u,hx,h⟩:=ob_some h
  obtain⟨w,hy,h⟩:=ob_some h
  unfold gex2 at h
  split at h
  ·rename_i o _ _ _ _ _ _ _ _ _ _ _ _
   cases o <;> simp only[reduceCtorEq]at h
   ·obtain⟨rfl,rfl,rfl,rfl⟩:=ikb_some h;exact a_rem _ _ _ _ rfl hx hy hp hr
   ·simp only[Option.some.injEq,Prod.mk.injEq]at h
    obtain⟨rfl,rfl,rfl⟩:=h
    refine a_shr _ _ _ _ rfl hx hy hp ?_
    rw[←hr]
    exact Int.fdiv_eq_ediv_of_nonneg _ (Int.pow_nonneg (by decide))
  ·cases h
 ·cases h
end
section
variable {tt:TT} {a a':AF} {op:Op}
theorem oo_congr {lo:Option Operand}(h:∀x∈lo.toArray,ev a' x=ev a x):oo a' lo=oo a lo:=by
 cases lo with
 |none=>rfl
 |some x=>simp only[oo,h x (by simp)]
theorem gpure_congr (h:∀x∈op.operands,ev a' x=ev a x):gpure tt a' op=gpure tt a op:=by
 unfold gpure
 split
 ·rw[h _ (by simp[Op.operands])]
 ·rw[h _ (by simp[Op.operands])]
 ·rename_i c x y
  rw[h c (by simp[Op.operands]),h x (by simp[Op.operands]),h y (by simp[Op.operands])]
 ·rename_i o T x y U
  rw[h x (by simp[Op.operands]),h y (by simp[Op.operands])]
 ·rename_i T x y
  rw[h x (by simp[Op.operands]),h y (by simp[Op.operands])]
 ·rename_i T x y
  rw[h x (by simp[Op.operands]),h y (by simp[Op.operands])]
 ·rw[h _ (by simp[Op.operands])]
 ·rw[h _ (by simp[Op.operands])]
 ·rw[h _ (by simp[Op.operands])]
 ·rw[h _ (by simp[Op.operands])]
 ·rename_i T x lo hi
  rw[h x (by simp[Op.operands]),oo_congr (lo:=lo) (fun y hy=>h y (by simp only[Op.operands,Array.mem_append];simp_all)),oo_congr (lo:=hi) (fun y hy=>h y (by simp only[Op.operands,Array.mem_append];simp_all))]
 ·rename_i x T
  rw[h x (by simp[Op.operands,Call.operands])]
 ·rfl
theorem garith_congr (h:∀x∈op.operands,ev a' x=ev a x):garith tt a' op=garith tt a op:=by
 unfold garith
 split
 ·rename_i o T x y U
  rw[h x (by simp[Op.operands]),h y (by simp[Op.operands])]
 ·rw[h _ (by simp[Op.operands])]
 ·rw[h _ (by simp[Op.operands])]
 ·rfl
theorem gexact_congr (h:∀x∈op.operands,ev a' x=ev a x):gexact a' op=gexact a op:=by
 unfold gexact
 split
 ·rename_i o T x y U
  rw[h x (by simp[Op.operands]),h y (by simp[Op.operands])]
 ·rfl
theorem evs_congr :∀{xs:List Operand},(∀x∈xs,ev a' x=ev a x)→evs a' xs=evs a xs
 |[],_=>rfl
 |y::ys,hy=>by simp only[evs,hy y List.mem_cons_self,evs_congr fun z hz=>hy z (List.mem_cons_of_mem _ hz)]
theorem evps_congr :∀{ps:List (Nat × Operand)},(∀x∈ps,ev a' x.2=ev a x.2)→evps a' ps=evps a ps
 |[],_=>rfl
 |(n,y)::ys,hy=>by
  have e:ev a' y=ev a y:=hy (n,y) List.mem_cons_self
  simp only[evps,e,evps_congr fun z hz=>hy z (List.mem_cons_of_mem _ hz)]
end

inductive SetAt :List Value→Nat→Value→List Value→Prop
 |zero {x v l}:SetAt (x::l) 0 v (v::l)
 |succ {x v l n l'}:SetAt l n v l'→SetAt (x::l) (n+1) v (x::l')
theorem SetAt.ok {l l':List Value}{n:Nat}{v:Value}(h:SetAt l n v l'):n<l.length∧l'=l.set n v:=by
 induction h with
 |zero=>simp
 |succ _ ih=>obtain⟨h1,rfl⟩:=ih;simp;omega
theorem SetAt.any {l:List Value}{n:Nat}{v:Value}(h:n<l.length):SetAt l n v (l.set n v):=by
 induction l generalizing n with
 |nil=>simp at h
 |cons x r ih =>
  cases n with
  |zero=>exact .zero
  |succ n=>exact .succ (ih (by simpa using h))
def PutAt (l:List Value)(o:Nat)(vs l':List Value):Prop:=o+vs.length≤l.length∧l'=lset l o vs
theorem yA {l vs:List Value}(h:l.length=vs.length):PutAt l 0 vs vs:=⟨by omega,by
 unfold lset;rw[List.drop_of_length_le (by omega)];simp⟩

theorem setAt_putAt {l l':List Value}{o:Nat}{v:Value}(h:SetAt l o v l'):PutAt l o [v] l':=by
 obtain⟨h1,rfl⟩:=h.ok
 refine⟨by simp;omega,?_⟩
 simp only[lset,List.length_singleton]
 rw[List.set_eq_take_append_cons_drop,if_pos h1]
 simp

inductive BuildR (pl:List (Nat × Nat)):List Value→List (Nat × Value)→List Value→Prop
 |nil {zs}:BuildR pl zs [] zs
 |one {zs zs' i off v r out} (hp:pl[i]?=some (off,1)) (ho:Go.Gh.one v=true) (hs:SetAt zs off v zs') (k:BuildR pl zs' r out):BuildR pl zs ((i,v)::r) out
 |agg {zs zs' i off s vs r out} (hp:pl[i]?=some (off,s)) (ho:vs.length=s) (hs:PutAt zs off vs zs') (k:BuildR pl zs' r out):BuildR pl zs ((i,.agg ⟨vs⟩)::r) out
theorem one_cells {v:Value}(hv:one v=true):v.cells=#[v]:=by cases v <;> first|(simp[one]at hv;done)|rfl
theorem gfill_step {places:Nat→Option (Nat × Nat)}{cells:List Value}{i off size:Nat}{v:Value}{r:List (Nat × Value)}(hp:places i=some (off,size))(hs:v.cells.size=size)(hl:off+size≤cells.length) :
  gfill places cells ((i,v)::r)=gfill places (lset cells off v.cells.toList) r:=by
 simp only[gfill,hp,gfill.constOk1,hs,hl,decide_true,Bool.and_self,cond_true]
theorem BuildR.ok {pl:List (Nat × Nat)}{zs out:List Value}{vs:List (Nat × Value)}(h:BuildR pl zs vs out):gfill (fun i:Nat=>pl[i]?) zs vs=some out:=by
 induction h with
 |nil=>rfl
 |@one zs zs' i off v r out hp ho hs _ ih =>
  obtain⟨h1,h2⟩:=setAt_putAt hs
  have e:=one_cells ho
  rw[gfill_step hp (by rw[e];rfl) h1,e]
  rw[←ih,h2]
 |@agg zs zs' i off s vs r out hp ho hs _ ih =>
  obtain⟨h1,h2⟩:=hs
  rw[gfill_step hp (by simpa[Value.cells]using ho) (by omega)]
  rw[←ih,h2];rfl

inductive CatR (s:Nat):Nat→List (Nat × Value)→List Value→Prop
 |nil {k}:CatR s k [] []
 |one {k v r out} (hs:s=1) (ho:Go.Gh.one v=true) (h:CatR s (k+1) r out):CatR s k ((k,v)::r) (v::out)
 |agg {k vs r out} (ho:vs.length=s) (h:CatR s (k+1) r out):CatR s k ((k,.agg ⟨vs⟩)::r) (vs++out)
 |last {k vs} (ho:vs.length=s):CatR s k [(k,.agg ⟨vs⟩)] vs
theorem CatR.len {s k:Nat}{vs:List (Nat × Value)}{out:List Value}(h:CatR s k vs out):out.length=vs.length*s:=by
 induction h with
 |nil=>simp
 |one hs _ _ ih=>subst hs;simp[ih]
 |agg ho _ ih=>simp only[List.length_append,List.length_cons,ho,ih,Nat.add_mul,Nat.one_mul];omega
 |last ho=>simp[ho]
theorem CatR.ok {s k:Nat}{vs:List (Nat × Value)}{out:List Value}(h:CatR s k vs out):∀pre zs:List Value,pre.length=k*s→zs.length=vs.length*s→gfill (fun i=>some (i*s,s)) (pre++zs) vs=some (pre++out):=by
 have step:∀(pre zs cs:List Value) (k m:Nat),pre.length=k*s→cs.length=s→zs.length=(m+1)*s→lset (pre++zs) (k*s) cs=(pre++cs)++zs.drop s:=by
  intro pre zs cs k m h1 h2 h3
  unfold lset
  rw[←h1,h2,List.take_append_of_le_length (Nat.le_refl _),List.take_length,List.drop_append,List.drop_of_length_le (by omega),show pre.length+s-pre.length=s by omega,List.nil_append]
 have main:∀(k:Nat) (v:Value) (cs:List Value) (r:List (Nat × Value)) (out pre zs:List Value),v.cells.toList=cs→cs.length=s→pre.length=k*s→zs.length=(r.length+1)*s →
   (∀pre zs:List Value,pre.length=(k+1)*s→zs.length=r.length*s→gfill (fun i=>some (i*s,s)) (pre++zs) r=some (pre++out)) →
   gfill (fun i=>some (i*s,s)) (pre++zs) ((k,v)::r)=some (pre++(cs++out)):=by
  intro k v cs r out pre zs hv hc hp hz ih
  have hsz:v.cells.size=s:=by rw[←Array.length_toList,hv,hc]
  have hle:k*s+s≤(pre++zs).length:=by rw[List.length_append,hp,hz,Nat.add_mul];omega
  rw[gfill_step rfl hsz hle,hv,step pre zs cs k r.length hp hc hz,ih (pre++cs) (zs.drop s) (by simp[hp,hc,Nat.add_mul]) (by rw[List.length_drop,hz,Nat.add_mul];omega),List.append_assoc]
 induction h with
 |nil=>intro pre zs h1 h2;simp at h2;subst h2;rfl
 |@one k v r out hs ho h ih =>
  subst hs
  intro pre zs h1 h2
  exact main k v [v] r out pre zs (by rw[one_cells ho]) rfl h1 h2 ih
 |@agg k vs r out ho h ih =>
  intro pre zs h1 h2
  exact main k (.agg ⟨vs⟩) vs r out pre zs rfl ho h1 h2 ih
 |@last k vs ho =>
  intro pre zs h1 h2
  have:=main k (.agg ⟨vs⟩) vs [] [] pre zs rfl ho h1 h2 (fun pre zs _ h2=>by simp at h2;subst h2;rfl)
  rw[List.append_nil]at this
  exact this

structure Sd (p:Prop):Prop where
 h:p
structure Ln (p:Prop):Prop where
 h:p
structure Wr (p:Prop):Prop where
 h:p
structure Ex (p:Prop):Prop where
 h:p
structure Ce (p:Prop):Prop where
 h:p
structure Rc (p:Prop):Prop where
 h:p
structure Su (p:Prop):Prop where
 h:p
structure Se (p:Prop):Prop where
 h:p
structure Pu (p:Prop):Prop where
 h:p

section
variable {P:Program} {tt:TT} {sz:Nat} {ops:Array Oper} {Q:SPost} {rest:List Oper} {a:AF} {h h' h1:SH} {m:Mode} {t:Nat} {op:Op} {ty:TypeId} {pos:String} {aft:Array Edge} {p:Prop} {v:Value}

theorem o_g (ht:tt.Ok P)(hg:gpure tt a op=some (p,v))(hN:Nat.blt t sz=true)(hp:Sd p)(k:GO m.next P sz ops Q rest ((t,v)::a) h):GO m P sz ops Q (⟨some t,op,ty,pos,aft,none⟩::rest) a h :=
 o_pure (fun _ _ _ hag=>gpure_ok ht ((gpure_congr fun _ hx=>hag.ev hx).trans hg) hp.1) hN k
theorem o_ar {kk:IntKind}{e r:Int}(ht:tt.Ok P)(hg:garith tt a op=some (p,kk,e))(hN:Nat.blt t sz=true)(hp:Sd p)(hr:Wr (kk.wrap e=r))(k:GO m.next P sz ops Q rest ((t,.int kk r)::a) h) :
  GO m P sz ops Q (⟨some t,op,ty,pos,aft,none⟩::rest) a h:=o_pure (fun _ _ _ hag=>garith_ok ht ((garith_congr fun _ hx=>hag.ev hx).trans hg) hp.1 hr.1) hN k
theorem o_ex {kk:IntKind}{e r:Int}(hg:gexact a op=some (p,kk,e))(hN:Nat.blt t sz=true)(hp:Sd p)(hr:Ex (e=r))(k:GO m.next P sz ops Q rest ((t,.int kk r)::a) h) :
  GO m P sz ops Q (⟨some t,op,ty,pos,aft,none⟩::rest) a h:=o_pure (fun _ _ _ hag=>gexact_ok ((gexact_congr fun _ hx=>hag.ev hx).trans hg) hp.1 hr.1) hN k
theorem o_not {T:Nat}{x:Operand}{q:Prop}{_:Decidable (q)}(hx:ev a x=some (.bool (decide q)))(hN:Nat.blt t sz=true)(k:GO m.next P sz ops Q rest ((t,.bool (decide (¬q)))::a) h) :
  GO m P sz ops Q (⟨some t,.unOp .not T x,ty,pos,aft,none⟩::rest) a h:=by
 refine o_pure (fun _ _ _ hag=>?_) hN k
 rw[show decide (¬q)=!decide q from by simp]
 exact a_not _ _ rfl ((hag.ev (by simp[Op.operands,Call.operands])).trans hx)
theorem yR {T:Nat}{x:Operand}{b:Bool}(hx:ev a x=some (.bool b))(hN:Nat.blt t sz=true)(k:GO m.next P sz ops Q rest ((t,.bool (!b))::a) h) :
  GO m P sz ops Q (⟨some t,.unOp .not T x,ty,pos,aft,none⟩::rest) a h:=o_pure (fun _ _ _ hag=>a_not _ _ rfl ((hag.ev (by simp[Op.operands,Call.operands])).trans hx)) hN k
theorem o_min {T U:Nat}{x y:Operand}{kk:IntKind}{i j:Int}(hx:ev a x=some (.int kk i))(hy:ev a y=some (.int kk j))(hN:Nat.blt t sz=true)(k:GO m.next P sz ops Q rest ((t,.int kk (min i j))::a) h) :
  GO m P sz ops Q (⟨some t,.call { callee:=.builtin .min,args:=#[x,y],argTypes:=#[T,U] },ty,pos,aft,none⟩::rest) a h:=o_pure (fun _ _ _ hag=>a_min T U x y rfl ((hag.ev (by simp[Op.operands,Call.operands])).trans hx) ((hag.ev (by simp[Op.operands,Call.operands])).trans hy)) hN k
theorem o_max {T U:Nat}{x y:Operand}{kk:IntKind}{i j:Int}(hx:ev a x=some (.int kk i))(hy:ev a y=some (.int kk j))(hN:Nat.blt t sz=true)(k:GO m.next P sz ops Q rest ((t,.int kk (max i j))::a) h) :
  GO m P sz ops Q (⟨some t,.call { callee:=.builtin .max,args:=#[x,y],argTypes:=#[T,U] },ty,pos,aft,none⟩::rest) a h:=o_pure (fun _ _ _ hag=>a_max T U x y rfl ((hag.ev (by simp[Op.operands,Call.operands])).trans hx) ((hag.ev (by simp[Op.operands,Call.operands])).trans hy)) hN k
theorem o_makeFunc {fn:Fn}{xs ys:List Operand}{us vs:List Value}(hx:evs a xs=some us)(hy:evs a ys=some vs)(hN:Nat.blt t sz=true)(k:GO m.next P sz ops Q rest ((t,.func fn us.toArray vs.toArray)::a) h) :
  GO m P sz ops Q (⟨some t,.makeFunc fn xs.toArray ys.toArray,ty,pos,aft,none⟩::rest) a h:=o_pure (fun _ _ _ hag=>a_makeFunc fn xs ys rfl ((evs_congr fun x hx=>hag.ev (by simp[Op.operands,hx])).trans hx) ((evs_congr fun x hx=>hag.ev (by simp[Op.operands,hx])).trans hy)) hN k
theorem o_iface {T:Nat}{x:Operand}{d:TypeDesc}(hx:ev a x=some v)(hT:P.underlying T=some d)(hd:(match d with|.interface _=>false|_=>true)=true)(hN:Nat.blt t sz=true)(k:GO m.next P sz ops Q rest ((t,.iface T v)::a) h) :
  GO m P sz ops Q (⟨some t,.makeInterface T x,ty,pos,aft,none⟩::rest) a h:=o_pure (fun _ _ _ hag=>a_makeIface T x rfl ((hag.ev (by simp[Op.operands,Call.operands])).trans hx) hT hd) hN k
theorem o_cutend {T:Nat}{x lo:Operand}{A off n len fl:Nat}{j:IntKind}{i:Int}{E s b:Nat}{z:Option Value}{e:TE}(ht:tt.Ok P)(hx:ev a x=some (gsl A off n len fl))(hlo:ev a lo=some (.int j i))(hT:tt.get T=some ⟨.slice E,s,b,z⟩)(hE:tt.get E=some e)(hi:i=len)
  (hN:Nat.blt t sz=true) (k:GO m.next P sz ops Q rest ((t,sempty)::a) h):GO m P sz ops Q (⟨some t,.slice T x (some lo) none none,ty,pos,aft,none⟩::rest) a h :=
 o_pure (fun _ _ _ hag=>let ⟨_,hI,_⟩:=te_inf (TT.get_ok ht hE);a_cutend T x lo rfl ((hag.ev (by simp[Op.operands,Call.operands])).trans hx) ((hag.ev (by simp[Op.operands,Call.operands])).trans hlo) (te_slice (TT.get_ok ht hT) rfl) hI hi) hN k
theorem o_neqs {T U:Nat}{x y:Operand}{xs ys:List Value}{n:Nat}(hx:ev a x=some (.agg ⟨xs⟩))(hy:ev a y=some (.agg ⟨ys⟩))(hn:xs.length=n)(hT:flatB P T n=true)(hm:ys.length=n)(hl:yU xs ys=true)(hk:kindsB P T xs=true)(hN:Nat.blt t sz=true)
  (k:GO m.next P sz ops Q rest ((t,.bool (decide (¬cellsEqB xs ys=true)))::a) h):GO m P sz ops Q (⟨some t,.binOp .neq T x y U,ty,pos,aft,none⟩::rest) a h:=o_pure (fun _ _ _ hag=>a_neqs T U x y rfl ((hag.ev (by simp[Op.operands,Call.operands])).trans hx) ((hag.ev (by simp[Op.operands,Call.operands])).trans hy) hT hn hm hl hk) hN k
theorem yT {T:Nat}{ps:List (Nat × Operand)}{fs:List (Nat × Nat)}{pl:List (Nat × Nat)}{zs out:List Value}{s b:Nat}{vs:List (Nat × Value)}(ht:tt.Ok P)(hT:tt.get T=some ⟨.st fs,s,b,some (.agg ⟨zs⟩)⟩)(hv:evps a ps=some vs)(hp:placesOf P T=some pl)
  (hz:yJ (.agg ⟨zs⟩)=true) (hb:BuildR pl zs vs out) (hN:Nat.blt t sz=true) (k:GO m.next P sz ops Q rest ((t,.agg ⟨out⟩)::a) h):GO m P sz ops Q (⟨some t,.build T ps.toArray,ty,pos,aft,none⟩::rest) a h :=
 o_pure (fun _ _ _ hag=>let ⟨_,hI,hz'⟩:=te_inf (TT.get_ok ht hT);a_build T ps rfl ((evps_congr fun x hx=>hag.ev (by simp only[Op.operands];exact List.mem_toArray.2 (List.mem_map.2 ⟨x,by simpa using hx,rfl⟩))).trans hv) hp (hz' _ rfl▸hI) hz hb.ok) hN k

theorem o_buildArr {T n E:Nat}{ps:List (Nat × Operand)}{zs out:List Value}{s b:Nat}{e:TE}{vs:List (Nat × Value)}(ht:tt.Ok P)(hT:tt.get T=some ⟨.arr n E,s,b,some (.agg ⟨zs⟩)⟩)(hE:tt.get E=some e)(hv:evps a ps=some vs)
  (hz:yJ (.agg ⟨zs⟩)=true) (hb:BuildR (arrPl n e.sz) zs vs out) (hN:Nat.blt t sz=true) (k:GO m.next P sz ops Q rest ((t,.agg ⟨out⟩)::a) h):GO m P sz ops Q (⟨some t,.build T ps.toArray,ty,pos,aft,none⟩::rest) a h :=
 o_pure (fun _ _ _ hag=>let ⟨_,hI,hz'⟩:=te_inf (TT.get_ok ht hT);let ⟨_,hI2,_⟩:=te_inf (TT.get_ok ht hE);a_buildArr T ps rfl ((evps_congr fun x hx=>hag.ev (by simp only[Op.operands];exact List.mem_toArray.2 (List.mem_map.2 ⟨x,by simpa using hx,rfl⟩))).trans hv) (te_arr (TT.get_ok ht hT) rfl) hI2 (hz' _ rfl▸hI) hz hb.ok) hN k

theorem zM {T:Nat}{x:Operand}{A off n:Nat}{g:Blk}{e:TE}(ht:tt.Ok P)(hx:ev a x=some (gptr A off n))(hT:tt.get T=some e)(hk:e.k.agg=false)(hp:Pick h A g h1)(hN:Nat.blt t sz=true)(hn:Ln (g.cells.length=n))(hc:Ce (g.cells[off]?=some v))
  (hok:m.rdOk ops fun h'=>Rc (∃g h1,Pick h' A g h1∧Ln (g.cells.length=n)∧Ce (g.cells[off]?=some v))) (k:GO (m.rd fun h'=>Rc (∃g h1,Pick h' A g h1∧Ln (g.cells.length=n)∧Ce (g.cells[off]?=some v))) P sz ops Q rest ((t,v)::a) h):GO m P sz ops Q (⟨some t,.load T x,ty,pos,aft,none⟩::rest) a h :=
 o_read (fun h'=>Rc (∃g h1,Pick h' A g h1∧Ln (g.cells.length=n)∧Ce (g.cells[off]?=some v))) ⟨_,_,hp,hn,hc⟩ (fun _ _ _ _ _ i ⟨_,_,hp,⟨hn⟩,⟨hc⟩⟩ hag=>a_load T x rfl ((hag.ev (by simp[Op.operands,Call.operands])).trans hx) (by rw[te_agg (TT.get_ok ht hT),hk]) (i.look hp) hn hc) hN hok k
def SubAt (l:List Value)(o:Nat)(vs:List Value):Prop:=∀(i:Nat) v,vs[i]?=some v→l[o+i]?=some v
theorem zQ {l:List Value}:SubAt l 0 l:=fun i v h=>by rw[Nat.zero_add];exact h
theorem subAt_get {l:List Value}{o n:Nat}(h:o+n≤l.length):SubAt l o ((l.drop o).take n):=fun i v hi=>by
 rw[List.getElem?_take]at hi;split at hi
 ·rwa [List.getElem?_drop]at hi
 ·cases hi
theorem yQ {T:Nat}{x:Operand}{A off n:Nat}{g:Blk}{e:TE}{vs:List Value}(ht:tt.Ok P)(hx:ev a x=some (gptr A off n))(hT:tt.get T=some e)(hk:e.k.agg=true)(hp:Pick h A g h1)(hN:Nat.blt t sz=true)(hn:Ln (g.cells.length=n))(hc:Su (SubAt g.cells off vs))(hs:Ln (vs.length=e.sz))
  (hok:m.rdOk ops fun h'=>Rc (∃g h1,Pick h' A g h1∧Ln (g.cells.length=n)∧Su (SubAt g.cells off vs))) (k:GO (m.rd fun h'=>Rc (∃g h1,Pick h' A g h1∧Ln (g.cells.length=n)∧Su (SubAt g.cells off vs))) P sz ops Q rest ((t,.agg ⟨vs⟩)::a) h):GO m P sz ops Q (⟨some t,.load T x,ty,pos,aft,none⟩::rest) a h :=
 o_read (fun h'=>Rc (∃g h1,Pick h' A g h1∧Ln (g.cells.length=n)∧Su (SubAt g.cells off vs))) ⟨_,_,hp,hn,hc⟩ (fun _ _ _ _ _ i ⟨_,_,hp,⟨hn⟩,⟨hc⟩⟩ hag=>let ⟨_,hI,_⟩:=te_inf (TT.get_ok ht hT);a_loads T x rfl ((hag.ev (by simp[Op.operands,Call.operands])).trans hx) (by rw[te_agg (TT.get_ok ht hT),hk]) hI (i.look hp) hn hs.1 hc) hN hok k
theorem o_toString {T U:Nat}{x:Operand}{A off n len fl E s b:Nat}{z:Option Value}{e1 e2:TE}{g:Blk}{l:List UInt8}(ht:tt.Ok P)(hx:ev a x=some (gsl A off n len fl))(hT:tt.get T=some ⟨.slice E,s,b,z⟩)(hE:tt.get E=some e1)(hU:tt.get U=some e2)
  (k1:e1.k=.int .u8) (k2:e2.k=.str) (hp:Pick h A g h1) (hN:Nat.blt t sz=true) (hn:Ln (g.cells.length=n)) (hc:Su (SubAt g.cells off (bytesV l))) (hl:Ln (l.length=len)) (hok:m.rdOk ops fun h'=>Rc (∃g h1,Pick h' A g h1∧Ln (g.cells.length=n)∧Su (SubAt g.cells off (bytesV l)))) (k:GO (m.rd fun h'=>Rc (∃g h1,Pick h' A g h1∧Ln (g.cells.length=n)∧Su (SubAt g.cells off (bytesV l)))) P sz ops Q rest ((t,S l)::a) h) :
  GO m P sz ops Q (⟨some t,.convert T U x,ty,pos,aft,none⟩::rest) a h :=
 o_read (fun h'=>Rc (∃g h1,Pick h' A g h1∧Ln (g.cells.length=n)∧Su (SubAt g.cells off (bytesV l)))) ⟨_,_,hp,hn,hc⟩ (fun _ _ _ _ _ i ⟨_,_,hp,⟨hn⟩,⟨hc⟩⟩ hag=>a_toString T U x rfl ((hag.ev (by simp[Op.operands,Call.operands])).trans hx) (te_slice (TT.get_ok ht hT) rfl) (te_int (TT.get_ok ht hE) k1) (te_str (TT.get_ok ht hU) k2) (i.look hp) hn hl.1 hc) hN hok k
theorem o_toString_nil {T U:Nat}{x:Operand}{E s b:Nat}{z:Option Value}{e1 e2:TE}(ht:tt.Ok P)(hx:ev a x=some (.slice none 0 0))(hT:tt.get T=some ⟨.slice E,s,b,z⟩)(hE:tt.get E=some e1)(hU:tt.get U=some e2)
  (k1:e1.k=.int .u8) (k2:e2.k=.str) (hN:Nat.blt t sz=true) (k:GO m.next P sz ops Q rest ((t,S [])::a) h) :
  GO m P sz ops Q (⟨some t,.convert T U x,ty,pos,aft,none⟩::rest) a h :=
 o_pure (fun _ _ _ hag=>a_toString_nil T U x rfl ((hag.ev (by simp[Op.operands,Call.operands])).trans hx) (te_slice (TT.get_ok ht hT) rfl) (te_int (TT.get_ok ht hE) k1) (te_str (TT.get_ok ht hU) k2)) hN k
def vcells :Value→List Value
 |.agg ⟨vs⟩=>vs
 |v=>[v]
theorem vcells_ok (v:Value):v.cells.toList=vcells v:=by cases v <;> rfl
def vcl (v:Value):Option (List Value):=match v with
 |.agg ⟨vs⟩=>some vs
 |v=>some [v]
theorem vcl_ok {v:Value}{c:List Value}(hv:vcl v=some c):v.cells.toList=c:=by
 cases v <;> (simp only[vcl,Option.some.injEq]at hv;subst hv;rfl)
theorem yG {T s b:Nat}{tk:TK}{z:Value}{c:List Value}(ht:tt.Ok P)(hT:tt.get T=some ⟨tk,s,b,some z⟩)(hc:vcl z=some c)(hz:yJ z=true)(hs:c.length=s)(hN:Nat.blt t sz=true)
  (k:∀A,GO (m.nw h (A,⟨c,false⟩)) P sz ops Q rest ((t,gptr A 0 s)::a) ((A,⟨c,false⟩)::h)):GO m P sz ops Q (⟨some t,.alloc T,ty,pos,aft,none⟩::rest) a h:=by
 have hc':=vcl_ok hc
 have hs':z.cells.size=s:=by rw[←Array.length_toList,hc',hs]
 subst hc' hs'
 obtain⟨_,hI,hz'⟩:=te_inf (TT.get_ok ht hT)
 exact o_new (v:=fun A=>gptr A 0 _) hN (fun _ _ _ _ _ hpl _=>e_alloc T rfl (hz' _ rfl▸hI) hz hpl) k
theorem o_box {T:Nat}{x:Operand}{s b:Nat}{tk:TK}{z:Option Value}{c:List Value}(_hT:tt.get T=some ⟨tk,s,b,z⟩)(hx:ev a x=some v)(hc:vcl v=some c)(hs:c.length=s)(hN:Nat.blt t sz=true)
  (k:∀A,GO (m.nw h (A,⟨c,false⟩)) P sz ops Q rest ((t,gptr A 0 s)::a) ((A,⟨c,false⟩)::h)):GO m P sz ops Q (⟨some t,.box T x,ty,pos,aft,none⟩::rest) a h:=by
 have hc':=vcl_ok hc
 have hs':v.cells.size=s:=by rw[←Array.length_toList,hc',hs]
 subst hc' hs'
 exact o_new (v:=fun A=>gptr A 0 _) hN (fun _ _ _ _ _ hpl hag=>e_box T x rfl ((hag.ev (by simp[Op.operands,Call.operands])).trans hx) hpl) k
theorem zT {T n:Nat}{ps:List (Nat × Operand)}{E s1 b1 s b:Nat}{tk:TK}{z1:Option Value}{z:Value}{vs:List (Nat × Value)}{out:List Value}(ht:tt.Ok P)(hT:tt.get T=some ⟨.slice E,s1,b1,z1⟩)(hE:tt.get E=some ⟨tk,s,b,some z⟩)(hz:yJ z=true)(hzs:(vcells z).length=s)
  (hv:evps a ps=some vs) (hs:0<s) (hn:vs.length=n) (hle:n*s≤16777216) (hc:CatR s 0 vs out) (hN:Nat.blt t sz=true) (k:∀A,GO (m.nw h (A,⟨out,false⟩)) P sz ops Q rest ((t,gsl A 0 (n*s) n s)::a) ((A,⟨out,false⟩)::h)) :
  GO m P sz ops Q (⟨some t,.buildSlice T n ps.toArray,ty,pos,aft,none⟩::rest) a h:=by
 obtain⟨_,hI,hz'⟩:=te_inf (TT.get_ok ht hE)
 have hzs':z.cells.size=s:=by rw[←Array.length_toList,vcells_ok,hzs]
 have h0:=hc.ok [] (zrow z (n*s)) (by simp) (by rw[hn];simp[zrow])
 exact o_new (v:=fun A=>gsl A 0 _ _ _) hN (fun _ _ _ _ _ hpl hag=>e_buildSlice T n ps rfl ((evps_congr fun x hx=>hag.ev (by simp only[Op.operands];exact List.mem_toArray.2 (List.mem_map.2 ⟨x,by simpa using hx,rfl⟩))).trans hv) (te_slice (TT.get_ok ht hT) rfl) (hz' _ rfl▸hI) hz hzs' hs hle h0 hpl) k
theorem o_makeSlice {T:Nat}{x y:Operand}{E s1 b1 s b:Nat}{tk:TK}{z1:Option Value}{z:Value}{j kk:IntKind}{n c:Int}{cells:List Value}(ht:tt.Ok P)(hx:ev a x=some (.int j n))(hy:ev a y=some (.int kk c))(hT:tt.get T=some ⟨.slice E,s1,b1,z1⟩)(hE:tt.get E=some ⟨tk,s,b,some z⟩)(hz:yJ z=true)
  (hzs:(vcells z).length=s) (hs:0<s) (hn:0≤n∧n≤c∧(b:Int)*c≤281474976710656∧c≤9223372036854775807) (hc:zrow z (n.toNat*s)=cells) (hN:Nat.blt t sz=true)
  (k:∀A,GO (m.nw h (A,⟨cells,false⟩)) P sz ops Q rest ((t,gsl A 0 (n.toNat*s) n.toNat s)::a) ((A,⟨cells,false⟩)::h)):GO m P sz ops Q (⟨some t,.makeSlice T x y,ty,pos,aft,none⟩::rest) a h:=by
 obtain⟨_,hI,hz'⟩:=te_inf (TT.get_ok ht hE)
 have hzs':z.cells.size=s:=by rw[←Array.length_toList,vcells_ok,hzs]
 subst hc
 exact o_new (v:=fun A=>gsl A 0 _ _ _) hN (fun _ _ _ _ _ hpl hag=>e_makeSlice T x y rfl ((hag.ev (by simp[Op.operands,Call.operands])).trans hx) ((hag.ev (by simp[Op.operands,Call.operands])).trans hy) (te_slice (TT.get_ok ht hT) rfl) (hz' _ rfl▸hI) hz hzs' hs hn hpl) k
theorem o_toBytes {T U:Nat}{x:Operand}{l:List UInt8}{E s b:Nat}{z:Option Value}{e1 e2:TE}(ht:tt.Ok P)(hx:ev a x=some (S l))(hT:tt.get T=some e1)(hU:tt.get U=some ⟨.slice E,s,b,z⟩)(hE:tt.get E=some e2)(k1:e1.k=.str)(k2:e2.k=.int .u8)(hN:Nat.blt t sz=true)(hl:Sd (l.length≤maxLen))
  (k:∀A,GO (m.nw h (A,⟨bytesV l,false⟩)) P sz ops Q rest ((t,gsl A 0 l.length l.length 1)::a) ((A,⟨bytesV l,false⟩)::h)):GO m P sz ops Q (⟨some t,.convert T U x,ty,pos,aft,none⟩::rest) a h :=
 o_new (v:=fun A=>gsl A 0 _ _ _) hN (fun _ _ _ _ _ hpl hag=>e_toBytes T U x rfl ((hag.ev (by simp[Op.operands,Call.operands])).trans hx) (te_str (TT.get_ok ht hT) k1) (te_slice (TT.get_ok ht hU) rfl) (te_int (TT.get_ok ht hE) k2) hl.1 hpl) k

theorem zX {T:Nat}{x y:Operand}{A off n b:Nat}{tk:TK}{z:Option Value}{cells cells':List Value}(ht:tt.Ok P)(hx:ev a x=some (gptr A off n))(hy:ev a y=some v)(h1:one v=true)(hT:tt.get T=some ⟨tk,1,b,z⟩)(hu:Upd h A ⟨cells,false⟩ ⟨cells',false⟩ h')(hn:Ln (cells.length=n))(hs:Se (SetAt cells off v cells'))
  (hok:m.efOk ops h') (k:GO (m.ef h) P sz ops Q rest a h'):GO m P sz ops Q (⟨none,.store T x y,ty,pos,aft,none⟩::rest) a h:=by
 obtain⟨h2,rfl⟩:=hs.1.ok
 have hn1:=hn.1
 obtain⟨_,hI,_⟩:=te_inf (TT.get_ok ht hT)
 exact o_upd rfl hu (fun _ _ _ hA hag=>e_store T x y rfl ((hag.ev (by simp[Op.operands,Call.operands])).trans hx) ((hag.ev (by simp[Op.operands,Call.operands])).trans hy) h1 hI hA hn.1 (Nat.ble_eq_true_of_le (by omega))) hok k
theorem yE {T:Nat}{x y:Operand}{A off n:Nat}{e:TE}{cells cells' vs:List Value}(ht:tt.Ok P)(hx:ev a x=some (gptr A off n))(hy:ev a y=some (.agg ⟨vs⟩))(h1:vs.all one=true)(hT:tt.get T=some e)(hs:Ln (vs.length=e.sz))(hu:Upd h A ⟨cells,false⟩ ⟨cells',false⟩ h')(hn:Ln (cells.length=n))(hc:Pu (PutAt cells off vs cells'))
  (hok:m.efOk ops h') (k:GO (m.ef h) P sz ops Q rest a h'):GO m P sz ops Q (⟨none,.store T x y,ty,pos,aft,none⟩::rest) a h:=by
 obtain⟨⟨h2,rfl⟩⟩:=hc
 have hn1:=hn.1
 have hs1:=hs.1
 obtain⟨_,hI,_⟩:=te_inf (TT.get_ok ht hT)
 exact o_upd rfl hu (fun _ _ _ hA hag=>e_stores T x y rfl ((hag.ev (by simp[Op.operands,Call.operands])).trans hx) ((hag.ev (by simp[Op.operands,Call.operands])).trans hy) h1 hI hs.1 hA hn.1 (Nat.ble_eq_true_of_le (by omega))) hok k
theorem o_append {T:Nat}{x y:Operand}{A n len A2 off2 n2 mm fl2 E s1 b1 s b:Nat}{tk:TK}{z1:Option Value}{z:Value}{cells news:List Value}{g2:Blk}(ht:tt.Ok P)(hx:ev a x=some (gsl A 0 n len s))(hy:ev a y=some (gsl A2 off2 n2 mm fl2))(hT:tt.get T=some ⟨.slice E,s1,b1,z1⟩)(hE:tt.get E=some ⟨tk,s,b,some z⟩)
  (hzs:(vcells z).length=s) (hs:Sd (0<s)) (hu:Upd h A ⟨cells,false⟩ ⟨cells++news,false⟩ h') (hp:Pick h A2 g2 h1) (hn:Ln (cells.length=n)) (hfull:Ln (len*s=n)) (hn2:Ln (g2.cells.length=n2)) (hc:Su (SubAt g2.cells off2 news)) (hl:Ln (news.length=mm*s)) (ho:news.all one=true) (hN:Nat.blt t sz=true)
  (hb:Sd ((len+mm)*b≤140737488355328∧len+mm≤maxLen)) (hok:m.efOk ops h') (k:GO (m.ef h) P sz ops Q rest ((t,gsl A 0 (n+mm*s) (len+mm) s)::a) h') :
  GO m P sz ops Q (⟨some t,.call { callee:=.builtin .append,args:=#[x,y],argTypes:=#[T,T] },ty,pos,aft,none⟩::rest) a h:=by
 obtain⟨_,hI,hz'⟩:=te_inf (TT.get_ok ht hE)
 have hzs':z.cells.size=s:=by rw[←Array.length_toList,vcells_ok,hzs]
 exact o_upd2 hN hu hp (fun _ _ _ hA hA2 hag=>e_append T x y rfl ((hag.ev (by simp[Op.operands,Call.operands])).trans hx) ((hag.ev (by simp[Op.operands,Call.operands])).trans hy) (te_slice (TT.get_ok ht hT) rfl) (hz' _ rfl▸hI) hzs' hs.1 hA hn.1 hfull.1 hA2 hn2.1 hl.1 hc.1 ho hb.1.1 hb.1.2) hok k
theorem o_append_nil {T:Nat}{x y:Operand}{A2 off2 n2 mm fl2 E s1 b1 s b:Nat}{tk:TK}{z1:Option Value}{z:Value}{news:List Value}{g2:Blk}(ht:tt.Ok P)(hx:ev a x=some (.slice none 0 0))(hy:ev a y=some (gsl A2 off2 n2 mm fl2))(hT:tt.get T=some ⟨.slice E,s1,b1,z1⟩)(hE:tt.get E=some ⟨tk,s,b,some z⟩)
  (hzs:(vcells z).length=s) (hs:Sd (0<s)) (hp:Pick h A2 g2 h1) (hn2:Ln (g2.cells.length=n2)) (hc:Su (SubAt g2.cells off2 news)) (hl:Ln (news.length=mm*s)) (hN:Nat.blt t sz=true)
  (hb:Sd (0<mm∧mm*b≤281474976710656∧mm≤maxLen)) (hok:∀A,m.efOk ops ((A,⟨news,false⟩)::h)) (k:∀A,GO (m.ef h) P sz ops Q rest ((t,gsl A 0 (mm*s) mm s)::a) ((A,⟨news,false⟩)::h)) :
  GO m P sz ops Q (⟨some t,.call { callee:=.builtin .append,args:=#[x,y],argTypes:=#[T,T] },ty,pos,aft,none⟩::rest) a h:=by
 obtain⟨_,hI,hz'⟩:=te_inf (TT.get_ok ht hE)
 have hzs':z.cells.size=s:=by rw[←Array.length_toList,vcells_ok,hzs]
 exact o_newR (v:=fun A=>gsl A 0 _ _ _) hN hp (fun _ _ _ _ _ hA2 hpl hag=>e_append_nil T x y rfl ((hag.ev (by simp[Op.operands,Call.operands])).trans hx) ((hag.ev (by simp[Op.operands,Call.operands])).trans hy) (te_slice (TT.get_ok ht hT) rfl) (hz' _ rfl▸hI) hzs' hs.1 hA2 hn2.1 hl.1 hc.1 hb.1.1 hb.1.2.1 hb.1.2.2 hpl) hok k
end

section
variable {α:Type} {f:α→List Value} {w:Nat}
def recs (f:α→List Value):List α→List Value
 |[]=>[]
 |x::r=>f x++recs f r
@[simp] theorem recs_nil :recs f []=[]:=rfl
theorem recs_app :∀{l m:List α},recs f (l++m)=recs f l++recs f m
 |[],_=>rfl
 |x::r,m=>by simp only[List.cons_append,recs,recs_app (l:=r),List.append_assoc]
theorem recs_one {x:α}:recs f [x]=f x:=List.append_nil _
theorem recs_snoc {l:List α}{x:α}:recs f (l++[x])=recs f l++f x:=by rw[recs_app,recs_one]
theorem yI {l:List α}{x:α}{c:List Value}(h:c=f x):recs f l++c=recs f (l++[x]):=by rw[h,recs_snoc]
theorem recs_len (hw:∀x,(f x).length=w):∀l:List α,(recs f l).length=l.length*w
 |[]=>by simp[recs]
 |x::r=>by simp only[recs,List.length_append,List.length_cons,hw,recs_len hw r,Nat.add_mul,Nat.one_mul];omega
theorem recs_get [Inhabited α](hw:∀x,(f x).length=w):∀{l:List α} {i j:Nat},i<l.length→j<w→(recs f l)[i*w+j]?=(f l[i]!)[j]?
 |[],i,j,h,_=>by simp at h
 |x::r,0,j,_,hj=>by
  simp only[recs,Nat.zero_mul,Nat.zero_add]
  rw[List.getElem?_append_left (by rw[hw];exact hj)]
  rfl
 |x::r,i+1,j,h,hj=>by
  simp only[recs]
  rw[List.getElem?_append_right (by rw[hw,Nat.add_mul];omega),hw,show(i+1)*w+j-w=i*w+j by rw[Nat.add_mul];omega,
   recs_get hw (by simpa using h) hj]
  simp
theorem recs_set (hw:∀x,(f x).length=w):∀{l:List α} {i:Nat} {x:α},i<l.length→lset (recs f l) (i*w) (f x)=recs f (l.set i x)
 |[],i,x,h=>by simp at h
 |y::r,0,x,_=>by
  simp only[recs,lset,List.set_cons_zero,Nat.zero_mul,List.take_zero,List.nil_append,Nat.zero_add,hw]
  rw[List.drop_append_of_le_length (by rw[hw];exact Nat.le_refl _),List.drop_of_length_le (by rw[hw];exact Nat.le_refl _),List.nil_append]
 |y::r,i+1,x,h=>by
  have ih:=recs_set hw (l:=r) (i:=i) (x:=x) (by simpa using h)
  simp only[lset,hw]at ih
  simp only[recs,lset,List.set_cons_succ,hw]
  rw[←ih,show(i+1)*w=(f y).length+i*w by rw[hw,Nat.add_mul];omega,show(f y).length+i*w+w=(f y).length+(i*w+w)from by omega,List.take_append,List.drop_append,List.take_of_length_le (by omega),List.drop_of_length_le (l:=f y) (by omega)]
  simp[List.append_assoc]
theorem recs_zrow [Inhabited α](hw:∀x,(f x).length=w)(h0:0<w){z:Value}(x:α)(hz:vcells z=f x)(n:Nat):zrow z (n*w)=recs f (List.replicate n x):=by
 have hz':z.cells.toList=f x:=by rw[vcells_ok,hz]
 have hs:z.cells.size=w:=by rw[←Array.length_toList,hz',hw]
 apply List.ext_getElem?
 intro k
 by_cases hk:k<n*w
 ·have hq:k/w<n:=(Nat.div_lt_iff_lt_mul h0).2 hk
  have:=recs_get hw (l:=List.replicate n x) (i:=k/w) (j:=k%w) (by simpa using hq) (Nat.mod_lt _ h0)
  rw[Nat.div_add_mod']at this
  rw[this,getElem!_pos _ _ (by simpa using hq),List.getElem_replicate]
  unfold zrow
  rw[List.getElem?_map,List.getElem?_range hk,hs,Option.map_some,hz',List.getD_eq_getElem?_getD,List.getElem?_eq_getElem (by rw[hw];exact Nat.mod_lt _ h0)]
  rfl
 ·rw[List.getElem?_eq_none (by simp[zrow];omega),List.getElem?_eq_none (by rw[recs_len hw];simp;omega)]
theorem subAt_rec [Inhabited α]{l:List α}{i:Nat}(hw:∀x,(f x).length=w)(hi:i<l.length):SubAt (recs f l) (0+i*w) (f l[i]!):=fun j v hj=>by
 have hj2:=(List.getElem?_eq_some_iff.1 hj).1
 rw[hw]at hj2
 rw[Nat.zero_add,recs_get hw hi hj2];exact hj
theorem subAt_recZ [Inhabited α]{l:List α}{i:Nat}(hw:∀x,(f x).length=w)(hi:i<l.length):SubAt (recs f l) (0+((i:Int)).toNat*w) (f l[i]!):=subAt_rec hw hi
theorem cell_rec [Inhabited α]{l:List α}{i fo:Nat}{v:Value}(hw:∀x,(f x).length=w)(hi:i<l.length)(hf:fo<w)(hv:(f l[i]!)[fo]?=some v):(recs f l)[0+i*w+fo]?=some v:=by
 rw[Nat.zero_add,recs_get hw hi hf];exact hv
theorem cell_recZ [Inhabited α]{l:List α}{i fo:Nat}{v:Value}(hw:∀x,(f x).length=w)(hi:i<l.length)(hf:fo<w)(hv:(f l[i]!)[fo]?=some v):(recs f l)[0+((i:Int)).toNat*w+fo]?=some v:=cell_rec hw hi hf hv
theorem putAt_rec {l:List α}{i:Nat}{x:α}(hw:∀x,(f x).length=w)(hi:i<l.length):PutAt (recs f l) (0+i*w) (f x) (recs f (l.set i x)):=by
 refine⟨?_,?_⟩
 ·rw[hw,recs_len hw,Nat.zero_add]
  calc i*w+w=(i+1)*w:=by rw[Nat.add_mul,Nat.one_mul]
   _≤l.length*w:=Nat.mul_le_mul_right w hi
 ·rw[Nat.zero_add];exact(recs_set hw hi).symm
theorem putAt_recZ {l:List α}{i:Nat}{x:α}(hw:∀x,(f x).length=w)(hi:i<l.length):PutAt (recs f l) (0+((i:Int)).toNat*w) (f x) (recs f (l.set i x)):=putAt_rec hw hi
end
section
variable {α:Type} {f:α→Value}
theorem cell_map [Inhabited α]{l:List α}{i:Nat}(hi:i<l.length):(l.map f)[0+i*1]?=some (f l[i]!):=by
 rw[Nat.zero_add,Nat.mul_one,List.getElem?_map,List.getElem?_eq_getElem hi,getElem!_pos l i hi];rfl
theorem yM [Inhabited α]{l:List α}{i:Nat}(hi:i<l.length):(l.map f)[0+((i:Int)).toNat*1]?=some (f l[i]!):=cell_map hi
theorem setAt_map {l:List α}{i:Nat}{x:α}(hi:i<l.length):SetAt (l.map f) (0+i*1) (f x) ((l.set i x).map f):=by
 rw[Nat.zero_add,Nat.mul_one,List.map_set];exact SetAt.any (by simpa using hi)
theorem setAt_mapZ {l:List α}{i:Nat}{x:α}(hi:i<l.length):SetAt (l.map f) (0+((i:Int)).toNat*1) (f x) ((l.set i x).map f):=setAt_map hi
theorem all_map {l:List α}(h:∀x,one (f x)=true):(l.map f).all one=true:=by simp[h]
theorem map_zrow {z:Value}(x:α)(h:one z=true)(hz:z=f x)(n:Nat):zrow z (n*1)=(List.replicate n x).map f:=by
 rw[zrow_one h,Nat.mul_one,List.map_replicate,hz]
end
theorem yO {α:Type}{f:α→Value}{l:List α}{x:α}{v:Value}(h:v=f x):l.map f++[v]=(l++[x]).map f:=by rw[h,List.map_append];rfl
theorem cell_bytes {l:List UInt8}{i:Int}(hi:0≤i∧i<l.length):(bytesV l)[0+i.toNat*1]?=some (.int .u8 (bat l i)):=by
 have h:i.toNat<l.length:=by omega
 rw[Nat.zero_add,Nat.mul_one]
 unfold bytesV bat
 rw[List.getElem?_map,List.getElem?_eq_getElem h,List.getD_eq_getElem?_getD,List.getElem?_eq_getElem h];rfl
theorem bytesV_app {l m:List UInt8}:bytesV (l++m)=bytesV l++bytesV m:=by unfold bytesV;rw[List.map_append]
@[simp] theorem bytesV_nil :bytesV []=[]:=rfl
theorem bytesV_all (l:List UInt8):(bytesV l).all one=true:=by unfold bytesV;simp[one]
def b8 (n:Int):UInt8:=UInt8.ofNat n.toNat
theorem b8_val {n:Int}(h:0≤n∧n<256):((b8 n).toNat:Int)=n:=by
 unfold b8;rw[UInt8.toNat_ofNat'];omega
theorem bytesV_one {n:Int}(h:0≤n∧n<256):bytesV [b8 n]=[.int .u8 n]:=by
 show [Value.int .u8 ((b8 n).toNat:Int)]=_;rw[b8_val h]
theorem bytesV_snoc {l:List UInt8}{n:Int}(h:0≤n∧n<256):bytesV l++[.int .u8 n]=bytesV (l++[b8 n]):=by rw[bytesV_app,bytesV_one h]
theorem setAt_bytes {l:List UInt8}{i n:Int}(hi:0≤i∧i<l.length)(h:0≤n∧n<256):SetAt (bytesV l) (0+i.toNat*1) (.int .u8 n) (bytesV (l.set i.toNat (b8 n))):=by
 have e:(.int .u8 n:Value)=.int .u8 ((b8 n).toNat:Int):=by rw[b8_val h]
 have hlt:i.toNat<l.length:=by omega
 rw[e]
 exact setAt_map (f:=fun c:UInt8=>Value.int .u8 (c.toNat:Int)) (x:=b8 n) hlt

section
variable {P:Program} {tt:TT} {a:AF} {h h1:SH} {fn:Func} {R:Value→SH→Prop} {vs:List Value}
theorem res_cell {A n b T:Nat}{cs:List Value}{ro:Bool}{e:TE}{r:List ResultVar}{us:List Value}(ht:tt.Ok P)(hb:get a b=some (gptr A 0 n))(hT:tt.get T=some e)(hk:e.k.agg=true)(hp:Pick h A ⟨cs,ro⟩ h1)(hn:cs.length=n)(hs:cs.length=e.sz)(hr:ResS P a h r us) :
  ResS P a h (.cell b T::r) (.agg ⟨cs⟩::us):=by
 refine⟨⟨A,0,n,⟨cs,ro⟩,h1,hb,hp,hn,.inl ?_⟩,hr⟩
 obtain⟨z,hI,_⟩:=te_inf (TT.get_ok ht hT)
 refine⟨z,_,_,by rw[te_agg (TT.get_ok ht hT),hk],hI,by simp[hs],?_⟩
 rw[List.drop_zero,←hs]
 congr 1
 simp
end
section
variable {P:Program} {sz:Nat} {ops:Array Oper} {Q:SPost} {rest:List Oper} {a:AF} {h:SH} {m:Mode} {t j d:Nat} {op:Op} {ty:TypeId} {pos:String} {aft:Array Edge}
theorem w_meet {S:Type}{c y:Code}{Q':SPost}(A:S→AF)(G:S→SH)(I:S→Prop)
  (k1:SWp P sz c (thenS (fun a' h'=>∃s,I s∧Sub (A s) a'∧Take h' (G s)) Q') a h) (k2:∀s,I s→SWp P sz y Q (A s) (G s)):SWp P sz c (thenS (fun a h=>SWp P sz y Q a h) Q') a h :=
 w_cut A G I k1 fun s hs _ _ h1 h2=>(k2 s hs).take h1 h2
theorem w_ifN {c:Operand}{x y:Code}{q:Prop}{_:Decidable ((¬q))}(hc:ev a c=some (.bool (decide (¬q))))(h1:¬q→SWp P sz x Q a h)(h2:q→SWp P sz y Q a h):SWp P sz (.cond c x y) Q a h :=
 w_if hc h1 (fun hn=>h2 (Classical.not_not.1 hn))
theorem o_guardTN {q:Prop}{_:Decidable (¬q)}(hd:(ops[j]?).bind (·.dst)=some d)(hb:get a d=some (.bool (decide (¬q))))(hN:Nat.blt t sz=true)
  (h1:¬q→GO m P sz ops Q (⟨some t,op,ty,pos,aft,none⟩::rest) ((d,.bool true)::a) h) (h2:q→GO m.next P sz ops Q rest ((t,undef)::(d,.bool false)::a) h) :
  GO m P sz ops Q (⟨some t,op,ty,pos,aft,some (j,true)⟩::rest) a h:=o_guardT hd hb hN h1 (fun hn=>h2 (Classical.not_not.1 hn))
theorem o_guardFN {q:Prop}{_:Decidable (¬q)}(hd:(ops[j]?).bind (·.dst)=some d)(hb:get a d=some (.bool (decide (¬q))))(hN:Nat.blt t sz=true)
  (h1:q→GO m P sz ops Q (⟨some t,op,ty,pos,aft,none⟩::rest) ((d,.bool false)::a) h) (h2:¬q→GO m.next P sz ops Q rest ((t,undef)::(d,.bool true)::a) h) :
  GO m P sz ops Q (⟨some t,op,ty,pos,aft,some (j,false)⟩::rest) a h:=o_guardF hd hb hN (fun hn=>h1 (Classical.not_not.1 hn)) h2
theorem o_gT {p:Prop}{_:Decidable (p)}{want:Bool}(hd:(ops[j]?).bind (·.dst)=some d)(hb:get a d=some (.bool (decide p)))(hw:want=true)(hp:p)
  (k:GO m P sz ops Q (⟨some t,op,ty,pos,aft,none⟩::rest) ((d,.bool true)::a) h):GO m P sz ops Q (⟨some t,op,ty,pos,aft,some (j,want)⟩::rest) a h:=by
 subst hw
 rw[decide_eq_true hp]at hb
 exact o_again hb (zU hd (by unfold get;rw[show Nat.beq d d=true from Nat.beq_refl d];rfl) k)
theorem o_gF {p:Prop}{_:Decidable (p)}{want:Bool}(hd:(ops[j]?).bind (·.dst)=some d)(hb:get a d=some (.bool (decide p)))(hw:want=false)(hp:¬p)
  (k:GO m P sz ops Q (⟨some t,op,ty,pos,aft,none⟩::rest) ((d,.bool false)::a) h):GO m P sz ops Q (⟨some t,op,ty,pos,aft,some (j,want)⟩::rest) a h:=by
 subst hw
 rw[decide_eq_false hp]at hb
 exact o_again hb (zU hd (by unfold get;rw[show Nat.beq d d=true from Nat.beq_refl d];rfl) k)
theorem o_sF {p:Prop}{_:Decidable (p)}{want:Bool}(hd:(ops[j]?).bind (·.dst)=some d)(hb:get a d=some (.bool (decide p)))(hw:want=true)(hp:¬p)(hN:Nat.blt t sz=true)
  (k:GO m.next P sz ops Q rest ((t,undef)::(d,.bool false)::a) h):GO m P sz ops Q (⟨some t,op,ty,pos,aft,some (j,want)⟩::rest) a h:=by
 subst hw
 rw[decide_eq_false hp]at hb
 exact o_again hb (yF hd (by unfold get;rw[show Nat.beq d d=true from Nat.beq_refl d];rfl) rfl hN k)
theorem o_sT {p:Prop}{_:Decidable (p)}{want:Bool}(hd:(ops[j]?).bind (·.dst)=some d)(hb:get a d=some (.bool (decide p)))(hw:want=false)(hp:p)(hN:Nat.blt t sz=true)
  (k:GO m.next P sz ops Q rest ((t,undef)::(d,.bool true)::a) h):GO m P sz ops Q (⟨some t,op,ty,pos,aft,some (j,want)⟩::rest) a h:=by
 subst hw
 rw[decide_eq_true hp]at hb
 exact o_again hb (yF hd (by unfold get;rw[show Nat.beq d d=true from Nat.beq_refl d];rfl) rfl hN k)
end
section
variable {P:Program} {f:FuncId} {fn:Func} {c:Code} {h:SH} {R:Value→SH→Prop} {x0 x1 x2 x3 x4 x5 x6 x7 x8 x9:Value}
theorem w_body0 (hf:P.funcs[f]?=some fn)(hb:fn.body=some c)(hN:Nat.ble 0 fn.ntmps=true)(k:SWp P fn.ntmps c (bodyS P fn R) [] h):SRun P f [] h R:=w_body hf hb hN k
theorem zR (hf:P.funcs[f]?=some fn)(hb:fn.body=some c)(hN:Nat.ble 1 fn.ntmps=true)(k:SWp P fn.ntmps c (bodyS P fn R) [(0,x0)] h):SRun P f [x0] h R:=w_body hf hb hN k
theorem zY (hf:P.funcs[f]?=some fn)(hb:fn.body=some c)(hN:Nat.ble 2 fn.ntmps=true)(k:SWp P fn.ntmps c (bodyS P fn R) [(0,x0),(1,x1)] h):SRun P f [x0,x1] h R:=w_body hf hb hN k
theorem w_body3 (hf:P.funcs[f]?=some fn)(hb:fn.body=some c)(hN:Nat.ble 3 fn.ntmps=true)(k:SWp P fn.ntmps c (bodyS P fn R) [(0,x0),(1,x1),(2,x2)] h):SRun P f [x0,x1,x2] h R:=w_body hf hb hN k
theorem w_body4 (hf:P.funcs[f]?=some fn)(hb:fn.body=some c)(hN:Nat.ble 4 fn.ntmps=true)(k:SWp P fn.ntmps c (bodyS P fn R) [(0,x0),(1,x1),(2,x2),(3,x3)] h):SRun P f [x0,x1,x2,x3] h R:=w_body hf hb hN k
theorem w_body5 (hf:P.funcs[f]?=some fn)(hb:fn.body=some c)(hN:Nat.ble 5 fn.ntmps=true)(k:SWp P fn.ntmps c (bodyS P fn R) [(0,x0),(1,x1),(2,x2),(3,x3),(4,x4)] h):SRun P f [x0,x1,x2,x3,x4] h R:=w_body hf hb hN k
theorem w_body7 (hf:P.funcs[f]?=some fn)(hb:fn.body=some c)(hN:Nat.ble 7 fn.ntmps=true)(k:SWp P fn.ntmps c (bodyS P fn R) [(0,x0),(1,x1),(2,x2),(3,x3),(4,x4),(5,x5),(6,x6)] h):SRun P f [x0,x1,x2,x3,x4,x5,x6] h R:=w_body hf hb hN k
end
theorem Pick.comm {h h1 h2:SH}{A B:Nat}{a b:Blk}(p:Pick h A a h1)(q:Pick h1 B b h2):∃h3,Pick h B b h3∧Pick h3 A a h2:=by
 induction p generalizing h2 with
 |head=>exact⟨_,.tail q,.head⟩
 |tail p ih =>
  cases q with
  |head=>exact⟨_,.head,p⟩
  |tail q=>obtain⟨h3,g1,g2⟩:=ih q;exact⟨_,.tail g1,.tail g2⟩
theorem Take.pick {h h1 h1':SH}{A:Nat}{b:Blk}(t:Take h h1)(p:Pick h1 A b h1'):∃h',Pick h A b h'∧Take h' h1':=by
 induction t generalizing h1' with
 |nil=>exact⟨_,p,.nil⟩
 |cons pk t ih =>
  cases p with
  |head=>exact⟨_,pk,t⟩
  |tail p=>obtain⟨h2,g1,g2⟩:=ih p;obtain⟨h3,g3,g4⟩:=pk.comm g1;exact⟨h3,g3,.cons g4 g2⟩
 |consE pk e t ih =>
  subst e
  cases p with
  |head=>exact⟨_,pk,t⟩
  |tail p=>obtain⟨h2,g1,g2⟩:=ih p;obtain⟨h3,g3,g4⟩:=pk.comm g1;exact⟨h3,g3,.cons g4 g2⟩
 |drop t ih=>obtain⟨h2,g1,g2⟩:=ih p;exact⟨_,.tail g1,.drop g2⟩
theorem Take.part {h h' r:SH}{A:Nat}{b:Blk}(p:Pick h A b h')(t:Take h' r):Take h r:=by
 induction t generalizing h with
 |@nil h' =>
  induction p with
  |head=>exact .drop .nil
  |@tail A b x h h1 p ih=>obtain⟨B,c⟩:=x;exact .cons .head ih
 |cons q _ ih=>obtain⟨h3,g1,g2⟩:=p.comm q;exact .cons g1 (ih g2)
 |consE q e _ ih=>obtain⟨h3,g1,g2⟩:=p.comm q;exact .consE g1 e (ih g2)
 |@drop x h1 r t ih =>
  cases p with
  |head=>exact .drop (.drop t)
  |tail p=>exact .drop (ih p)
theorem Take.trans {h h1 h2:SH}(t:Take h h1)(u:Take h1 h2):Take h h2:=by
 induction u generalizing h with
 |nil=>exact t
 |cons p _ ih=>obtain⟨h',g1,g2⟩:=t.pick p;exact .cons g1 (ih g2)
 |consE p e _ ih=>obtain⟨h',g1,g2⟩:=t.pick p;exact .consE g1 e (ih g2)
 |@drop x h1 r u ih =>
  obtain⟨A,b⟩:=x
  obtain⟨h',g1,g2⟩:=t.pick .head
  exact Take.part g1 (ih g2)
theorem SRun.take {P:Program}{f:FuncId}{as0:List Value}{p p':SH}{R:Value→SH→Prop}(t:Take p p')(k:SRun P f as0 p' R):SRun P f as0 p R:=by
 unfold SRun at k ⊢
 intro H i
 exact(k H (i.le t.le).refl).mono fun r H' ⟨q,g1,g2⟩=>⟨q,g1,(i.le t.le).comp g2⟩
theorem drop_bang {α:Type}[Inhabited α]{l:List α}{k:Nat}(h:k<l.length):l.drop k=l[k]!::l.drop (k+1):=by
 rw[List.drop_eq_getElem_cons h,getElem!_pos l k h]
def Has (h:SH)(c:List Value)(w n:Nat)(v:Value):Prop:=∃ad fl,v=.slice ad n fl∧(n≠0→∃A ro h1,ad=some ⟨A,0,some (w*n)⟩∧Pick h A ⟨c,ro⟩ h1)
theorem pick_lock {h h1:SH}{A:Nat}{b:Blk}(p:Pick h A b h1):Pick (lockS h) A b.lock (lockS h1):=by
 induction p with
 |head=>exact .head
 |tail _ ih=>exact .tail ih
theorem yL {h h1:SH}(t:Take h h1):Take (lockS h) (lockS h1):=by
 induction t with
 |nil=>exact .nil
 |cons p _ ih=>exact .cons (pick_lock p) ih
 |consE p e _ ih=>subst e;exact .cons (pick_lock p) ih
 |drop _ ih=>exact .drop ih
theorem Has.lock {h:SH}{c:List Value}{w n:Nat}{v:Value}(k:Has h c w n v):Has (lockS h) c w n v:=by
 obtain⟨ad,fl,e,k⟩:=k
 refine⟨ad,fl,e,fun hn=>?_⟩
 obtain⟨A,ro,h1,e2,p⟩:=k hn
 exact⟨A,_,_,e2,pick_lock p⟩
theorem Has.re {h h':SH}{c:List Value}{w n:Nat}{v:Value}(k:Has h c w n v)(t:Take h' h):Has h' c w n v:=by
 obtain⟨ad,fl,e,k⟩:=k
 refine⟨ad,fl,e,fun hn=>?_⟩
 obtain⟨A,ro,h1,e2,p⟩:=k hn
 obtain⟨h2,g,_⟩:=t.pick p
 exact⟨A,ro,h2,e2,g⟩
theorem blkE {c c':List Value}{ro:Bool}(h:c=c'):(⟨c,ro⟩:Blk)=⟨c',ro⟩:=by rw[h]
theorem gslE {A A' o o' n n' l l' f f':Nat}(h1:A=A')(h2:o=o')(h3:n=n')(h4:l=l')(h5:f=f'):gsl A o n l f=gsl A' o' n' l' f':=by subst h1 h2 h3 h4 h5;rfl

abbrev UB (x:BitVec 32):Value:=.int .u32 x.toNat
theorem ofInt_toNat (x:BitVec 32):BitVec.ofInt 32 (x.toNat:Int)=x:=by
 apply BitVec.eq_of_toNat_eq
 rw[BitVec.toNat_ofInt]
 have:=x.isLt
 omega
theorem a_compl {P:Program}{N:Fr}{o:Oper}{a:AF}{H:Heap}(T:TypeId)(x:Operand){b:BitVec 32}(ho:o.op=.unOp .xor T x)(hx:ev a x=some (UB b)):APure P N o a H (UB (~~~ b)):=by
 refine⟨fun _ _ φ w ac _ hf=>?_⟩
 have h1:=(zW hf hx).scalar rfl
 have hv:IntKind.u32.wrap ((BitVec.ofInt 32 4294967295^^^BitVec.ofInt 32 (b.toNat:Int)).toNat:Int)=((~~~ b).toNat:Int):=by
  rw[ofInt_toNat,show BitVec.ofInt 32 4294967295=BitVec.allOnes 32 from rfl,BitVec.allOnes_xor]
  exact IntWalk.u32_in _ (by have:=(~~~ b).isLt;omega)
 exact⟨_,.int _ _,fun w _=>by
  unfold execOp
  simp only[ho,h1,Op.unary,Op.intBits,Sem.run_bind,Sem.run_pure,Result.andThen_ok]
  exact congrArg (fun v=>Result.ok (Next.value (Value.int .u32 v)) w) hv⟩
theorem o_compl {m:Mode}{P:Program}{sz:Nat}{ops:Array Oper}{Q:SPost}{rest:List Oper}{a:AF}{h:SH}{t:Nat}{ty:TypeId}{pos:String}{aft:Array Edge}{T:Nat}{x:Operand}{b:BitVec 32}
  (hx:ev a x=some (UB b)) (hN:Nat.blt t sz=true) (k:GO m.next P sz ops Q rest ((t,UB (~~~ b))::a) h):GO m P sz ops Q (⟨some t,.unOp .xor T x,ty,pos,aft,none⟩::rest) a h :=
 o_pure (fun _ _ _ hag=>a_compl _ _ rfl ((hag.ev (by simp[Op.operands,Call.operands])).trans hx)) hN k
end Go.Gh
end
section
namespace Go.Proofs.YteddogfolceahaaGreat
open Go.Gh
@[reducible] def te0 :TE:=⟨.other,1,0,some (.tuple ⟨[]⟩)⟩
theorem ty0 :zO Tryz.prog 0=some te0:=by kernel_rfl
@[reducible] def te1 :TE:=⟨.other,1,8,some (.nilFunc)⟩
theorem ty1 :zO Tryz.prog 1=some te1:=by kernel_rfl
@[reducible] def te2 :TE:=⟨.int .i64,1,8,some (.int .i64 0)⟩
theorem ty2 :zO Tryz.prog 2=some te2:=by kernel_rfl
@[reducible] def te3 :TE:=⟨.int .i64,1,8,some (.int .i64 0)⟩
theorem ty3 :zO Tryz.prog 3=some te3:=by kernel_rfl
@[reducible] def te4 :TE:=⟨.bool,1,1,some (.bool false)⟩
theorem ty4 :zO Tryz.prog 4=some te4:=by kernel_rfl
@[reducible] def te5 :TE:=⟨.int .u8,1,1,some (.int .u8 0)⟩
theorem ty5 :zO Tryz.prog 5=some te5:=by kernel_rfl
@[reducible] def te6 :TE:=⟨.int .u8,1,1,some (.int .u8 0)⟩
theorem ty6 :zO Tryz.prog 6=some te6:=by kernel_rfl
@[reducible] def te7 :TE:=⟨.st [(2,0),(3,1),(4,2),(6,3)],4,24,some (.agg ⟨[.int .i64 0,.int .i64 0,.bool false,.int .u8 0]⟩)⟩
theorem ty7 :zO Tryz.prog 7=some te7:=by kernel_rfl
@[reducible] def te8 :TE:=⟨.st [(2,0),(3,1),(4,2),(6,3)],4,24,some (.agg ⟨[.int .i64 0,.int .i64 0,.bool false,.int .u8 0]⟩)⟩
theorem ty8 :zO Tryz.prog 8=some te8:=by kernel_rfl
@[reducible] def te9 :TE:=⟨.str,1,16,some (.string ⟨⟨[]⟩⟩)⟩
theorem ty9 :zO Tryz.prog 9=some te9:=by kernel_rfl
@[reducible] def te10 :TE:=⟨.str,1,16,some (.string ⟨⟨[]⟩⟩)⟩
theorem ty10 :zO Tryz.prog 10=some te10:=by kernel_rfl
@[reducible] def te11 :TE:=⟨.str,1,16,some (.string ⟨⟨[]⟩⟩)⟩
theorem ty11 :zO Tryz.prog 11=some te11:=by kernel_rfl
@[reducible] def te12 :TE:=⟨.int .u64,1,8,some (.int .u64 0)⟩
theorem ty12 :zO Tryz.prog 12=some te12:=by kernel_rfl
@[reducible] def te13 :TE:=⟨.st [(9,0),(12,1)],2,24,some (.agg ⟨[.string ⟨⟨[]⟩⟩,.int .u64 0]⟩)⟩
theorem ty13 :zO Tryz.prog 13=some te13:=by kernel_rfl
@[reducible] def te14 :TE:=⟨.st [(9,0),(12,1)],2,24,some (.agg ⟨[.string ⟨⟨[]⟩⟩,.int .u64 0]⟩)⟩
theorem ty14 :zO Tryz.prog 14=some te14:=by kernel_rfl
@[reducible] def te15 :TE:=⟨.ptr 296,1,8,some (.pointer none)⟩
theorem ty15 :zO Tryz.prog 15=some te15:=by kernel_rfl
@[reducible] def te16 :TE:=⟨.ptr 299,1,8,some (.pointer none)⟩
theorem ty16 :zO Tryz.prog 16=some te16:=by kernel_rfl
@[reducible] def te17 :TE:=⟨.ptr 306,1,8,some (.pointer none)⟩
theorem ty17 :zO Tryz.prog 17=some te17:=by kernel_rfl
@[reducible] def te18 :TE:=⟨.st [(17,0)],1,8,some (.agg ⟨[.pointer none]⟩)⟩
theorem ty18 :zO Tryz.prog 18=some te18:=by kernel_rfl
@[reducible] def te19 :TE:=⟨.st [(17,0)],1,8,some (.agg ⟨[.pointer none]⟩)⟩
theorem ty19 :zO Tryz.prog 19=some te19:=by kernel_rfl
@[reducible] def te20 :TE:=⟨.other,1,16,some (.nilIface)⟩
theorem ty20 :zO Tryz.prog 20=some te20:=by kernel_rfl
@[reducible] def te21 :TE:=⟨.int .i32,1,4,some (.int .i32 0)⟩
theorem ty21 :zO Tryz.prog 21=some te21:=by kernel_rfl
@[reducible] def te22 :TE:=⟨.slice 33,1,24,some (.slice none 0 0)⟩
theorem ty22 :zO Tryz.prog 22=some te22:=by kernel_rfl
@[reducible] def te23 :TE:=⟨.int .u16,1,2,some (.int .u16 0)⟩
theorem ty23 :zO Tryz.prog 23=some te23:=by kernel_rfl
@[reducible] def te24 :TE:=⟨.int .u32,1,4,some (.int .u32 0)⟩
theorem ty24 :zO Tryz.prog 24=some te24:=by kernel_rfl
@[reducible] def te25 :TE:=⟨.other,1,8,some (.nilFunc)⟩
theorem ty25 :zO Tryz.prog 25=some te25:=by kernel_rfl
@[reducible] def te26 :TE:=⟨.other,1,8,some (.nilFunc)⟩
theorem ty26 :zO Tryz.prog 26=some te26:=by kernel_rfl
@[reducible] def te27 :TE:=⟨.int .i64,1,8,some (.int .i64 0)⟩
theorem ty27 :zO Tryz.prog 27=some te27:=by kernel_rfl
@[reducible] def te28 :TE:=⟨.other,1,0,some (.tuple ⟨[.string ⟨⟨[]⟩⟩,.int .i64 0]⟩)⟩
theorem ty28 :zO Tryz.prog 28=some te28:=by kernel_rfl
@[reducible] def te29 :TE:=⟨.other,1,8,some (.nilFunc)⟩
theorem ty29 :zO Tryz.prog 29=some te29:=by kernel_rfl
@[reducible] def te30 :TE:=⟨.slice 35,1,24,some (.slice none 0 0)⟩
theorem ty30 :zO Tryz.prog 30=some te30:=by kernel_rfl
@[reducible] def te31 :TE:=⟨.other,1,8,some (.nilFunc)⟩
theorem ty31 :zO Tryz.prog 31=some te31:=by kernel_rfl
@[reducible] def te32 :TE:=⟨.st [(3,0),(9,1)],2,24,some (.agg ⟨[.int .i64 0,.string ⟨⟨[]⟩⟩]⟩)⟩
theorem ty32 :zO Tryz.prog 32=some te32:=by kernel_rfl
@[reducible] def te33 :TE:=⟨.st [(3,0),(9,1)],2,24,some (.agg ⟨[.int .i64 0,.string ⟨⟨[]⟩⟩]⟩)⟩
theorem ty33 :zO Tryz.prog 33=some te33:=by kernel_rfl
@[reducible] def te34 :TE:=⟨.st [(3,0),(3,1),(33,2)],4,40,some (.agg ⟨[.int .i64 0,.int .i64 0,.int .i64 0,.string ⟨⟨[]⟩⟩]⟩)⟩
theorem ty34 :zO Tryz.prog 34=some te34:=by kernel_rfl
@[reducible] def te35 :TE:=⟨.st [(3,0),(3,1),(33,2)],4,40,some (.agg ⟨[.int .i64 0,.int .i64 0,.int .i64 0,.string ⟨⟨[]⟩⟩]⟩)⟩
theorem ty35 :zO Tryz.prog 35=some te35:=by kernel_rfl
@[reducible] def te36 :TE:=⟨.other,1,8,some (.nilFunc)⟩
theorem ty36 :zO Tryz.prog 36=some te36:=by kernel_rfl
@[reducible] def te37 :TE:=⟨.slice 5,1,24,some (.slice none 0 0)⟩
theorem ty37 :zO Tryz.prog 37=some te37:=by kernel_rfl
@[reducible] def te38 :TE:=⟨.other,1,0,some (.tuple ⟨[.agg ⟨[.int .i64 0,.string ⟨⟨[]⟩⟩]⟩,.int .i64 0,.int .i64 0]⟩)⟩
theorem ty38 :zO Tryz.prog 38=some te38:=by kernel_rfl
@[reducible] def te39 :TE:=⟨.other,1,8,some (.nilFunc)⟩
theorem ty39 :zO Tryz.prog 39=some te39:=by kernel_rfl
@[reducible] def te40 :TE:=⟨.other,1,0,some (.tuple ⟨[.slice none 0 0,.int .i64 0]⟩)⟩
theorem ty40 :zO Tryz.prog 40=some te40:=by kernel_rfl
@[reducible] def te41 :TE:=⟨.other,1,8,some (.nilFunc)⟩
theorem ty41 :zO Tryz.prog 41=some te41:=by kernel_rfl
@[reducible] def te42 :TE:=⟨.other,1,8,some (.nilFunc)⟩
theorem ty42 :zO Tryz.prog 42=some te42:=by kernel_rfl
@[reducible] def te43 :TE:=⟨.other,1,0,some (.tuple ⟨[.int .i64 0,.bool false]⟩)⟩
theorem ty43 :zO Tryz.prog 43=some te43:=by kernel_rfl
@[reducible] def te44 :TE:=⟨.other,1,8,some (.nilFunc)⟩
theorem ty44 :zO Tryz.prog 44=some te44:=by kernel_rfl
@[reducible] def te45 :TE:=⟨.other,1,0,some (.tuple ⟨[.string ⟨⟨[]⟩⟩,.bool false]⟩)⟩
theorem ty45 :zO Tryz.prog 45=some te45:=by kernel_rfl
@[reducible] def te46 :TE:=⟨.other,1,8,some (.nilFunc)⟩
theorem ty46 :zO Tryz.prog 46=some te46:=by kernel_rfl
@[reducible] def te47 :TE:=⟨.other,1,8,some (.nilFunc)⟩
theorem ty47 :zO Tryz.prog 47=some te47:=by kernel_rfl
@[reducible] def te48 :TE:=⟨.st [(3,0),(3,1),(3,2),(3,3)],4,32,some (.agg ⟨[.int .i64 0,.int .i64 0,.int .i64 0,.int .i64 0]⟩)⟩
theorem ty48 :zO Tryz.prog 48=some te48:=by kernel_rfl
@[reducible] def te49 :TE:=⟨.st [(3,0),(3,1),(3,2),(3,3)],4,32,some (.agg ⟨[.int .i64 0,.int .i64 0,.int .i64 0,.int .i64 0]⟩)⟩
theorem ty49 :zO Tryz.prog 49=some te49:=by kernel_rfl
@[reducible] def te50 :TE:=⟨.slice 81,1,24,some (.slice none 0 0)⟩
theorem ty50 :zO Tryz.prog 50=some te50:=by kernel_rfl
@[reducible] def te51 :TE:=⟨.other,1,0,some (.tuple ⟨[.int .i64 0,.int .i64 0]⟩)⟩
theorem ty51 :zO Tryz.prog 51=some te51:=by kernel_rfl
@[reducible] def te52 :TE:=⟨.other,1,8,some (.nilFunc)⟩
theorem ty52 :zO Tryz.prog 52=some te52:=by kernel_rfl
@[reducible] def te53 :TE:=⟨.other,1,8,some (.nilFunc)⟩
theorem ty53 :zO Tryz.prog 53=some te53:=by kernel_rfl
@[reducible] def te54 :TE:=⟨.other,1,0,some (.tuple ⟨[.slice none 0 0,.int .i64 0]⟩)⟩
theorem ty54 :zO Tryz.prog 54=some te54:=by kernel_rfl
@[reducible] def te55 :TE:=⟨.other,1,8,some (.nilFunc)⟩
theorem ty55 :zO Tryz.prog 55=some te55:=by kernel_rfl
@[reducible] def te56 :TE:=⟨.other,1,8,some (.nilFunc)⟩
theorem ty56 :zO Tryz.prog 56=some te56:=by kernel_rfl
@[reducible] def te57 :TE:=⟨.other,1,8,some (.nilFunc)⟩
theorem ty57 :zO Tryz.prog 57=some te57:=by kernel_rfl
@[reducible] def te58 :TE:=⟨.other,1,8,some (.nilFunc)⟩
theorem ty58 :zO Tryz.prog 58=some te58:=by kernel_rfl
@[reducible] def te59 :TE:=⟨.other,1,8,some (.nilFunc)⟩
theorem ty59 :zO Tryz.prog 59=some te59:=by kernel_rfl
@[reducible] def te60 :TE:=⟨.slice 3,1,24,some (.slice none 0 0)⟩
theorem ty60 :zO Tryz.prog 60=some te60:=by kernel_rfl
@[reducible] def te61 :TE:=⟨.slice 9,1,24,some (.slice none 0 0)⟩
theorem ty61 :zO Tryz.prog 61=some te61:=by kernel_rfl
@[reducible] def te62 :TE:=⟨.other,1,8,some (.nilFunc)⟩
theorem ty62 :zO Tryz.prog 62=some te62:=by kernel_rfl
@[reducible] def te63 :TE:=⟨.other,1,8,some (.nilFunc)⟩
theorem ty63 :zO Tryz.prog 63=some te63:=by kernel_rfl
@[reducible] def te64 :TE:=⟨.other,1,0,some (.tuple ⟨[.slice none 0 0,.int .i64 0]⟩)⟩
theorem ty64 :zO Tryz.prog 64=some te64:=by kernel_rfl
@[reducible] def te65 :TE:=⟨.other,1,8,some (.nilFunc)⟩
theorem ty65 :zO Tryz.prog 65=some te65:=by kernel_rfl
@[reducible] def te66 :TE:=⟨.other,1,0,some (.tuple ⟨[.slice none 0 0,.int .i64 0]⟩)⟩
theorem ty66 :zO Tryz.prog 66=some te66:=by kernel_rfl
@[reducible] def te67 :TE:=⟨.other,1,8,some (.nilFunc)⟩
theorem ty67 :zO Tryz.prog 67=some te67:=by kernel_rfl
@[reducible] def te68 :TE:=⟨.other,1,8,some (.nilFunc)⟩
theorem ty68 :zO Tryz.prog 68=some te68:=by kernel_rfl
@[reducible] def te69 :TE:=⟨.other,1,8,some (.nilFunc)⟩
theorem ty69 :zO Tryz.prog 69=some te69:=by kernel_rfl
@[reducible] def te70 :TE:=⟨.other,1,8,some (.nilFunc)⟩
theorem ty70 :zO Tryz.prog 70=some te70:=by kernel_rfl
@[reducible] def te71 :TE:=⟨.other,1,8,some (.nilFunc)⟩
theorem ty71 :zO Tryz.prog 71=some te71:=by kernel_rfl
@[reducible] def te72 :TE:=⟨.other,1,8,some (.nilFunc)⟩
theorem ty72 :zO Tryz.prog 72=some te72:=by kernel_rfl
@[reducible] def te73 :TE:=⟨.other,1,0,some (.tuple ⟨[.agg ⟨[.int .i64 0,.string ⟨⟨[]⟩⟩]⟩,.int .i64 0,.bool false,.bool false]⟩)⟩
theorem ty73 :zO Tryz.prog 73=some te73:=by kernel_rfl
@[reducible] def te74 :TE:=⟨.other,1,8,some (.nilFunc)⟩
theorem ty74 :zO Tryz.prog 74=some te74:=by kernel_rfl
@[reducible] def te75 :TE:=⟨.other,1,8,some (.nilFunc)⟩
theorem ty75 :zO Tryz.prog 75=some te75:=by kernel_rfl
@[reducible] def te76 :TE:=⟨.arr 8 24,8,32,some (.agg ⟨[.int .u32 0,.int .u32 0,.int .u32 0,.int .u32 0,.int .u32 0,.int .u32 0,.int .u32 0,.int .u32 0]⟩)⟩
theorem ty76 :zO Tryz.prog 76=some te76:=by kernel_rfl
@[reducible] def te77 :TE:=⟨.other,1,8,some (.nilFunc)⟩
theorem ty77 :zO Tryz.prog 77=some te77:=by kernel_rfl
@[reducible] def te78 :TE:=⟨.other,1,8,some (.nilFunc)⟩
theorem ty78 :zO Tryz.prog 78=some te78:=by kernel_rfl
@[reducible] def te79 :TE:=⟨.other,1,8,some (.nilFunc)⟩
theorem ty79 :zO Tryz.prog 79=some te79:=by kernel_rfl
@[reducible] def te80 :TE:=⟨.st [(3,0),(3,1),(5,2)],3,24,some (.agg ⟨[.int .i64 0,.int .i64 0,.int .u8 0]⟩)⟩
theorem ty80 :zO Tryz.prog 80=some te80:=by kernel_rfl
@[reducible] def te81 :TE:=⟨.st [(3,0),(3,1),(5,2)],3,24,some (.agg ⟨[.int .i64 0,.int .i64 0,.int .u8 0]⟩)⟩
theorem ty81 :zO Tryz.prog 81=some te81:=by kernel_rfl
@[reducible] def te82 :TE:=⟨.other,1,8,some (.nilFunc)⟩
theorem ty82 :zO Tryz.prog 82=some te82:=by kernel_rfl
@[reducible] def te83 :TE:=⟨.other,1,8,some (.nilFunc)⟩
theorem ty83 :zO Tryz.prog 83=some te83:=by kernel_rfl
@[reducible] def te84 :TE:=⟨.other,1,8,some (.nilFunc)⟩
theorem ty84 :zO Tryz.prog 84=some te84:=by kernel_rfl
@[reducible] def te85 :TE:=⟨.other,1,8,some (.nilFunc)⟩
theorem ty85 :zO Tryz.prog 85=some te85:=by kernel_rfl
@[reducible] def te86 :TE:=⟨.slice 90,1,24,some (.slice none 0 0)⟩
theorem ty86 :zO Tryz.prog 86=some te86:=by kernel_rfl
@[reducible] def te87 :TE:=⟨.other,1,0,some (.tuple ⟨[.slice none 0 0,.int .i64 0]⟩)⟩
theorem ty87 :zO Tryz.prog 87=some te87:=by kernel_rfl
@[reducible] def te88 :TE:=⟨.other,1,8,some (.nilFunc)⟩
theorem ty88 :zO Tryz.prog 88=some te88:=by kernel_rfl
@[reducible] def te89 :TE:=⟨.st [(3,0),(3,1)],2,16,some (.agg ⟨[.int .i64 0,.int .i64 0]⟩)⟩
theorem ty89 :zO Tryz.prog 89=some te89:=by kernel_rfl
@[reducible] def te90 :TE:=⟨.st [(3,0),(3,1)],2,16,some (.agg ⟨[.int .i64 0,.int .i64 0]⟩)⟩
theorem ty90 :zO Tryz.prog 90=some te90:=by kernel_rfl
@[reducible] def te91 :TE:=⟨.other,1,8,some (.nilFunc)⟩
theorem ty91 :zO Tryz.prog 91=some te91:=by kernel_rfl
@[reducible] def te92 :TE:=⟨.ptr 142,1,8,some (.pointer none)⟩
theorem ty92 :zO Tryz.prog 92=some te92:=by kernel_rfl
@[reducible] def te93 :TE:=⟨.ptr 147,1,8,some (.pointer none)⟩
theorem ty93 :zO Tryz.prog 93=some te93:=by kernel_rfl
@[reducible] def te94 :TE:=⟨.ptr 149,1,8,some (.pointer none)⟩
theorem ty94 :zO Tryz.prog 94=some te94:=by kernel_rfl
@[reducible] def te95 :TE:=⟨.st [(92,0),(93,1),(94,2),(94,3)],4,32,some (.agg ⟨[.pointer none,.pointer none,.pointer none,.pointer none]⟩)⟩
theorem ty95 :zO Tryz.prog 95=some te95:=by kernel_rfl
@[reducible] def te96 :TE:=⟨.st [(92,0),(93,1),(94,2),(94,3)],4,32,some (.agg ⟨[.pointer none,.pointer none,.pointer none,.pointer none]⟩)⟩
theorem ty96 :zO Tryz.prog 96=some te96:=by kernel_rfl
@[reducible] def te97 :TE:=⟨.other,1,8,some (.nilFunc)⟩
theorem ty97 :zO Tryz.prog 97=some te97:=by kernel_rfl
@[reducible] def te98 :TE:=⟨.ptr 140,1,8,some (.pointer none)⟩
theorem ty98 :zO Tryz.prog 98=some te98:=by kernel_rfl
@[reducible] def te99 :TE:=⟨.other,1,8,some (.nilFunc)⟩
theorem ty99 :zO Tryz.prog 99=some te99:=by kernel_rfl
@[reducible] def te100 :TE:=⟨.other,1,8,some (.nilFunc)⟩
theorem ty100 :zO Tryz.prog 100=some te100:=by kernel_rfl
@[reducible] def te101 :TE:=⟨.other,1,8,some (.nilFunc)⟩
theorem ty101 :zO Tryz.prog 101=some te101:=by kernel_rfl
@[reducible] def te102 :TE:=⟨.other,1,8,some (.nilFunc)⟩
theorem ty102 :zO Tryz.prog 102=some te102:=by kernel_rfl
@[reducible] def te103 :TE:=⟨.other,1,8,some (.nilFunc)⟩
theorem ty103 :zO Tryz.prog 103=some te103:=by kernel_rfl
@[reducible] def te104 :TE:=⟨.ptr 152,1,8,some (.pointer none)⟩
theorem ty104 :zO Tryz.prog 104=some te104:=by kernel_rfl
@[reducible] def te105 :TE:=⟨.other,1,8,some (.nilFunc)⟩
theorem ty105 :zO Tryz.prog 105=some te105:=by kernel_rfl
@[reducible] def te106 :TE:=⟨.other,1,8,some (.nilFunc)⟩
theorem ty106 :zO Tryz.prog 106=some te106:=by kernel_rfl
@[reducible] def te107 :TE:=⟨.other,1,8,some (.nilFunc)⟩
theorem ty107 :zO Tryz.prog 107=some te107:=by kernel_rfl
@[reducible] def te108 :TE:=⟨.other,1,8,some (.nilFunc)⟩
theorem ty108 :zO Tryz.prog 108=some te108:=by kernel_rfl
@[reducible] def te109 :TE:=⟨.other,1,8,some (.nilFunc)⟩
theorem ty109 :zO Tryz.prog 109=some te109:=by kernel_rfl
@[reducible] def te110 :TE:=⟨.slice 103,1,24,some (.slice none 0 0)⟩
theorem ty110 :zO Tryz.prog 110=some te110:=by kernel_rfl
@[reducible] def te111 :TE:=⟨.other,1,8,some (.nilFunc)⟩
theorem ty111 :zO Tryz.prog 111=some te111:=by kernel_rfl
@[reducible] def te112 :TE:=⟨.other,1,8,some (.nilFunc)⟩
theorem ty112 :zO Tryz.prog 112=some te112:=by kernel_rfl
@[reducible] def te113 :TE:=⟨.other,1,8,some (.nilFunc)⟩
theorem ty113 :zO Tryz.prog 113=some te113:=by kernel_rfl
@[reducible] def te114 :TE:=⟨.other,1,0,some (.tuple ⟨[.slice none 0 0,.bool false]⟩)⟩
theorem ty114 :zO Tryz.prog 114=some te114:=by kernel_rfl
@[reducible] def te115 :TE:=⟨.other,1,8,some (.nilFunc)⟩
theorem ty115 :zO Tryz.prog 115=some te115:=by kernel_rfl
@[reducible] def te116 :TE:=⟨.other,1,0,some (.tuple ⟨[.slice none 0 0,.bool false]⟩)⟩
theorem ty116 :zO Tryz.prog 116=some te116:=by kernel_rfl
@[reducible] def te117 :TE:=⟨.other,1,8,some (.nilFunc)⟩
theorem ty117 :zO Tryz.prog 117=some te117:=by kernel_rfl
@[reducible] def te118 :TE:=⟨.other,1,8,some (.map none)⟩
theorem ty118 :zO Tryz.prog 118=some te118:=by kernel_rfl
@[reducible] def te119 :TE:=⟨.other,1,8,some (.nilFunc)⟩
theorem ty119 :zO Tryz.prog 119=some te119:=by kernel_rfl
@[reducible] def te120 :TE:=⟨.st [(3,0)],1,8,some (.agg ⟨[.int .i64 0]⟩)⟩
theorem ty120 :zO Tryz.prog 120=some te120:=by kernel_rfl
@[reducible] def te121 :TE:=⟨.st [(3,0)],1,8,some (.agg ⟨[.int .i64 0]⟩)⟩
theorem ty121 :zO Tryz.prog 121=some te121:=by kernel_rfl
@[reducible] def te122 :TE:=⟨.other,1,8,some (.nilFunc)⟩
theorem ty122 :zO Tryz.prog 122=some te122:=by kernel_rfl
@[reducible] def te123 :TE:=⟨.other,1,8,some (.nilFunc)⟩
theorem ty123 :zO Tryz.prog 123=some te123:=by kernel_rfl
@[reducible] def te124 :TE:=⟨.other,1,8,some (.nilFunc)⟩
theorem ty124 :zO Tryz.prog 124=some te124:=by kernel_rfl
@[reducible] def te125 :TE:=⟨.int .u64,1,8,some (.int .u64 0)⟩
theorem ty125 :zO Tryz.prog 125=some te125:=by kernel_rfl
@[reducible] def te126 :TE:=⟨.other,1,8,some (.nilFunc)⟩
theorem ty126 :zO Tryz.prog 126=some te126:=by kernel_rfl
@[reducible] def te127 :TE:=⟨.slice 129,1,24,some (.slice none 0 0)⟩
theorem ty127 :zO Tryz.prog 127=some te127:=by kernel_rfl
@[reducible] def te128 :TE:=⟨.st [(3,0),(3,1),(81,2)],5,40,some (.agg ⟨[.int .i64 0,.int .i64 0,.int .i64 0,.int .i64 0,.int .u8 0]⟩)⟩
theorem ty128 :zO Tryz.prog 128=some te128:=by kernel_rfl
@[reducible] def te129 :TE:=⟨.st [(3,0),(3,1),(81,2)],5,40,some (.agg ⟨[.int .i64 0,.int .i64 0,.int .i64 0,.int .i64 0,.int .u8 0]⟩)⟩
theorem ty129 :zO Tryz.prog 129=some te129:=by kernel_rfl
@[reducible] def te130 :TE:=⟨.other,1,8,some (.nilFunc)⟩
theorem ty130 :zO Tryz.prog 130=some te130:=by kernel_rfl
@[reducible] def te131 :TE:=⟨.other,1,8,some (.nilFunc)⟩
theorem ty131 :zO Tryz.prog 131=some te131:=by kernel_rfl
@[reducible] def te132 :TE:=⟨.other,1,8,some (.map none)⟩
theorem ty132 :zO Tryz.prog 132=some te132:=by kernel_rfl
@[reducible] def te133 :TE:=⟨.other,1,8,some (.nilFunc)⟩
theorem ty133 :zO Tryz.prog 133=some te133:=by kernel_rfl
@[reducible] def te134 :TE:=⟨.other,1,8,some (.nilFunc)⟩
theorem ty134 :zO Tryz.prog 134=some te134:=by kernel_rfl
@[reducible] def te135 :TE:=⟨.other,1,0,some (.tuple ⟨[.pointer none,.int .i64 0]⟩)⟩
theorem ty135 :zO Tryz.prog 135=some te135:=by kernel_rfl
@[reducible] def te136 :TE:=⟨.other,1,8,some (.nilFunc)⟩
theorem ty136 :zO Tryz.prog 136=some te136:=by kernel_rfl
@[reducible] def te137 :TE:=⟨.other,1,8,some (.nilFunc)⟩
theorem ty137 :zO Tryz.prog 137=some te137:=by kernel_rfl
@[reducible] def te138 :TE:=⟨.other,1,8,some (.nilFunc)⟩
theorem ty138 :zO Tryz.prog 138=some te138:=by kernel_rfl
@[reducible] def te139 :TE:=⟨.st [(37,0),(24,1),(24,2)],3,32,some (.agg ⟨[.slice none 0 0,.int .u32 0,.int .u32 0]⟩)⟩
theorem ty139 :zO Tryz.prog 139=some te139:=by kernel_rfl
@[reducible] def te140 :TE:=⟨.st [(37,0),(24,1),(24,2)],3,32,some (.agg ⟨[.slice none 0 0,.int .u32 0,.int .u32 0]⟩)⟩
theorem ty140 :zO Tryz.prog 140=some te140:=by kernel_rfl
@[reducible] def te141 :TE:=⟨.st [(3,0),(60,1)],2,32,some (.agg ⟨[.int .i64 0,.slice none 0 0]⟩)⟩
theorem ty141 :zO Tryz.prog 141=some te141:=by kernel_rfl
@[reducible] def te142 :TE:=⟨.st [(3,0),(60,1)],2,32,some (.agg ⟨[.int .i64 0,.slice none 0 0]⟩)⟩
theorem ty142 :zO Tryz.prog 142=some te142:=by kernel_rfl
@[reducible] def te143 :TE:=⟨.other,1,8,some (.nilFunc)⟩
theorem ty143 :zO Tryz.prog 143=some te143:=by kernel_rfl
@[reducible] def te144 :TE:=⟨.other,1,8,some (.nilFunc)⟩
theorem ty144 :zO Tryz.prog 144=some te144:=by kernel_rfl
@[reducible] def te145 :TE:=⟨.arr 8 142,16,256,some (.agg ⟨[.int .i64 0,.slice none 0 0,.int .i64 0,.slice none 0 0,.int .i64 0,.slice none 0 0,.int .i64 0,.slice none 0 0,.int .i64 0,.slice none 0 0,.int .i64 0,.slice none 0 0,.int .i64 0,.slice none 0 0,.int .i64 0,.slice none 0 0]⟩)⟩
theorem ty145 :zO Tryz.prog 145=some te145:=by kernel_rfl
@[reducible] def te146 :TE:=⟨.st [(145,0),(5,16)],17,264,some (.agg ⟨[.int .i64 0,.slice none 0 0,.int .i64 0,.slice none 0 0,.int .i64 0,.slice none 0 0,.int .i64 0,.slice none 0 0,.int .i64 0,.slice none 0 0,.int .i64 0,.slice none 0 0,.int .i64 0,.slice none 0 0,.int .i64 0,.slice none 0 0,.int .u8 0]⟩)⟩
theorem ty146 :zO Tryz.prog 146=some te146:=by kernel_rfl
@[reducible] def te147 :TE:=⟨.st [(145,0),(5,16)],17,264,some (.agg ⟨[.int .i64 0,.slice none 0 0,.int .i64 0,.slice none 0 0,.int .i64 0,.slice none 0 0,.int .i64 0,.slice none 0 0,.int .i64 0,.slice none 0 0,.int .i64 0,.slice none 0 0,.int .i64 0,.slice none 0 0,.int .i64 0,.slice none 0 0,.int .u8 0]⟩)⟩
theorem ty147 :zO Tryz.prog 147=some te147:=by kernel_rfl
@[reducible] def te148 :TE:=⟨.st [(142,0)],2,32,some (.agg ⟨[.int .i64 0,.slice none 0 0]⟩)⟩
theorem ty148 :zO Tryz.prog 148=some te148:=by kernel_rfl
@[reducible] def te149 :TE:=⟨.st [(142,0)],2,32,some (.agg ⟨[.int .i64 0,.slice none 0 0]⟩)⟩
theorem ty149 :zO Tryz.prog 149=some te149:=by kernel_rfl
@[reducible] def te150 :TE:=⟨.arr 4 5,4,4,some (.agg ⟨[.int .u8 0,.int .u8 0,.int .u8 0,.int .u8 0]⟩)⟩
theorem ty150 :zO Tryz.prog 150=some te150:=by kernel_rfl
@[reducible] def te151 :TE:=⟨.st [(9,0),(27,1)],2,24,some (.agg ⟨[.string ⟨⟨[]⟩⟩,.int .i64 0]⟩)⟩
theorem ty151 :zO Tryz.prog 151=some te151:=by kernel_rfl
@[reducible] def te152 :TE:=⟨.st [(9,0),(27,1)],2,24,some (.agg ⟨[.string ⟨⟨[]⟩⟩,.int .i64 0]⟩)⟩
theorem ty152 :zO Tryz.prog 152=some te152:=by kernel_rfl
@[reducible] def te153 :TE:=⟨.other,1,8,some (.nilFunc)⟩
theorem ty153 :zO Tryz.prog 153=some te153:=by kernel_rfl
@[reducible] def te154 :TE:=⟨.ptr 186,1,8,some (.pointer none)⟩
theorem ty154 :zO Tryz.prog 154=some te154:=by kernel_rfl
@[reducible] def te155 :TE:=⟨.other,1,8,some (.nilFunc)⟩
theorem ty155 :zO Tryz.prog 155=some te155:=by kernel_rfl
@[reducible] def te156 :TE:=⟨.other,1,8,some (.nilFunc)⟩
theorem ty156 :zO Tryz.prog 156=some te156:=by kernel_rfl
@[reducible] def te157 :TE:=⟨.other,1,8,some (.nilFunc)⟩
theorem ty157 :zO Tryz.prog 157=some te157:=by kernel_rfl
@[reducible] def te158 :TE:=⟨.other,1,8,some (.nilFunc)⟩
theorem ty158 :zO Tryz.prog 158=some te158:=by kernel_rfl
@[reducible] def te159 :TE:=⟨.other,1,8,some (.nilFunc)⟩
theorem ty159 :zO Tryz.prog 159=some te159:=by kernel_rfl
@[reducible] def te160 :TE:=⟨.other,1,8,some (.nilFunc)⟩
theorem ty160 :zO Tryz.prog 160=some te160:=by kernel_rfl
@[reducible] def te161 :TE:=⟨.st [(3,0),(3,1),(3,2),(3,3)],4,32,some (.agg ⟨[.int .i64 0,.int .i64 0,.int .i64 0,.int .i64 0]⟩)⟩
theorem ty161 :zO Tryz.prog 161=some te161:=by kernel_rfl
@[reducible] def te162 :TE:=⟨.st [(3,0),(3,1),(3,2),(3,3)],4,32,some (.agg ⟨[.int .i64 0,.int .i64 0,.int .i64 0,.int .i64 0]⟩)⟩
theorem ty162 :zO Tryz.prog 162=some te162:=by kernel_rfl
@[reducible] def te163 :TE:=⟨.other,1,8,some (.nilFunc)⟩
theorem ty163 :zO Tryz.prog 163=some te163:=by kernel_rfl
@[reducible] def te164 :TE:=⟨.other,1,0,some (.tuple ⟨[.slice none 0 0,.slice none 0 0,.int .i64 0]⟩)⟩
theorem ty164 :zO Tryz.prog 164=some te164:=by kernel_rfl
@[reducible] def te165 :TE:=⟨.other,1,8,some (.nilFunc)⟩
theorem ty165 :zO Tryz.prog 165=some te165:=by kernel_rfl
@[reducible] def te166 :TE:=⟨.other,1,8,some (.nilFunc)⟩
theorem ty166 :zO Tryz.prog 166=some te166:=by kernel_rfl
@[reducible] def te167 :TE:=⟨.other,1,8,some (.nilFunc)⟩
theorem ty167 :zO Tryz.prog 167=some te167:=by kernel_rfl
@[reducible] def te168 :TE:=⟨.other,1,8,some (.nilFunc)⟩
theorem ty168 :zO Tryz.prog 168=some te168:=by kernel_rfl
@[reducible] def te169 :TE:=⟨.other,1,8,some (.map none)⟩
theorem ty169 :zO Tryz.prog 169=some te169:=by kernel_rfl
@[reducible] def te170 :TE:=⟨.other,1,8,some (.nilFunc)⟩
theorem ty170 :zO Tryz.prog 170=some te170:=by kernel_rfl
@[reducible] def te171 :TE:=⟨.other,1,8,some (.nilFunc)⟩
theorem ty171 :zO Tryz.prog 171=some te171:=by kernel_rfl
@[reducible] def te172 :TE:=⟨.other,1,8,some (.nilFunc)⟩
theorem ty172 :zO Tryz.prog 172=some te172:=by kernel_rfl
@[reducible] def te173 :TE:=⟨.other,1,8,some (.nilFunc)⟩
theorem ty173 :zO Tryz.prog 173=some te173:=by kernel_rfl
@[reducible] def te174 :TE:=⟨.other,1,8,some (.nilFunc)⟩
theorem ty174 :zO Tryz.prog 174=some te174:=by kernel_rfl
@[reducible] def te175 :TE:=⟨.other,1,8,some (.nilFunc)⟩
theorem ty175 :zO Tryz.prog 175=some te175:=by kernel_rfl
@[reducible] def te176 :TE:=⟨.other,1,8,some (.nilFunc)⟩
theorem ty176 :zO Tryz.prog 176=some te176:=by kernel_rfl
@[reducible] def te177 :TE:=⟨.other,1,8,some (.nilFunc)⟩
theorem ty177 :zO Tryz.prog 177=some te177:=by kernel_rfl
@[reducible] def te178 :TE:=⟨.int .u64,1,8,some (.int .u64 0)⟩
theorem ty178 :zO Tryz.prog 178=some te178:=by kernel_rfl
@[reducible] def te179 :TE:=⟨.other,1,8,some (.nilFunc)⟩
theorem ty179 :zO Tryz.prog 179=some te179:=by kernel_rfl
@[reducible] def te180 :TE:=⟨.slice 142,1,24,some (.slice none 0 0)⟩
theorem ty180 :zO Tryz.prog 180=some te180:=by kernel_rfl
@[reducible] def te181 :TE:=⟨.other,1,8,some (.nilFunc)⟩
theorem ty181 :zO Tryz.prog 181=some te181:=by kernel_rfl
@[reducible] def te182 :TE:=⟨.other,1,8,some (.nilFunc)⟩
theorem ty182 :zO Tryz.prog 182=some te182:=by kernel_rfl
@[reducible] def te183 :TE:=⟨.other,1,0,some (.tuple ⟨[.int .i64 0,.int .i64 0,.bool false]⟩)⟩
theorem ty183 :zO Tryz.prog 183=some te183:=by kernel_rfl
@[reducible] def te184 :TE:=⟨.other,1,8,some (.nilFunc)⟩
theorem ty184 :zO Tryz.prog 184=some te184:=by kernel_rfl
@[reducible] def te185 :TE:=⟨.st [(9,0),(24,1),(24,2),(4,3),(4,4)],5,32,some (.agg ⟨[.string ⟨⟨[]⟩⟩,.int .u32 0,.int .u32 0,.bool false,.bool false]⟩)⟩
theorem ty185 :zO Tryz.prog 185=some te185:=by kernel_rfl
@[reducible] def te186 :TE:=⟨.st [(9,0),(24,1),(24,2),(4,3),(4,4)],5,32,some (.agg ⟨[.string ⟨⟨[]⟩⟩,.int .u32 0,.int .u32 0,.bool false,.bool false]⟩)⟩
theorem ty186 :zO Tryz.prog 186=some te186:=by kernel_rfl
@[reducible] def te187 :TE:=⟨.other,1,8,some (.nilFunc)⟩
theorem ty187 :zO Tryz.prog 187=some te187:=by kernel_rfl
@[reducible] def te188 :TE:=⟨.other,1,8,some (.nilFunc)⟩
theorem ty188 :zO Tryz.prog 188=some te188:=by kernel_rfl
@[reducible] def te189 :TE:=⟨.other,1,8,some (.nilFunc)⟩
theorem ty189 :zO Tryz.prog 189=some te189:=by kernel_rfl
@[reducible] def te190 :TE:=⟨.other,1,8,some (.nilFunc)⟩
theorem ty190 :zO Tryz.prog 190=some te190:=by kernel_rfl
@[reducible] def te191 :TE:=⟨.other,1,8,some (.nilFunc)⟩
theorem ty191 :zO Tryz.prog 191=some te191:=by kernel_rfl
@[reducible] def te192 :TE:=⟨.other,1,8,some (.nilFunc)⟩
theorem ty192 :zO Tryz.prog 192=some te192:=by kernel_rfl
@[reducible] def te193 :TE:=⟨.other,1,8,some (.nilFunc)⟩
theorem ty193 :zO Tryz.prog 193=some te193:=by kernel_rfl
@[reducible] def te194 :TE:=⟨.other,1,8,some (.nilFunc)⟩
theorem ty194 :zO Tryz.prog 194=some te194:=by kernel_rfl
@[reducible] def te195 :TE:=⟨.ptr 230,1,8,some (.pointer none)⟩
theorem ty195 :zO Tryz.prog 195=some te195:=by kernel_rfl
@[reducible] def te196 :TE:=⟨.other,1,0,some (.tuple ⟨[.pointer none,.int .i64 0]⟩)⟩
theorem ty196 :zO Tryz.prog 196=some te196:=by kernel_rfl
@[reducible] def te197 :TE:=⟨.other,1,8,some (.nilFunc)⟩
theorem ty197 :zO Tryz.prog 197=some te197:=by kernel_rfl
@[reducible] def te198 :TE:=⟨.other,1,8,some (.nilFunc)⟩
theorem ty198 :zO Tryz.prog 198=some te198:=by kernel_rfl
@[reducible] def te199 :TE:=⟨.other,1,0,some (.tuple ⟨[.int .u8 0,.bool false]⟩)⟩
theorem ty199 :zO Tryz.prog 199=some te199:=by kernel_rfl
@[reducible] def te200 :TE:=⟨.other,1,8,some (.nilFunc)⟩
theorem ty200 :zO Tryz.prog 200=some te200:=by kernel_rfl
@[reducible] def te201 :TE:=⟨.other,1,8,some (.nilFunc)⟩
theorem ty201 :zO Tryz.prog 201=some te201:=by kernel_rfl
@[reducible] def te202 :TE:=⟨.other,1,8,some (.map none)⟩
theorem ty202 :zO Tryz.prog 202=some te202:=by kernel_rfl
@[reducible] def te203 :TE:=⟨.other,1,8,some (.nilFunc)⟩
theorem ty203 :zO Tryz.prog 203=some te203:=by kernel_rfl
@[reducible] def te204 :TE:=⟨.other,1,8,some (.nilFunc)⟩
theorem ty204 :zO Tryz.prog 204=some te204:=by kernel_rfl
@[reducible] def te205 :TE:=⟨.other,1,8,some (.nilFunc)⟩
theorem ty205 :zO Tryz.prog 205=some te205:=by kernel_rfl
@[reducible] def te206 :TE:=⟨.other,1,16,some (.nilIface)⟩
theorem ty206 :zO Tryz.prog 206=some te206:=by kernel_rfl
@[reducible] def te207 :TE:=⟨.other,1,16,some (.nilIface)⟩
theorem ty207 :zO Tryz.prog 207=some te207:=by kernel_rfl
@[reducible] def te208 :TE:=⟨.other,1,8,some (.nilFunc)⟩
theorem ty208 :zO Tryz.prog 208=some te208:=by kernel_rfl
@[reducible] def te209 :TE:=⟨.other,1,8,some (.nilFunc)⟩
theorem ty209 :zO Tryz.prog 209=some te209:=by kernel_rfl
@[reducible] def te210 :TE:=⟨.other,1,8,some (.nilFunc)⟩
theorem ty210 :zO Tryz.prog 210=some te210:=by kernel_rfl
@[reducible] def te211 :TE:=⟨.slice 214,1,24,some (.slice none 0 0)⟩
theorem ty211 :zO Tryz.prog 211=some te211:=by kernel_rfl
@[reducible] def te212 :TE:=⟨.other,1,8,some (.nilFunc)⟩
theorem ty212 :zO Tryz.prog 212=some te212:=by kernel_rfl
@[reducible] def te213 :TE:=⟨.st [(3,0),(3,1)],2,16,some (.agg ⟨[.int .i64 0,.int .i64 0]⟩)⟩
theorem ty213 :zO Tryz.prog 213=some te213:=by kernel_rfl
@[reducible] def te214 :TE:=⟨.st [(3,0),(3,1)],2,16,some (.agg ⟨[.int .i64 0,.int .i64 0]⟩)⟩
theorem ty214 :zO Tryz.prog 214=some te214:=by kernel_rfl
@[reducible] def te215 :TE:=⟨.other,1,8,some (.nilFunc)⟩
theorem ty215 :zO Tryz.prog 215=some te215:=by kernel_rfl
@[reducible] def te216 :TE:=⟨.arr 4 3,4,32,some (.agg ⟨[.int .i64 0,.int .i64 0,.int .i64 0,.int .i64 0]⟩)⟩
theorem ty216 :zO Tryz.prog 216=some te216:=by kernel_rfl
@[reducible] def te217 :TE:=⟨.other,1,8,some (.nilFunc)⟩
theorem ty217 :zO Tryz.prog 217=some te217:=by kernel_rfl
@[reducible] def te218 :TE:=⟨.ptr 250,1,8,some (.pointer none)⟩
theorem ty218 :zO Tryz.prog 218=some te218:=by kernel_rfl
@[reducible] def te219 :TE:=⟨.other,1,8,some (.nilFunc)⟩
theorem ty219 :zO Tryz.prog 219=some te219:=by kernel_rfl
@[reducible] def te220 :TE:=⟨.other,1,8,some (.nilFunc)⟩
theorem ty220 :zO Tryz.prog 220=some te220:=by kernel_rfl
@[reducible] def te221 :TE:=⟨.other,1,8,some (.nilFunc)⟩
theorem ty221 :zO Tryz.prog 221=some te221:=by kernel_rfl
@[reducible] def te222 :TE:=⟨.st [(3,0),(3,1),(3,2)],3,24,some (.agg ⟨[.int .i64 0,.int .i64 0,.int .i64 0]⟩)⟩
theorem ty222 :zO Tryz.prog 222=some te222:=by kernel_rfl
@[reducible] def te223 :TE:=⟨.st [(3,0),(3,1),(3,2)],3,24,some (.agg ⟨[.int .i64 0,.int .i64 0,.int .i64 0]⟩)⟩
theorem ty223 :zO Tryz.prog 223=some te223:=by kernel_rfl
@[reducible] def te224 :TE:=⟨.other,1,8,some (.nilFunc)⟩
theorem ty224 :zO Tryz.prog 224=some te224:=by kernel_rfl
@[reducible] def te225 :TE:=⟨.other,1,8,some (.nilFunc)⟩
theorem ty225 :zO Tryz.prog 225=some te225:=by kernel_rfl
@[reducible] def te226 :TE:=⟨.other,1,8,some (.nilFunc)⟩
theorem ty226 :zO Tryz.prog 226=some te226:=by kernel_rfl
@[reducible] def te227 :TE:=⟨.other,1,8,some (.nilFunc)⟩
theorem ty227 :zO Tryz.prog 227=some te227:=by kernel_rfl
@[reducible] def te228 :TE:=⟨.other,1,8,some (.nilFunc)⟩
theorem ty228 :zO Tryz.prog 228=some te228:=by kernel_rfl
@[reducible] def te229 :TE:=⟨.st [(9,0),(3,1),(3,2)],3,32,some (.agg ⟨[.string ⟨⟨[]⟩⟩,.int .i64 0,.int .i64 0]⟩)⟩
theorem ty229 :zO Tryz.prog 229=some te229:=by kernel_rfl
@[reducible] def te230 :TE:=⟨.st [(9,0),(3,1),(3,2)],3,32,some (.agg ⟨[.string ⟨⟨[]⟩⟩,.int .i64 0,.int .i64 0]⟩)⟩
theorem ty230 :zO Tryz.prog 230=some te230:=by kernel_rfl
@[reducible] def te231 :TE:=⟨.other,1,8,some (.nilFunc)⟩
theorem ty231 :zO Tryz.prog 231=some te231:=by kernel_rfl
@[reducible] def te232 :TE:=⟨.other,1,8,some (.nilFunc)⟩
theorem ty232 :zO Tryz.prog 232=some te232:=by kernel_rfl
@[reducible] def te233 :TE:=⟨.st [(3,0),(3,1),(131,2),(144,3),(231,4),(232,5)],6,48,some (.agg ⟨[.int .i64 0,.int .i64 0,.nilFunc,.nilFunc,.nilFunc,.nilFunc]⟩)⟩
theorem ty233 :zO Tryz.prog 233=some te233:=by kernel_rfl
@[reducible] def te234 :TE:=⟨.st [(3,0),(3,1),(131,2),(144,3),(231,4),(232,5)],6,48,some (.agg ⟨[.int .i64 0,.int .i64 0,.nilFunc,.nilFunc,.nilFunc,.nilFunc]⟩)⟩
theorem ty234 :zO Tryz.prog 234=some te234:=by kernel_rfl
@[reducible] def te235 :TE:=⟨.other,1,0,some (.tuple ⟨[.agg ⟨[.int .i64 0,.int .i64 0,.nilFunc,.nilFunc,.nilFunc,.nilFunc]⟩,.bool false]⟩)⟩
theorem ty235 :zO Tryz.prog 235=some te235:=by kernel_rfl
@[reducible] def te236 :TE:=⟨.other,1,8,some (.nilFunc)⟩
theorem ty236 :zO Tryz.prog 236=some te236:=by kernel_rfl
@[reducible] def te237 :TE:=⟨.other,1,8,some (.nilFunc)⟩
theorem ty237 :zO Tryz.prog 237=some te237:=by kernel_rfl
@[reducible] def te238 :TE:=⟨.other,1,8,some (.nilFunc)⟩
theorem ty238 :zO Tryz.prog 238=some te238:=by kernel_rfl
@[reducible] def te239 :TE:=⟨.other,1,8,some (.nilFunc)⟩
theorem ty239 :zO Tryz.prog 239=some te239:=by kernel_rfl
@[reducible] def te240 :TE:=⟨.other,1,8,some (.nilFunc)⟩
theorem ty240 :zO Tryz.prog 240=some te240:=by kernel_rfl
@[reducible] def te241 :TE:=⟨.other,1,8,some (.nilFunc)⟩
theorem ty241 :zO Tryz.prog 241=some te241:=by kernel_rfl
@[reducible] def te242 :TE:=⟨.other,1,8,some (.nilFunc)⟩
theorem ty242 :zO Tryz.prog 242=some te242:=by kernel_rfl
@[reducible] def te243 :TE:=⟨.other,1,8,some (.map none)⟩
theorem ty243 :zO Tryz.prog 243=some te243:=by kernel_rfl
@[reducible] def te244 :TE:=⟨.other,1,0,some (.tuple ⟨[.slice none 0 0,.map none]⟩)⟩
theorem ty244 :zO Tryz.prog 244=some te244:=by kernel_rfl
@[reducible] def te245 :TE:=⟨.other,1,8,some (.nilFunc)⟩
theorem ty245 :zO Tryz.prog 245=some te245:=by kernel_rfl
@[reducible] def te246 :TE:=⟨.other,1,8,some (.nilFunc)⟩
theorem ty246 :zO Tryz.prog 246=some te246:=by kernel_rfl
@[reducible] def te247 :TE:=⟨.other,1,8,some (.nilFunc)⟩
theorem ty247 :zO Tryz.prog 247=some te247:=by kernel_rfl
@[reducible] def te248 :TE:=⟨.other,1,8,some (.nilFunc)⟩
theorem ty248 :zO Tryz.prog 248=some te248:=by kernel_rfl
@[reducible] def te249 :TE:=⟨.st [(37,0),(3,1)],2,32,some (.agg ⟨[.slice none 0 0,.int .i64 0]⟩)⟩
theorem ty249 :zO Tryz.prog 249=some te249:=by kernel_rfl
@[reducible] def te250 :TE:=⟨.st [(37,0),(3,1)],2,32,some (.agg ⟨[.slice none 0 0,.int .i64 0]⟩)⟩
theorem ty250 :zO Tryz.prog 250=some te250:=by kernel_rfl
@[reducible] def te251 :TE:=⟨.other,1,8,some (.nilFunc)⟩
theorem ty251 :zO Tryz.prog 251=some te251:=by kernel_rfl
@[reducible] def te252 :TE:=⟨.int .i64,1,8,some (.int .i64 0)⟩
theorem ty252 :zO Tryz.prog 252=some te252:=by kernel_rfl
@[reducible] def te253 :TE:=⟨.other,1,0,some (.tuple ⟨[.int .i64 0,.int .i64 0]⟩)⟩
theorem ty253 :zO Tryz.prog 253=some te253:=by kernel_rfl
@[reducible] def te254 :TE:=⟨.other,1,8,some (.nilFunc)⟩
theorem ty254 :zO Tryz.prog 254=some te254:=by kernel_rfl
@[reducible] def te255 :TE:=⟨.other,1,8,some (.nilFunc)⟩
theorem ty255 :zO Tryz.prog 255=some te255:=by kernel_rfl
@[reducible] def te256 :TE:=⟨.other,1,8,some (.nilFunc)⟩
theorem ty256 :zO Tryz.prog 256=some te256:=by kernel_rfl
@[reducible] def te257 :TE:=⟨.other,1,8,some (.nilFunc)⟩
theorem ty257 :zO Tryz.prog 257=some te257:=by kernel_rfl
@[reducible] def te258 :TE:=⟨.other,1,8,some (.map none)⟩
theorem ty258 :zO Tryz.prog 258=some te258:=by kernel_rfl
@[reducible] def te259 :TE:=⟨.other,1,8,some (.nilFunc)⟩
theorem ty259 :zO Tryz.prog 259=some te259:=by kernel_rfl
@[reducible] def te260 :TE:=⟨.arr 128 5,128,128,some (.agg ⟨[.int .u8 0,.int .u8 0,.int .u8 0,.int .u8 0,.int .u8 0,.int .u8 0,.int .u8 0,.int .u8 0,.int .u8 0,.int .u8 0,.int .u8 0,.int .u8 0,.int .u8 0,.int .u8 0,.int .u8 0,.int .u8 0,.int .u8 0,.int .u8 0,.int .u8 0,.int .u8 0,.int .u8 0,.int .u8 0,.int .u8 0,.int .u8 0,.int .u8 0,.int .u8 0,.int .u8 0,.int .u8 0,.int .u8 0,.int .u8 0,.int .u8 0,.int .u8 0,.int .u8 0,.int .u8 0,.int .u8 0,.int .u8 0,.int .u8 0,.int .u8 0,.int .u8 0,.int .u8 0,.int .u8 0,.int .u8 0,.int .u8 0,.int .u8 0,.int .u8 0,.int .u8 0,.int .u8 0,.int .u8 0,.int .u8 0,.int .u8 0,.int .u8 0,.int .u8 0,.int .u8 0,.int .u8 0,.int .u8 0,.int .u8 0,.int .u8 0,.int .u8 0,.int .u8 0,.int .u8 0,.int .u8 0,.int .u8 0,.int .u8 0,.int .u8 0,.int .u8 0,.int .u8 0,.int .u8 0,.int .u8 0,.int .u8 0,.int .u8 0,.int .u8 0,.int .u8 0,.int .u8 0,.int .u8 0,.int .u8 0,.int .u8 0,.int .u8 0,.int .u8 0,.int .u8 0,.int .u8 0,.int .u8 0,.int .u8 0,.int .u8 0,.int .u8 0,.int .u8 0,.int .u8 0,.int .u8 0,.int .u8 0,.int .u8 0,.int .u8 0,.int .u8 0,.int .u8 0,.int .u8 0,.int .u8 0,.int .u8 0,.int .u8 0,.int .u8 0,.int .u8 0,.int .u8 0,.int .u8 0,.int .u8 0,.int .u8 0,.int .u8 0,.int .u8 0,.int .u8 0,.int .u8 0,.int .u8 0,.int .u8 0,.int .u8 0,.int .u8 0,.int .u8 0,.int .u8 0,.int .u8 0,.int .u8 0,.int .u8 0,.int .u8 0,.int .u8 0,.int .u8 0,.int .u8 0,.int .u8 0,.int .u8 0,.int .u8 0,.int .u8 0,.int .u8 0,.int .u8 0,.int .u8 0,.int .u8 0,.int .u8 0]⟩)⟩
theorem ty260 :zO Tryz.prog 260=some te260:=by kernel_rfl
@[reducible] def te261 :TE:=⟨.other,1,0,some (.tuple ⟨[.int .u64 0,.int .u64 0]⟩)⟩
theorem ty261 :zO Tryz.prog 261=some te261:=by kernel_rfl
@[reducible] def te262 :TE:=⟨.other,1,8,some (.nilFunc)⟩
theorem ty262 :zO Tryz.prog 262=some te262:=by kernel_rfl
@[reducible] def te263 :TE:=⟨.other,1,8,some (.nilFunc)⟩
theorem ty263 :zO Tryz.prog 263=some te263:=by kernel_rfl
@[reducible] def te264 :TE:=⟨.ptr 266,1,8,some (.pointer none)⟩
theorem ty264 :zO Tryz.prog 264=some te264:=by kernel_rfl
@[reducible] def te265 :TE:=⟨.st [(264,0),(37,1)],2,32,some (.agg ⟨[.pointer none,.slice none 0 0]⟩)⟩
theorem ty265 :zO Tryz.prog 265=some te265:=by kernel_rfl
@[reducible] def te266 :TE:=⟨.st [(264,0),(37,1)],2,32,some (.agg ⟨[.pointer none,.slice none 0 0]⟩)⟩
theorem ty266 :zO Tryz.prog 266=some te266:=by kernel_rfl
@[reducible] def te267 :TE:=⟨.other,1,8,some (.nilFunc)⟩
theorem ty267 :zO Tryz.prog 267=some te267:=by kernel_rfl
@[reducible] def te268 :TE:=⟨.other,1,16,some (.nilIface)⟩
theorem ty268 :zO Tryz.prog 268=some te268:=by kernel_rfl
@[reducible] def te269 :TE:=⟨.other,1,16,some (.nilIface)⟩
theorem ty269 :zO Tryz.prog 269=some te269:=by kernel_rfl
@[reducible] def te270 :TE:=⟨.other,1,0,some (.tuple ⟨[.int .i64 0,.nilIface]⟩)⟩
theorem ty270 :zO Tryz.prog 270=some te270:=by kernel_rfl
@[reducible] def te271 :TE:=⟨.other,1,8,some (.nilFunc)⟩
theorem ty271 :zO Tryz.prog 271=some te271:=by kernel_rfl
@[reducible] def te272 :TE:=⟨.other,1,8,some (.nilFunc)⟩
theorem ty272 :zO Tryz.prog 272=some te272:=by kernel_rfl
@[reducible] def te273 :TE:=⟨.other,1,0,some (.tuple ⟨[.int .i64 0,.int .i64 0]⟩)⟩
theorem ty273 :zO Tryz.prog 273=some te273:=by kernel_rfl
@[reducible] def te274 :TE:=⟨.other,1,8,some (.nilFunc)⟩
theorem ty274 :zO Tryz.prog 274=some te274:=by kernel_rfl
@[reducible] def te275 :TE:=⟨.int .u64,1,8,some (.int .u64 0)⟩
theorem ty275 :zO Tryz.prog 275=some te275:=by kernel_rfl
@[reducible] def te276 :TE:=⟨.other,1,8,some (.nilFunc)⟩
theorem ty276 :zO Tryz.prog 276=some te276:=by kernel_rfl
@[reducible] def te277 :TE:=⟨.other,1,8,some (.nilFunc)⟩
theorem ty277 :zO Tryz.prog 277=some te277:=by kernel_rfl
@[reducible] def te278 :TE:=⟨.other,1,8,some (.nilFunc)⟩
theorem ty278 :zO Tryz.prog 278=some te278:=by kernel_rfl
@[reducible] def te279 :TE:=⟨.ptr 3,1,8,some (.pointer none)⟩
theorem ty279 :zO Tryz.prog 279=some te279:=by kernel_rfl
@[reducible] def te280 :TE:=⟨.other,1,8,some (.nilFunc)⟩
theorem ty280 :zO Tryz.prog 280=some te280:=by kernel_rfl
@[reducible] def te281 :TE:=⟨.other,1,8,some (.nilFunc)⟩
theorem ty281 :zO Tryz.prog 281=some te281:=by kernel_rfl
@[reducible] def te282 :TE:=⟨.other,1,8,some (.nilFunc)⟩
theorem ty282 :zO Tryz.prog 282=some te282:=by kernel_rfl
@[reducible] def te283 :TE:=⟨.other,1,0,some (.tuple ⟨[.int .u32 0,.int .u32 0]⟩)⟩
theorem ty283 :zO Tryz.prog 283=some te283:=by kernel_rfl
@[reducible] def te284 :TE:=⟨.other,1,8,some (.nilFunc)⟩
theorem ty284 :zO Tryz.prog 284=some te284:=by kernel_rfl
@[reducible] def te285 :TE:=⟨.other,1,0,some (.tuple ⟨[.int .u64 0,.int .u64 0]⟩)⟩
theorem ty285 :zO Tryz.prog 285=some te285:=by kernel_rfl
@[reducible] def te286 :TE:=⟨.other,1,8,some (.nilFunc)⟩
theorem ty286 :zO Tryz.prog 286=some te286:=by kernel_rfl
@[reducible] def te287 :TE:=⟨.ptr 5,1,8,some (.pointer none)⟩
theorem ty287 :zO Tryz.prog 287=some te287:=by kernel_rfl
@[reducible] def te288 :TE:=⟨.other,1,8,some (.nilFunc)⟩
theorem ty288 :zO Tryz.prog 288=some te288:=by kernel_rfl
@[reducible] def te289 :TE:=⟨.other,1,8,some (.nilFunc)⟩
theorem ty289 :zO Tryz.prog 289=some te289:=by kernel_rfl
@[reducible] def te290 :TE:=⟨.ptr 275,1,8,some (.pointer none)⟩
theorem ty290 :zO Tryz.prog 290=some te290:=by kernel_rfl
@[reducible] def te291 :TE:=⟨.other,1,8,some (.nilFunc)⟩
theorem ty291 :zO Tryz.prog 291=some te291:=by kernel_rfl
@[reducible] def te292 :TE:=⟨.other,1,8,some (.pointer none)⟩
theorem ty292 :zO Tryz.prog 292=some te292:=by kernel_rfl
@[reducible] def te293 :TE:=⟨.other,1,8,some (.nilFunc)⟩
theorem ty293 :zO Tryz.prog 293=some te293:=by kernel_rfl
@[reducible] def te294 :TE:=⟨.other,1,8,some (.nilFunc)⟩
theorem ty294 :zO Tryz.prog 294=some te294:=by kernel_rfl
@[reducible] def te295 :TE:=⟨.st [(17,0),(17,1),(17,2),(9,3)],4,40,some (.agg ⟨[.pointer none,.pointer none,.pointer none,.string ⟨⟨[]⟩⟩]⟩)⟩
theorem ty295 :zO Tryz.prog 295=some te295:=by kernel_rfl
@[reducible] def te296 :TE:=⟨.st [(17,0),(17,1),(17,2),(9,3)],4,40,some (.agg ⟨[.pointer none,.pointer none,.pointer none,.string ⟨⟨[]⟩⟩]⟩)⟩
theorem ty296 :zO Tryz.prog 296=some te296:=by kernel_rfl
@[reducible] def te297 :TE:=⟨.arr 0 16,0,0,some (.agg ⟨[]⟩)⟩
theorem ty297 :zO Tryz.prog 297=some te297:=by kernel_rfl
@[reducible] def te298 :TE:=⟨.st [(297,0)],0,0,some (.agg ⟨[]⟩)⟩
theorem ty298 :zO Tryz.prog 298=some te298:=by kernel_rfl
@[reducible] def te299 :TE:=⟨.st [(297,0)],0,0,some (.agg ⟨[]⟩)⟩
theorem ty299 :zO Tryz.prog 299=some te299:=by kernel_rfl
@[reducible] def te300 :TE:=⟨.int .u8,1,1,some (.int .u8 0)⟩
theorem ty300 :zO Tryz.prog 300=some te300:=by kernel_rfl
@[reducible] def te301 :TE:=⟨.int .u8,1,1,some (.int .u8 0)⟩
theorem ty301 :zO Tryz.prog 301=some te301:=by kernel_rfl
@[reducible] def te302 :TE:=⟨.other,1,8,some (.nilFunc)⟩
theorem ty302 :zO Tryz.prog 302=some te302:=by kernel_rfl
@[reducible] def te303 :TE:=⟨.int .i32,1,4,some (.int .i32 0)⟩
theorem ty303 :zO Tryz.prog 303=some te303:=by kernel_rfl
@[reducible] def te304 :TE:=⟨.int .i32,1,4,some (.int .i32 0)⟩
theorem ty304 :zO Tryz.prog 304=some te304:=by kernel_rfl
@[reducible] def te305 :TE:=⟨.st [(12,0),(12,1),(24,2),(300,3),(5,4),(5,5),(301,6),(302,7),(287,8),(303,9),(304,10)],11,48,some (.agg ⟨[.int .u64 0,.int .u64 0,.int .u32 0,.int .u8 0,.int .u8 0,.int .u8 0,.int .u8 0,.nilFunc,.pointer none,.int .i32 0,.int .i32 0]⟩)⟩
theorem ty305 :zO Tryz.prog 305=some te305:=by kernel_rfl
@[reducible] def te306 :TE:=⟨.st [(12,0),(12,1),(24,2),(300,3),(5,4),(5,5),(301,6),(302,7),(287,8),(303,9),(304,10)],11,48,some (.agg ⟨[.int .u64 0,.int .u64 0,.int .u32 0,.int .u8 0,.int .u8 0,.int .u8 0,.int .u8 0,.nilFunc,.pointer none,.int .i32 0,.int .i32 0]⟩)⟩
theorem ty306 :zO Tryz.prog 306=some te306:=by kernel_rfl
def tyT :TT:=(.node (.node (.node (.node (.node (.node (.node (.node (.node .leaf 0 te0 .leaf) 1 te1 .leaf) 2 te2 (.node .leaf 3 te3 .leaf)) 4 te4 (.node (.node (.node .leaf 5 te5 .leaf) 6 te6 .leaf) 7 te7 (.node .leaf 8 te8 .leaf))) 9 te9 (.node (.node (.node (.node .leaf 10 te10 .leaf) 11 te11 .leaf) 12 te12 (.node .leaf 13 te13 .leaf)) 14 te14 (.node (.node (.node .leaf 15 te15 .leaf) 16 te16 .leaf) 17 te17 (.node .leaf 18 te18 .leaf)))) 19 te19 (.node (.node (.node (.node (.node .leaf 20 te20 .leaf) 21 te21 .leaf) 22 te22 (.node .leaf 23 te23 .leaf)) 24 te24 (.node (.node (.node .leaf 25 te25 .leaf) 26 te26 .leaf) 27 te27 (.node .leaf 28 te28 .leaf))) 29 te29 (.node (.node (.node (.node .leaf 30 te30 .leaf) 31 te31 .leaf) 32 te32 (.node .leaf 33 te33 .leaf)) 34 te34 (.node (.node .leaf 35 te35 .leaf) 36 te36 (.node .leaf 37 te37 .leaf))))) 38 te38 (.node (.node (.node (.node (.node (.node .leaf 39 te39 .leaf) 40 te40 .leaf) 41 te41 (.node .leaf 42 te42 .leaf)) 43 te43 (.node (.node (.node .leaf 44 te44 .leaf) 45 te45 .leaf) 46 te46 (.node .leaf 47 te47 .leaf))) 48 te48 (.node (.node (.node (.node .leaf 49 te49 .leaf) 50 te50 .leaf) 51 te51 (.node .leaf 52 te52 .leaf)) 53 te53 (.node (.node .leaf 54 te54 .leaf) 55 te55 (.node .leaf 56 te56 .leaf)))) 57 te57 (.node (.node (.node (.node (.node .leaf 58 te58 .leaf) 59 te59 .leaf) 60 te60 (.node .leaf 61 te61 .leaf)) 62 te62 (.node (.node (.node .leaf 63 te63 .leaf) 64 te64 .leaf) 65 te65 (.node .leaf 66 te66 .leaf))) 67 te67 (.node (.node (.node (.node .leaf 68 te68 .leaf) 69 te69 .leaf) 70 te70 (.node .leaf 71 te71 .leaf)) 72 te72 (.node (.node .leaf 73 te73 .leaf) 74 te74 (.node .leaf 75 te75 .leaf)))))) 76 te76 (.node (.node (.node (.node (.node (.node (.node .leaf 77 te77 .leaf) 78 te78 .leaf) 79 te79 (.node .leaf 80 te80 .leaf)) 81 te81 (.node (.node (.node .leaf 82 te82 .leaf) 83 te83 .leaf) 84 te84 (.node .leaf 85 te85 .leaf))) 86 te86 (.node (.node (.node (.node .leaf 87 te87 .leaf) 88 te88 .leaf) 89 te89 (.node .leaf 90 te90 .leaf)) 91 te91 (.node (.node (.node .leaf 92 te92 .leaf) 93 te93 .leaf) 94 te94 (.node .leaf 95 te95 .leaf)))) 96 te96 (.node (.node (.node (.node (.node .leaf 97 te97 .leaf) 98 te98 .leaf) 99 te99 (.node .leaf 100 te100 .leaf)) 101 te101 (.node (.node (.node .leaf 102 te102 .leaf) 103 te103 .leaf) 104 te104 (.node .leaf 105 te105 .leaf))) 106 te106 (.node (.node (.node (.node .leaf 107 te107 .leaf) 108 te108 .leaf) 109 te109 (.node .leaf 110 te110 .leaf)) 111 te111 (.node (.node .leaf 112 te112 .leaf) 113 te113 (.node .leaf 114 te114 .leaf))))) 115 te115 (.node (.node (.node (.node (.node (.node .leaf 116 te116 .leaf) 117 te117 .leaf) 118 te118 (.node .leaf 119 te119 .leaf)) 120 te120 (.node (.node (.node .leaf 121 te121 .leaf) 122 te122 .leaf) 123 te123 (.node .leaf 124 te124 .leaf))) 125 te125 (.node (.node (.node (.node .leaf 126 te126 .leaf) 127 te127 .leaf) 128 te128 (.node .leaf 129 te129 .leaf)) 130 te130 (.node (.node .leaf 131 te131 .leaf) 132 te132 (.node .leaf 133 te133 .leaf)))) 134 te134 (.node (.node (.node (.node (.node .leaf 135 te135 .leaf) 136 te136 .leaf) 137 te137 (.node .leaf 138 te138 .leaf)) 139 te139 (.node (.node (.node .leaf 140 te140 .leaf) 141 te141 .leaf) 142 te142 (.node .leaf 143 te143 .leaf))) 144 te144 (.node (.node (.node (.node .leaf 145 te145 .leaf) 146 te146 .leaf) 147 te147 (.node .leaf 148 te148 .leaf)) 149 te149 (.node (.node .leaf 150 te150 .leaf) 151 te151 (.node .leaf 152 te152 .leaf))))))) 153 te153 (.node (.node (.node (.node (.node (.node (.node (.node .leaf 154 te154 .leaf) 155 te155 .leaf) 156 te156 (.node .leaf 157 te157 .leaf)) 158 te158 (.node (.node (.node .leaf 159 te159 .leaf) 160 te160 .leaf) 161 te161 (.node .leaf 162 te162 .leaf))) 163 te163 (.node (.node (.node (.node .leaf 164 te164 .leaf) 165 te165 .leaf) 166 te166 (.node .leaf 167 te167 .leaf)) 168 te168 (.node (.node (.node .leaf 169 te169 .leaf) 170 te170 .leaf) 171 te171 (.node .leaf 172 te172 .leaf)))) 173 te173 (.node (.node (.node (.node (.node .leaf 174 te174 .leaf) 175 te175 .leaf) 176 te176 (.node .leaf 177 te177 .leaf)) 178 te178 (.node (.node (.node .leaf 179 te179 .leaf) 180 te180 .leaf) 181 te181 (.node .leaf 182 te182 .leaf))) 183 te183 (.node (.node (.node (.node .leaf 184 te184 .leaf) 185 te185 .leaf) 186 te186 (.node .leaf 187 te187 .leaf)) 188 te188 (.node (.node .leaf 189 te189 .leaf) 190 te190 (.node .leaf 191 te191 .leaf))))) 192 te192 (.node (.node (.node (.node (.node (.node .leaf 193 te193 .leaf) 194 te194 .leaf) 195 te195 (.node .leaf 196 te196 .leaf)) 197 te197 (.node (.node (.node .leaf 198 te198 .leaf) 199 te199 .leaf) 200 te200 (.node .leaf 201 te201 .leaf))) 202 te202 (.node (.node (.node (.node .leaf 203 te203 .leaf) 204 te204 .leaf) 205 te205 (.node .leaf 206 te206 .leaf)) 207 te207 (.node (.node .leaf 208 te208 .leaf) 209 te209 (.node .leaf 210 te210 .leaf)))) 211 te211 (.node (.node (.node (.node (.node .leaf 212 te212 .leaf) 213 te213 .leaf) 214 te214 (.node .leaf 215 te215 .leaf)) 216 te216 (.node (.node (.node .leaf 217 te217 .leaf) 218 te218 .leaf) 219 te219 (.node .leaf 220 te220 .leaf))) 221 te221 (.node (.node (.node (.node .leaf 222 te222 .leaf) 223 te223 .leaf) 224 te224 (.node .leaf 225 te225 .leaf)) 226 te226 (.node (.node .leaf 227 te227 .leaf) 228 te228 (.node .leaf 229 te229 .leaf)))))) 230 te230 (.node (.node (.node (.node (.node (.node (.node .leaf 231 te231 .leaf) 232 te232 .leaf) 233 te233 (.node .leaf 234 te234 .leaf)) 235 te235 (.node (.node (.node .leaf 236 te236 .leaf) 237 te237 .leaf) 238 te238 (.node .leaf 239 te239 .leaf))) 240 te240 (.node (.node (.node (.node .leaf 241 te241 .leaf) 242 te242 .leaf) 243 te243 (.node .leaf 244 te244 .leaf)) 245 te245 (.node (.node (.node .leaf 246 te246 .leaf) 247 te247 .leaf) 248 te248 (.node .leaf 249 te249 .leaf)))) 250 te250 (.node (.node (.node (.node (.node .leaf 251 te251 .leaf) 252 te252 .leaf) 253 te253 (.node .leaf 254 te254 .leaf)) 255 te255 (.node (.node (.node .leaf 256 te256 .leaf) 257 te257 .leaf) 258 te258 (.node .leaf 259 te259 .leaf))) 260 te260 (.node (.node (.node (.node .leaf 261 te261 .leaf) 262 te262 .leaf) 263 te263 (.node .leaf 264 te264 .leaf)) 265 te265 (.node (.node .leaf 266 te266 .leaf) 267 te267 (.node .leaf 268 te268 .leaf))))) 269 te269 (.node (.node (.node (.node (.node (.node .leaf 270 te270 .leaf) 271 te271 .leaf) 272 te272 (.node .leaf 273 te273 .leaf)) 274 te274 (.node (.node (.node .leaf 275 te275 .leaf) 276 te276 .leaf) 277 te277 (.node .leaf 278 te278 .leaf))) 279 te279 (.node (.node (.node (.node .leaf 280 te280 .leaf) 281 te281 .leaf) 282 te282 (.node .leaf 283 te283 .leaf)) 284 te284 (.node (.node .leaf 285 te285 .leaf) 286 te286 (.node .leaf 287 te287 .leaf)))) 288 te288 (.node (.node (.node (.node (.node .leaf 289 te289 .leaf) 290 te290 .leaf) 291 te291 (.node .leaf 292 te292 .leaf)) 293 te293 (.node (.node (.node .leaf 294 te294 .leaf) 295 te295 .leaf) 296 te296 (.node .leaf 297 te297 .leaf))) 298 te298 (.node (.node (.node (.node .leaf 299 te299 .leaf) 300 te300 .leaf) 301 te301 (.node .leaf 302 te302 .leaf)) 303 te303 (.node (.node .leaf 304 te304 .leaf) 305 te305 (.node .leaf 306 te306 .leaf))))))))
theorem zC :tyT.Ok Tryz.prog:=⟨⟨⟨⟨⟨⟨⟨⟨⟨trivial,ty0,trivial⟩,ty1,trivial⟩,ty2,⟨trivial,ty3,trivial⟩⟩,ty4,⟨⟨⟨trivial,ty5,trivial⟩,ty6,trivial⟩,ty7,⟨trivial,ty8,trivial⟩⟩⟩,ty9,⟨⟨⟨⟨trivial,ty10,trivial⟩,ty11,trivial⟩,ty12,⟨trivial,ty13,trivial⟩⟩,ty14,⟨⟨⟨trivial,ty15,trivial⟩,ty16,trivial⟩,ty17,⟨trivial,ty18,trivial⟩⟩⟩⟩,ty19,⟨⟨⟨⟨⟨trivial,ty20,trivial⟩,ty21,trivial⟩,ty22,⟨trivial,ty23,trivial⟩⟩,ty24,⟨⟨⟨trivial,ty25,trivial⟩,ty26,trivial⟩,ty27,⟨trivial,ty28,trivial⟩⟩⟩,ty29,⟨⟨⟨⟨trivial,ty30,trivial⟩,ty31,trivial⟩,ty32,⟨trivial,ty33,trivial⟩⟩,ty34,⟨⟨trivial,ty35,trivial⟩,ty36,⟨trivial,ty37,trivial⟩⟩⟩⟩⟩,ty38,⟨⟨⟨⟨⟨⟨trivial,ty39,trivial⟩,ty40,trivial⟩,ty41,⟨trivial,ty42,trivial⟩⟩,ty43,⟨⟨⟨trivial,ty44,trivial⟩,ty45,trivial⟩,ty46,⟨trivial,ty47,trivial⟩⟩⟩,ty48,⟨⟨⟨⟨trivial,ty49,trivial⟩,ty50,trivial⟩,ty51,⟨trivial,ty52,trivial⟩⟩,ty53,⟨⟨trivial,ty54,trivial⟩,ty55,⟨trivial,ty56,trivial⟩⟩⟩⟩,ty57,⟨⟨⟨⟨⟨trivial,ty58,trivial⟩,ty59,trivial⟩,ty60,⟨trivial,ty61,trivial⟩⟩,ty62,⟨⟨⟨trivial,ty63,trivial⟩,ty64,trivial⟩,ty65,⟨trivial,ty66,trivial⟩⟩⟩,ty67,⟨⟨⟨⟨trivial,ty68,trivial⟩,ty69,trivial⟩,ty70,⟨trivial,ty71,trivial⟩⟩,ty72,⟨⟨trivial,ty73,trivial⟩,ty74,⟨trivial,ty75,trivial⟩⟩⟩⟩⟩⟩,ty76,⟨⟨⟨⟨⟨⟨⟨trivial,ty77,trivial⟩,ty78,trivial⟩,ty79,⟨trivial,ty80,trivial⟩⟩,ty81,⟨⟨⟨trivial,ty82,trivial⟩,ty83,trivial⟩,ty84,⟨trivial,ty85,trivial⟩⟩⟩,ty86,⟨⟨⟨⟨trivial,ty87,trivial⟩,ty88,trivial⟩,ty89,⟨trivial,ty90,trivial⟩⟩,ty91,⟨⟨⟨trivial,ty92,trivial⟩,ty93,trivial⟩,ty94,⟨trivial,ty95,trivial⟩⟩⟩⟩,ty96,⟨⟨⟨⟨⟨trivial,ty97,trivial⟩,ty98,trivial⟩,ty99,⟨trivial,ty100,trivial⟩⟩,ty101,⟨⟨⟨trivial,ty102,trivial⟩,ty103,trivial⟩,ty104,⟨trivial,ty105,trivial⟩⟩⟩,ty106,⟨⟨⟨⟨trivial,ty107,trivial⟩,ty108,trivial⟩,ty109,⟨trivial,ty110,trivial⟩⟩,ty111,⟨⟨trivial,ty112,trivial⟩,ty113,⟨trivial,ty114,trivial⟩⟩⟩⟩⟩,ty115,⟨⟨⟨⟨⟨⟨trivial,ty116,trivial⟩,ty117,trivial⟩,ty118,⟨trivial,ty119,trivial⟩⟩,ty120,⟨⟨⟨trivial,ty121,trivial⟩,ty122,trivial⟩,ty123,⟨trivial,ty124,trivial⟩⟩⟩,ty125,⟨⟨⟨⟨trivial,ty126,trivial⟩,ty127,trivial⟩,ty128,⟨trivial,ty129,trivial⟩⟩,ty130,⟨⟨trivial,ty131,trivial⟩,ty132,⟨trivial,ty133,trivial⟩⟩⟩⟩,ty134,⟨⟨⟨⟨⟨trivial,ty135,trivial⟩,ty136,trivial⟩,ty137,⟨trivial,ty138,trivial⟩⟩,ty139,⟨⟨⟨trivial,ty140,trivial⟩,ty141,trivial⟩,ty142,⟨trivial,ty143,trivial⟩⟩⟩,ty144,⟨⟨⟨⟨trivial,ty145,trivial⟩,ty146,trivial⟩,ty147,⟨trivial,ty148,trivial⟩⟩,ty149,⟨⟨trivial,ty150,trivial⟩,ty151,⟨trivial,ty152,trivial⟩⟩⟩⟩⟩⟩⟩,ty153,⟨⟨⟨⟨⟨⟨⟨⟨trivial,ty154,trivial⟩,ty155,trivial⟩,ty156,⟨trivial,ty157,trivial⟩⟩,ty158,⟨⟨⟨trivial,ty159,trivial⟩,ty160,trivial⟩,ty161,⟨trivial,ty162,trivial⟩⟩⟩,ty163,⟨⟨⟨⟨trivial,ty164,trivial⟩,ty165,trivial⟩,ty166,⟨trivial,ty167,trivial⟩⟩,ty168,⟨⟨⟨trivial,ty169,trivial⟩,ty170,trivial⟩,ty171,⟨trivial,ty172,trivial⟩⟩⟩⟩,ty173,⟨⟨⟨⟨⟨trivial,ty174,trivial⟩,ty175,trivial⟩,ty176,⟨trivial,ty177,trivial⟩⟩,ty178,⟨⟨⟨trivial,ty179,trivial⟩,ty180,trivial⟩,ty181,⟨trivial,ty182,trivial⟩⟩⟩,ty183,⟨⟨⟨⟨trivial,ty184,trivial⟩,ty185,trivial⟩,ty186,⟨trivial,ty187,trivial⟩⟩,ty188,⟨⟨trivial,ty189,trivial⟩,ty190,⟨trivial,ty191,trivial⟩⟩⟩⟩⟩,ty192,⟨⟨⟨⟨⟨⟨trivial,ty193,trivial⟩,ty194,trivial⟩,ty195,⟨trivial,ty196,trivial⟩⟩,ty197,⟨⟨⟨trivial,ty198,trivial⟩,ty199,trivial⟩,ty200,⟨trivial,ty201,trivial⟩⟩⟩,ty202,⟨⟨⟨⟨trivial,ty203,trivial⟩,ty204,trivial⟩,ty205,⟨trivial,ty206,trivial⟩⟩,ty207,⟨⟨trivial,ty208,trivial⟩,ty209,⟨trivial,ty210,trivial⟩⟩⟩⟩,ty211,⟨⟨⟨⟨⟨trivial,ty212,trivial⟩,ty213,trivial⟩,ty214,⟨trivial,ty215,trivial⟩⟩,ty216,⟨⟨⟨trivial,ty217,trivial⟩,ty218,trivial⟩,ty219,⟨trivial,ty220,trivial⟩⟩⟩,ty221,⟨⟨⟨⟨trivial,ty222,trivial⟩,ty223,trivial⟩,ty224,⟨trivial,ty225,trivial⟩⟩,ty226,⟨⟨trivial,ty227,trivial⟩,ty228,⟨trivial,ty229,trivial⟩⟩⟩⟩⟩⟩,ty230,⟨⟨⟨⟨⟨⟨⟨trivial,ty231,trivial⟩,ty232,trivial⟩,ty233,⟨trivial,ty234,trivial⟩⟩,ty235,⟨⟨⟨trivial,ty236,trivial⟩,ty237,trivial⟩,ty238,⟨trivial,ty239,trivial⟩⟩⟩,ty240,⟨⟨⟨⟨trivial,ty241,trivial⟩,ty242,trivial⟩,ty243,⟨trivial,ty244,trivial⟩⟩,ty245,⟨⟨⟨trivial,ty246,trivial⟩,ty247,trivial⟩,ty248,⟨trivial,ty249,trivial⟩⟩⟩⟩,ty250,⟨⟨⟨⟨⟨trivial,ty251,trivial⟩,ty252,trivial⟩,ty253,⟨trivial,ty254,trivial⟩⟩,ty255,⟨⟨⟨trivial,ty256,trivial⟩,ty257,trivial⟩,ty258,⟨trivial,ty259,trivial⟩⟩⟩,ty260,⟨⟨⟨⟨trivial,ty261,trivial⟩,ty262,trivial⟩,ty263,⟨trivial,ty264,trivial⟩⟩,ty265,⟨⟨trivial,ty266,trivial⟩,ty267,⟨trivial,ty268,trivial⟩⟩⟩⟩⟩,ty269,⟨⟨⟨⟨⟨⟨trivial,ty270,trivial⟩,ty271,trivial⟩,ty272,⟨trivial,ty273,trivial⟩⟩,ty274,⟨⟨⟨trivial,ty275,trivial⟩,ty276,trivial⟩,ty277,⟨trivial,ty278,trivial⟩⟩⟩,ty279,⟨⟨⟨⟨trivial,ty280,trivial⟩,ty281,trivial⟩,ty282,⟨trivial,ty283,trivial⟩⟩,ty284,⟨⟨trivial,ty285,trivial⟩,ty286,⟨trivial,ty287,trivial⟩⟩⟩⟩,ty288,⟨⟨⟨⟨⟨trivial,ty289,trivial⟩,ty290,trivial⟩,ty291,⟨trivial,ty292,trivial⟩⟩,ty293,⟨⟨⟨trivial,ty294,trivial⟩,ty295,trivial⟩,ty296,⟨trivial,ty297,trivial⟩⟩⟩,ty298,⟨⟨⟨⟨trivial,ty299,trivial⟩,ty300,trivial⟩,ty301,⟨trivial,ty302,trivial⟩⟩,ty303,⟨⟨trivial,ty304,trivial⟩,ty305,⟨trivial,ty306,trivial⟩⟩⟩⟩⟩⟩⟩⟩
theorem pl33 :placesOf Tryz.prog 33=some [(0,1),(1,1)]:=by kernel_rfl
theorem pl49 :placesOf Tryz.prog 49=some [(0,1),(1,1),(2,1),(3,1)]:=by kernel_rfl
theorem pl81 :placesOf Tryz.prog 81=some [(0,1),(1,1),(2,1)]:=by kernel_rfl
theorem pl90 :placesOf Tryz.prog 90=some [(0,1),(1,1)]:=by kernel_rfl
theorem pl96 :placesOf Tryz.prog 96=some [(0,1),(1,1),(2,1),(3,1)]:=by kernel_rfl
theorem pl121 :placesOf Tryz.prog 121=some [(0,1)]:=by kernel_rfl
theorem pl129 :placesOf Tryz.prog 129=some [(0,1),(1,1),(2,3)]:=by kernel_rfl
theorem pl140 :placesOf Tryz.prog 140=some [(0,1),(1,1),(2,1)]:=by kernel_rfl
theorem pl142 :placesOf Tryz.prog 142=some [(0,1),(1,1)]:=by kernel_rfl
theorem pl147 :placesOf Tryz.prog 147=some [(0,16),(16,1)]:=by kernel_rfl
theorem pl149 :placesOf Tryz.prog 149=some [(0,2)]:=by kernel_rfl
theorem pl152 :placesOf Tryz.prog 152=some [(0,1),(1,1)]:=by kernel_rfl
theorem pl162 :placesOf Tryz.prog 162=some [(0,1),(1,1),(2,1),(3,1)]:=by kernel_rfl
theorem pl186 :placesOf Tryz.prog 186=some [(0,1),(1,1),(2,1),(3,1),(4,1)]:=by kernel_rfl
theorem pl214 :placesOf Tryz.prog 214=some [(0,1),(1,1)]:=by kernel_rfl
theorem pl223 :placesOf Tryz.prog 223=some [(0,1),(1,1),(2,1)]:=by kernel_rfl
theorem pl230 :placesOf Tryz.prog 230=some [(0,1),(1,1),(2,1)]:=by kernel_rfl
theorem pl234 :placesOf Tryz.prog 234=some [(0,1),(1,1),(2,1),(3,1),(4,1),(5,1)]:=by kernel_rfl
theorem pl250 :placesOf Tryz.prog 250=some [(0,1),(1,1)]:=by kernel_rfl
end Go.Proofs.YteddogfolceahaaGreat
end
