/- Part 3 of the proof of the law TopOrders: texts merged. No condition. -/
import Derived.Test.YteddogfolceahaaGreatDoorZTopOrdersB
set_option linter.unusedSimpArgs false
set_option linter.unusedVariables false
section
set_option maxRecDepth 4000
namespace Go.Gh
open Go.RowKit

inductive TK |bool|int (k:IntKind)|str|slice (E:Nat)|ptr (E:Nat)|arr (n E:Nat)|st (fs:List (Nat × Nat))|other
structure TE where
 k:TK
 sz:Nat
 by':Nat
 z:Option Value
inductive TT |leaf|node (l:TT) (t:Nat) (e:TE) (r:TT)
def TT.get :TT→Nat→Option TE
 |.leaf,_=>none
 |.node l t e r,n=>bif Nat.blt n t then l.get n else bif Nat.beq n t then some e else r.get n
def tkOf :TypeDesc→TK
 |.bool=>.bool
 |.int k=>.int k
 |.string=>.str
 |.slice E=>.slice E
 |.pointer E=>.ptr E
 |.array n E=>.arr n E
 |.struct fs=>.st (fs.toList.map fun f=>(f.type,f.offset))
 |_=>.other
def zO (P:Program)(t:Nat):Option TE:=match P.underlying t,P.info? t with
 |some d,some i=>some ⟨tkOf d,i.size,i.bytes,bif Nat.ble i.size 300 then i.zero else none⟩
 |_,_=>none
def TT.Ok (P:Program):TT→Prop
 |.leaf=>True
 |.node l t e r=>l.Ok P∧zO P t=some e∧r.Ok P
theorem TT.get_ok {P:Program}:∀{tt:TT} {t:Nat} {e:TE},tt.Ok P→tt.get t=some e→zO P t=some e
 |.leaf,_,_,_,h=>by cases h
 |.node l s e' r,t,e,k,h=>by
  unfold TT.get at h
  cases hb:Nat.blt t s with
  |true=>rw[hb]at h;exact TT.get_ok k.1 h
  |false =>
   rw[hb]at h
   cases hc:Nat.beq t s with
   |true =>
    rw[hc]at h
    simp only[cond_false,cond_true,Option.some.injEq]at h
    rw[Nat.eq_of_beq_eq_true hc,←h];exact k.2.1
   |false=>rw[hc]at h;exact TT.get_ok k.2.2 h
section
variable {P:Program} {t:Nat} {e:TE}
theorem te_desc (h:zO P t=some e):∃d,P.underlying t=some d∧tkOf d=e.k:=by
 unfold zO at h
 split at h
 ·rename_i d i h1 h2;simp only[Option.some.injEq]at h;subst h;exact⟨d,h1,rfl⟩
 ·cases h
theorem te_inf (h:zO P t=some e):∃z,tinf P t=some (z,e.sz,e.by')∧(∀v,e.z=some v→z=some v):=by
 unfold zO at h
 split at h
 ·rename_i d i h1 h2
  simp only[Option.some.injEq]at h;subst h
  refine⟨i.zero,by simp[tinf,h2],fun v hv=>?_⟩
  simp only at hv
  cases hb:Nat.ble i.size 300 with
  |true=>rw[hb]at hv;exact hv
  |false=>rw[hb]at hv;cases hv
 ·cases h
theorem te_bool (h:zO P t=some e)(hk:e.k=.bool):P.underlying t=some .bool:=by
 obtain⟨d,h1,h2⟩:=te_desc h;rw[hk]at h2;cases d <;> first|(cases h2;done)|exact h1
theorem te_int {k:IntKind}(h:zO P t=some e)(hk:e.k=.int k):P.underlying t=some (.int k):=by
 obtain⟨d,h1,h2⟩:=te_desc h;rw[hk]at h2;cases d <;> first|(cases h2;done)|(cases h2;exact h1)
theorem te_str (h:zO P t=some e)(hk:e.k=.str):P.underlying t=some .string:=by
 obtain⟨d,h1,h2⟩:=te_desc h;rw[hk]at h2;cases d <;> first|(cases h2;done)|exact h1
theorem te_slice {E:Nat}(h:zO P t=some e)(hk:e.k=.slice E):P.underlying t=some (.slice E):=by
 obtain⟨d,h1,h2⟩:=te_desc h;rw[hk]at h2;cases d <;> first|(cases h2;done)|(cases h2;exact h1)
theorem te_ptr {E:Nat}(h:zO P t=some e)(hk:e.k=.ptr E):P.underlying t=some (.pointer E):=by
 obtain⟨d,h1,h2⟩:=te_desc h;rw[hk]at h2;cases d <;> first|(cases h2;done)|(cases h2;exact h1)
theorem te_arr {n E:Nat}(h:zO P t=some e)(hk:e.k=.arr n E):P.underlying t=some (.array n E):=by
 obtain⟨d,h1,h2⟩:=te_desc h;rw[hk]at h2;cases d <;> first|(cases h2;done)|(cases h2;exact h1)
theorem te_st {fs:List (Nat × Nat)}(h:zO P t=some e)(hk:e.k=.st fs):∃fl:Array Field,P.underlying t=some (.struct fl)∧fl.toList.map (fun f=>(f.type,f.offset))=fs:=by
 obtain⟨d,h1,h2⟩:=te_desc h;rw[hk]at h2;cases d <;> first|(cases h2;done)|(rename_i fl;refine⟨fl,h1,?_⟩;simp only[tkOf]at h2;exact TK.st.inj h2)
theorem te_field {fs:List (Nat × Nat)}{f F fo:Nat}(h:zO P t=some e)(hk:e.k=.st fs)(hf:fs[f]?=some (F,fo)):fieldOf P t f=some (F,fo):=by
 obtain⟨fl,h1,h2⟩:=te_st h hk
 unfold fieldOf
 rw[h1]
 simp only
 rw[←h2,List.getElem?_map,Array.getElem?_toList]at hf
 exact hf
def TK.agg :TK→Bool
 |.st _|.arr _ _=>true
 |_=>false
theorem te_agg (h:zO P t=some e):aggT P t=some e.k.agg:=by
 obtain⟨d,h1,h2⟩:=te_desc h
 unfold aggT
 rw[h1,←h2]
 cases d <;> rfl
end

def ikn :IntKind→Nat
 |.i8=>0|.i16=>1|.i32=>2|.i64=>3|.u8=>4|.u16=>5|.u32=>6|.u64=>7
def ikb (k k':IntKind):Bool:=Nat.beq (ikn k) (ikn k')
theorem ikb_eq {k k':IntKind}(h:ikb k k'=true):k=k':=by
 cases k <;> cases k' <;> first|rfl|(cases h)

abbrev PV :=Option (Prop × Value)
def pv (v:Value):PV:=some (True,v)
def gbin (tt:TT)(T:Nat)(op:BinOp):Value→Value→PV
 |.int k m,.int k' n=>bif ikb k k' then(match op with
  |.lss=>pv (.bool (decide (m<n)))|.leq=>pv (.bool (decide (m≤n)))|.gtr=>pv (.bool (decide (n<m)))|.geq=>pv (.bool (decide (n≤m)))
  |.eql=>pv (.bool (decide (m=n)))|.neq=>pv (.bool (decide (m≠n)))|_=>none)else none
 |.string ⟨⟨l⟩⟩,.string ⟨⟨m⟩⟩=>match op with
  |.add=>some (l.length+m.length≤9223372036854775807,S (l++m))|.eql=>pv (.bool (decide (l=m)))|.neq=>pv (.bool (decide (l≠m)))
  |.lss=>pv (.bool (Op.bytesLess l m))|.gtr=>pv (.bool (!(Op.bytesLess l m || (l == m))))|_=>none
 |.bool m,.bool n=>match tt.get T with
  |some ⟨.bool,_,_,_⟩=>(match op with|.eql=>pv (.bool (decide (m=n)))|.neq=>pv (.bool (decide (m≠n)))|_=>none)
  |_=>none
 |.pointer ad,.pointer none=>match tt.get T with
  |some ⟨.ptr _,_,_,_⟩=>(match op with|.eql=>pv (.bool ad.isNone)|.neq=>pv (.bool ad.isSome)|_=>none)
  |_=>none
 |_,_=>none
def glen (tt:TT)(T:Nat):Value→PV
 |.string ⟨⟨l⟩⟩=>(match tt.get T with|some ⟨.str,_,_,_⟩=>pv (I l.length)|_=>none)
 |.slice _ n _=>(match tt.get T with|some ⟨.slice _,_,_,_⟩=>pv (I n)|_=>none)
 |_=>none
def gslc (tt:TT)(T:Nat):Value→Option Value→Option Value→PV
 |.string ⟨⟨l⟩⟩,some (.int _ i),some (.int _ n)=>(match tt.get T with|some ⟨.str,_,_,_⟩=>some (0≤i∧i≤n∧n≤l.length,S ((l.take n.toNat).drop i.toNat))|_=>none)
 |.string ⟨⟨l⟩⟩,some (.int _ i),none=>(match tt.get T with|some ⟨.str,_,_,_⟩=>some (0≤i∧i≤l.length,S (l.drop i.toNat))|_=>none)
 |.string ⟨⟨l⟩⟩,none,some (.int _ n)=>(match tt.get T with|some ⟨.str,_,_,_⟩=>some (0≤n∧n≤l.length,S (l.take n.toNat))|_=>none)
 |.slice (some ⟨A,off,some n⟩) len _,some (.int _ i),some (.int _ h)=>(match tt.get T with
  |some ⟨.slice E,_,_,_⟩=>(match tt.get E with|some ⟨_,s,_,_⟩=>some ((0≤i∧i≤h∧h≤len)∧(i<h∨i=0),gsl A (off+i.toNat*s) n (h-i).toNat 0)|none=>none)|_=>none)
 |.slice (some ⟨A,off,some n⟩) len _,some (.int _ i),none=>(match tt.get T with
  |some ⟨.slice E,_,_,_⟩=>(match tt.get E with|some ⟨_,s,_,_⟩=>some ((0≤i∧i≤len)∧(i<len∨i=0),gsl A (off+i.toNat*s) n (len-i.toNat) 0)|none=>none)|_=>none)
 |.slice (some ⟨A,off,some n⟩) len _,none,some (.int _ h)=>(match tt.get T with
  |some ⟨.slice E,_,_,_⟩=>(match tt.get E with|some _=>some (0≤h∧h≤len,gsl A off n h.toNat 0)|none=>none)|_=>none)
 |.pointer (some ⟨A,off,some n⟩),none,none=>(match tt.get T with
  |some ⟨.arr len E,_,_,_⟩=>(match tt.get E with|some _=>some (len≤maxLen,gsl A off n len 0)|none=>none)|_=>none)
 |.pointer (some ⟨A,off,some n⟩),none,some (.int _ h)=>(match tt.get T with
  |some ⟨.arr len E,_,_,_⟩=>(match tt.get E with|some _=>some ((0≤h∧h≤len)∧len≤maxLen,gsl A off n h.toNat 0)|none=>none)|_=>none)
 |_,_,_=>none
def gidx (tt:TT)(T:Nat):Value→Value→PV
 |.string ⟨⟨l⟩⟩,.int _ i=>(match tt.get T with|some ⟨.str,_,_,_⟩=>some (0≤i∧i<l.length,.int .u8 (bat l i))|_=>none)
 |.agg ⟨vs⟩,.int _ i=>(match tt.get T with
  |some ⟨.arr len E,_,_,_⟩=>(match tt.get E with
   |some ⟨k,1,_,_⟩=>(match k.agg,Nat.ble len vs.length with|false,true=>some (0≤i∧i<len,vs.getD i.toNat (.bool false))|_,_=>none)
   |_=>none)
  |_=>none)
 |_,_=>none
def gidxA (tt:TT)(T:Nat):Value→Value→PV
 |.slice (some ⟨A,off,some n⟩) len _,.int _ i=>(match tt.get T with
  |some ⟨.slice E,_,_,_⟩=>(match tt.get E with|some ⟨_,s,_,_⟩=>some (0≤i∧i<len,gptr A (off+i.toNat*s) n)|none=>none)|_=>none)
 |.pointer (some ⟨A,off,some n⟩),.int _ i=>(match tt.get T with
  |some ⟨.arr len E,_,_,_⟩=>(match tt.get E with|some ⟨_,s,_,_⟩=>some (0≤i∧i<len,gptr A (off+i.toNat*s) n)|none=>none)|_=>none)
 |_,_=>none
def gfldA (tt:TT)(T f:Nat):Value→PV
 |.pointer (some ⟨A,off,some n⟩)=>(match tt.get T with
  |some ⟨.st fs,_,_,_⟩=>(match fs[f]? with
   |some (F,fo)=>(match tt.get F with|some ⟨_,s+1,_,_⟩=>pv (gptr A (off+fo) n)|_=>none)
   |none=>none)
  |_=>none)
 |_=>none
def gfld (tt:TT)(T f:Nat):Value→PV
 |.agg ⟨vs⟩=>(match tt.get T with
  |some ⟨.st fs,_,_,_⟩=>(match fs[f]? with
   |some (F,fo)=>(match tt.get F with
    |some e=>(match e.k.agg with|false=>(match vs[fo]? with|some v=>pv v|none=>none)|true=>none)
    |none=>none)
   |none=>none)
  |_=>none)
 |_=>none
def gext (i:Nat):Value→PV
 |.tuple ⟨vs⟩=>(match vs[i]? with|some v=>pv v|none=>none)
 |_=>none
def gnil :Value→PV
 |.pointer (some ad)=>pv (.pointer (some ad))
 |.func (.func f) us vs=>pv (.func (.func f) us vs)
 |_=>none
def ob {α β:Type}:Option α→(α→Option β)→Option β
 |some v,f=>f v
 |none,_=>none
theorem ob_some {α β:Type}{x:Option α}{f:α→Option β}{y:β}(h:ob x f=some y):∃v,x=some v∧f v=some y:=by
 cases x with
 |none=>cases h
 |some v=>exact⟨v,rfl,h⟩
def oo (a:AF):Option Operand→Option (Option Value)
 |none=>some none
 |some x=>match ev a x with|some v=>some (some v)|none=>none

def gpure (tt:TT)(a:AF):Op→PV
 |.move x|.assign x=>(match ev a x with|some v=>pv v|none=>none)
 |.pick c x y=>(match ev a c with
  |some (.bool b)=>(match b with
   |true=>(match ev a x with|some v=>pv v|none=>none)
   |false=>(match ev a y with|some v=>pv v|none=>none))
  |_=>none)
 |.binOp op T x y _=>ob (ev a x) fun u=>ob (ev a y) fun v=>gbin tt T op u v
 |.index T x y=>ob (ev a x) fun u=>ob (ev a y) fun v=>gidx tt T u v
 |.indexAddr T x y=>ob (ev a x) fun u=>ob (ev a y) fun v=>gidxA tt T u v
 |.fieldAddr T x f=>ob (ev a x) fun u=>gfldA tt T f u
 |.field T x f=>ob (ev a x) fun u=>gfld tt T f u
 |.extract x i=>ob (ev a x) fun u=>gext i u
 |.nilCheck x=>ob (ev a x) fun u=>gnil u
 |.slice T x lo hi none=>ob (ev a x) fun u=>ob (oo a lo) fun l=>ob (oo a hi) fun h=>gslc tt T u l h
 |.call ⟨.builtin .len,⟨[x]⟩,⟨[T]⟩⟩=>ob (ev a x) fun u=>glen tt T u
 |_=>none
def gar2 (op:BinOp):Value→Value→Option (Prop × IntKind × Int)
 |.int k m,.int k' n=>(match op with
   |.add=>bif ikb k k' then some (True,k,m+n)else none
   |.sub=>bif ikb k k' then some (True,k,m-n)else none
   |.mul=>bif ikb k k' then some (True,k,m*n)else none
   |.quo=>bif ikb k k' then some (n≠0,k,m.tdiv n)else none
   |.and=>bif ikb k k' then some (True,k,((BitVec.ofInt k.bits m&&&BitVec.ofInt k.bits n).toNat:Int))else none
   |.or=>bif ikb k k' then some (True,k,((BitVec.ofInt k.bits m ||| BitVec.ofInt k.bits n).toNat:Int))else none
   |.xor=>bif ikb k k' then some (True,k,((BitVec.ofInt k.bits m^^^BitVec.ofInt k.bits n).toNat:Int))else none
   |.shl=>some (0≤n,k,m*2^(min n.toNat k.bits))
   |_=>none)
 |_,_=>none
def gcon (tt:TT)(T U:Nat):Value→Option (Prop × IntKind × Int)
 |.int _ n=>(match tt.get T,tt.get U with|some _,some ⟨.int k,_,_,_⟩=>some (True,k,n)|_,_=>none)
 |_=>none
def gneg :Value→Option (Prop × IntKind × Int)
 |.int k n=>some (True,k,0-n)
 |_=>none
def garith (tt:TT)(a:AF):Op→Option (Prop × IntKind × Int)
 |.binOp op _ x y _=>ob (ev a x) fun u=>ob (ev a y) fun v=>gar2 op u v
 |.unOp .neg _ x=>ob (ev a x) fun u=>gneg u
 |.convert T U x=>ob (ev a x) fun u=>gcon tt T U u
 |_=>none
def gex2 (op:BinOp):Value→Value→Option (Prop × IntKind × Int)
 |.int k m,.int k' n=>(match op with
   |.rem=>bif ikb k k' then some (n≠0,k,m.tmod n)else none
   |.shr=>some (0≤n,k,m/2^(min n.toNat k.bits))
   |_=>none)
 |_,_=>none
def gexact (a:AF):Op→Option (Prop × IntKind × Int)
 |.binOp op _ x y _=>ob (ev a x) fun u=>ob (ev a y) fun v=>gex2 op u v
 |_=>none

section
variable {P:Program} {tt:TT} {N:Fr} {a:AF} {H:Heap} {t:Nat} {op:Op} {ty:TypeId} {pos:String} {aft:Array Edge} {p:Prop} {v:Value}

theorem pv_some {u v:Value}{p:Prop}(h:pv u=some (p,v)):v=u:=by simp only[pv,Option.some.injEq,Prod.mk.injEq]at h;exact h.2.symm

theorem gbin_ok (ht:tt.Ok P){o:BinOp}{T U:Nat}{x y:Operand}{u w:Value}(hx:ev a x=some u)(hy:ev a y=some w)(h:gbin tt T o u w=some (p,v))(hp:p) :
  APure P N ⟨some t,.binOp o T x y U,ty,pos,aft,none⟩ a H v:=by
 unfold gbin at h
 split at h
 ·rename_i k m k' n
  cases hk:ikb k k' with
  |false=>rw[hk]at h;cases h
  |true =>
   rw[hk]at h
   obtain rfl:=ikb_eq hk
   simp only[cond_true]at h
   cases o <;> simp only[reduceCtorEq]at h <;> obtain rfl:=pv_some h
   ·exact a_eql T U x y rfl hx hy
   ·exact a_neq T U x y rfl hx hy
   ·exact a_lss T U x y rfl hx hy
   ·exact a_leq T U x y rfl hx hy
   ·exact a_gtr T U x y rfl hx hy
   ·exact a_geq T U x y rfl hx hy
 ·cases o <;> simp only[reduceCtorEq]at h
  ·simp only[Option.some.injEq,Prod.mk.injEq]at h
   obtain⟨rfl,rfl⟩:=h
   exact a_sadd T U x y rfl hx hy hp
  ·obtain rfl:=pv_some h;exact a_seql T U x y rfl hx hy
  ·obtain rfl:=pv_some h;exact a_sneq T U x y rfl hx hy
  ·obtain rfl:=pv_some h;exact a_slss T U x y rfl hx hy
  ·obtain rfl:=pv_some h;exact a_sgtr T U x y rfl hx hy
 ·split at h
  ·rename_i h1
   have hb:=te_bool (TT.get_ok ht h1) rfl
   cases o <;> simp only[reduceCtorEq]at h <;> obtain rfl:=pv_some h
   ·exact a_beql T U x y rfl hx hy hb
   ·exact a_bneq T U x y rfl hx hy hb
  ·cases h
 ·split at h
  ·rename_i h1
   have hb:=te_ptr (TT.get_ok ht h1) rfl
   cases o <;> simp only[reduceCtorEq]at h <;> obtain rfl:=pv_some h
   ·exact a_pnil T U x y rfl hx hy hb
   ·exact a_pnotnil T U x y rfl hx hy hb
  ·cases h
 ·cases h

theorem oo_none {a:AF}{lo:Option Operand}(h:oo a lo=some none):lo=none:=by
 cases lo with
 |none=>rfl
 |some x=>simp only[oo]at h;split at h <;> cases h
theorem oo_some {a:AF}{lo:Option Operand}{v:Value}(h:oo a lo=some (some v)):∃x,lo=some x∧ev a x=some v:=by
 cases lo with
 |none=>cases h
 |some x =>
  simp only[oo]at h
  split at h
  ·rename_i u hu;simp only[Option.some.injEq]at h;exact⟨x,rfl,by rw[hu,h]⟩
  ·cases h

theorem gslc_ok (ht:tt.Ok P){T:Nat}{x:Operand}{lo hi:Option Operand}{u:Value}{ol oh:Option Value}(hx:ev a x=some u)(hl:oo a lo=some ol)(hh:oo a hi=some oh)(h:gslc tt T u ol oh=some (p,v))(hp:p) :
  APure P N ⟨some t,.slice T x lo hi none,ty,pos,aft,none⟩ a H v:=by
 unfold gslc at h
 split at h
 ·obtain⟨xl,rfl,e1⟩:=oo_some hl
  obtain⟨xh,rfl,e2⟩:=oo_some hh
  split at h
  ·rename_i h1
   simp only[Option.some.injEq,Prod.mk.injEq]at h;obtain⟨rfl,rfl⟩:=h
   exact a_sslice T x xl xh rfl hx e1 e2 (te_str (TT.get_ok ht h1) rfl) hp
  ·cases h
 ·obtain⟨xl,rfl,e1⟩:=oo_some hl
  obtain rfl:=oo_none hh
  split at h
  ·rename_i h1
   simp only[Option.some.injEq,Prod.mk.injEq]at h;obtain⟨rfl,rfl⟩:=h
   exact a_sfrom T x xl rfl hx e1 (te_str (TT.get_ok ht h1) rfl) hp
  ·cases h
 ·obtain rfl:=oo_none hl
  obtain⟨xh,rfl,e2⟩:=oo_some hh
  split at h
  ·rename_i h1
   simp only[Option.some.injEq,Prod.mk.injEq]at h;obtain⟨rfl,rfl⟩:=h
   exact a_sto T x xh rfl hx e2 (te_str (TT.get_ok ht h1) rfl) hp
  ·cases h
 ·obtain⟨xl,rfl,e1⟩:=oo_some hl
  obtain⟨xh,rfl,e2⟩:=oo_some hh
  split at h
  ·rename_i h1
   split at h
   ·rename_i h2
    simp only[Option.some.injEq,Prod.mk.injEq]at h;obtain⟨rfl,rfl⟩:=h
    obtain⟨z,hI,_⟩:=te_inf (TT.get_ok ht h2)
    exact a_cut T x xl xh rfl hx e1 e2 (te_slice (TT.get_ok ht h1) rfl) hI hp.1 hp.2
   ·cases h
  ·cases h
 ·obtain⟨xl,rfl,e1⟩:=oo_some hl
  obtain rfl:=oo_none hh
  split at h
  ·rename_i h1
   split at h
   ·rename_i h2
    simp only[Option.some.injEq,Prod.mk.injEq]at h;obtain⟨rfl,rfl⟩:=h
    obtain⟨z,hI,_⟩:=te_inf (TT.get_ok ht h2)
    exact a_cutfrom T x xl rfl hx e1 (te_slice (TT.get_ok ht h1) rfl) hI hp.1 hp.2
   ·cases h
  ·cases h
 ·obtain rfl:=oo_none hl
  obtain⟨xh,rfl,e2⟩:=oo_some hh
  split at h
  ·rename_i h1
   split at h
   ·rename_i h2
    simp only[Option.some.injEq,Prod.mk.injEq]at h;obtain⟨rfl,rfl⟩:=h
    obtain⟨z,hI,_⟩:=te_inf (TT.get_ok ht h2)
    exact a_cutto T x xh rfl hx e2 (te_slice (TT.get_ok ht h1) rfl) hI hp
   ·cases h
  ·cases h
 ·obtain rfl:=oo_none hl
  obtain rfl:=oo_none hh
  split at h
  ·rename_i h1
   split at h
   ·rename_i h2
    simp only[Option.some.injEq,Prod.mk.injEq]at h;obtain⟨rfl,rfl⟩:=h
    obtain⟨z,hI,_⟩:=te_inf (TT.get_ok ht h2)
    exact a_arrall T x rfl hx (te_arr (TT.get_ok ht h1) rfl) hI hp
   ·cases h
  ·cases h
 ·obtain rfl:=oo_none hl
  obtain⟨xh,rfl,e2⟩:=oo_some hh
  split at h
  ·rename_i h1
   split at h
   ·rename_i h2
    simp only[Option.some.injEq,Prod.mk.injEq]at h;obtain⟨rfl,rfl⟩:=h
    obtain⟨z,hI,_⟩:=te_inf (TT.get_ok ht h2)
    exact a_arrto T x xh rfl hx e2 (te_arr (TT.get_ok ht h1) rfl) hI hp.1 hp.2
   ·cases h
  ·cases h
 ·cases h

theorem gpure_ok (ht:tt.Ok P)(h:gpure tt a op=some (p,v))(hp:p):APure P N ⟨some t,op,ty,pos,aft,none⟩ a H v:=by
 unfold gpure at h
 split at h
 ·split at h
  ·rename_i hx;obtain rfl:=pv_some h;exact a_move _ rfl hx
  ·cases h
 ·split at h
  ·rename_i hx;obtain rfl:=pv_some h;exact a_assign _ rfl hx
  ·cases h
 ·rename_i c x y
  split at h
  ·rename_i hc
   split at h
   ·split at h
    ·rename_i hx;obtain rfl:=pv_some h;exact a_pick_true c x y rfl hc rfl hx
    ·cases h
   ·split at h
    ·rename_i hx;obtain rfl:=pv_some h;exact a_pick_false c x y rfl hc rfl hx
    ·cases h
  ·cases h
 ·obtain⟨u,hx,h⟩:=ob_some h
  obtain⟨w,hy,h⟩:=ob_some h
  exact gbin_ok ht hx hy h hp
 ·obtain⟨u,hx,h⟩:=ob_some h
  obtain⟨w,hy,h⟩:=ob_some h
  unfold gidx at h
  split at h
  ·split at h
   ·rename_i h1
    simp only[Option.some.injEq,Prod.mk.injEq]at h;obtain⟨rfl,rfl⟩:=h
    exact a_sidx _ _ _ rfl hx hy (te_str (TT.get_ok ht h1) rfl) hp
   ·cases h
  ·split at h
   ·rename_i h1
    split at h
    ·rename_i h2
     split at h
     ·rename_i h3 h4
      simp only[Option.some.injEq,Prod.mk.injEq]at h;obtain⟨rfl,rfl⟩:=h
      obtain⟨z,hI,_⟩:=te_inf (TT.get_ok ht h2)
      have hlen:=Nat.le_of_ble_eq_true h4
      refine a_aindex _ _ _ rfl hx hy (te_arr (TT.get_ok ht h1) rfl) (by rw[te_agg (TT.get_ok ht h2)];exact congrArg some h3) hI hp ?_
      rw[List.getD_eq_getElem?_getD,List.getElem?_eq_getElem (by omega)];rfl
     ·cases h
    ·cases h
   ·cases h
  ·cases h
 ·obtain⟨u,hx,h⟩:=ob_some h
  obtain⟨w,hy,h⟩:=ob_some h
  unfold gidxA at h
  split at h
  ·split at h
   ·rename_i h1
    split at h
    ·rename_i h2
     simp only[Option.some.injEq,Prod.mk.injEq]at h;obtain⟨rfl,rfl⟩:=h
     obtain⟨z,hI,_⟩:=te_inf (TT.get_ok ht h2)
     exact a_idxAddr _ _ _ rfl hx hy (te_slice (TT.get_ok ht h1) rfl) hI hp
    ·cases h
   ·cases h
  ·split at h
   ·rename_i h1
    split at h
    ·rename_i h2
     simp only[Option.some.injEq,Prod.mk.injEq]at h;obtain⟨rfl,rfl⟩:=h
     obtain⟨z,hI,_⟩:=te_inf (TT.get_ok ht h2)
     exact a_aidxAddr _ _ _ rfl hx hy (te_arr (TT.get_ok ht h1) rfl) hI hp
    ·cases h
   ·cases h
  ·cases h
 ·obtain⟨u,hx,h⟩:=ob_some h
  unfold gfldA at h
  split at h
  ·split at h
   ·rename_i h1
    split at h
    ·rename_i h2
     split at h
     ·rename_i h3
      obtain rfl:=pv_some h
      obtain⟨z,hI,_⟩:=te_inf (TT.get_ok ht h3)
      exact a_fieldAddr _ _ _ rfl hx (te_field (TT.get_ok ht h1) rfl h2) hI (by simp)
     ·cases h
    ·cases h
   ·cases h
  ·cases h
 ·obtain⟨u,hx,h⟩:=ob_some h
  unfold gfld at h
  split at h
  ·split at h
   ·rename_i h1
    split at h
    ·rename_i h2
     split at h
     ·rename_i h3
      split at h
      ·rename_i h4
       split at h
       ·rename_i h5
        obtain rfl:=pv_some h
        exact a_field _ _ _ rfl hx (te_field (TT.get_ok ht h1) rfl h2) (by rw[te_agg (TT.get_ok ht h3),h4]) h5
       ·cases h
      ·cases h
     ·cases h
    ·cases h
   ·cases h
  ·cases h
 ·obtain⟨u,hx,h⟩:=ob_some h
  unfold gext at h
  split at h
  ·split at h
   ·rename_i h1
    obtain rfl:=pv_some h
    exact a_extract _ _ rfl hx (by simpa using h1)
   ·cases h
  ·cases h
 ·obtain⟨u,hx,h⟩:=ob_some h
  unfold gnil at h
  split at h
  ·obtain rfl:=pv_some h;exact a_nilCheck _ rfl hx
  ·obtain rfl:=pv_some h;exact a_nilCheckF _ rfl hx
  ·cases h
 ·obtain⟨u,hx,h⟩:=ob_some h
  obtain⟨l,hl,h⟩:=ob_some h
  obtain⟨w,hw,h⟩:=ob_some h
  exact gslc_ok ht hx hl hw h hp
 ·obtain⟨u,hx,h⟩:=ob_some h
  unfold glen at h
  split at h
  ·split at h
   ·rename_i h1
    obtain rfl:=pv_some h;exact a_slen _ _ rfl hx (te_str (TT.get_ok ht h1) rfl)
   ·cases h
  ·split at h
   ·rename_i h1
    obtain rfl:=pv_some h;exact a_len _ _ rfl hx (te_slice (TT.get_ok ht h1) rfl)
   ·cases h
  ·cases h
 ·cases h

variable {k:IntKind} {e r:Int}
theorem ikb_some {k1 k2:IntKind}{q:Prop}{x:Int}(hq:(bif ikb k1 k2 then some (q,k1,x)else none)=some (p,k,e)):k1=k2∧q=p∧k1=k∧x=e:=by
 cases hb:ikb k1 k2 with
 |false=>rw[hb]at hq;cases hq
 |true=>rw[hb]at hq;simp only[cond_true,Option.some.injEq,Prod.mk.injEq]at hq;exact⟨ikb_eq hb,hq.1,hq.2.1,hq.2.2⟩
theorem gar2_ok {o:BinOp}{T U:Nat}{x y:Operand}{u w:Value}(hx:ev a x=some u)(hy:ev a y=some w)(h:gar2 o u w=some (p,k,e))(hp:p)(hr:k.wrap e=r) :
  APure P N ⟨some t,.binOp o T x y U,ty,pos,aft,none⟩ a H (.int k r):=by
 unfold gar2 at h
 split at h
 ·cases o <;> simp only[reduceCtorEq]at h
  ·obtain⟨rfl,rfl,rfl,rfl⟩:=ikb_some h;exact a_add _ _ _ _ rfl hx hy hr
  ·obtain⟨rfl,rfl,rfl,rfl⟩:=ikb_some h;exact a_sub _ _ _ _ rfl hx hy hr
  ·obtain⟨rfl,rfl,rfl,rfl⟩:=ikb_some h;exact a_mul _ _ _ _ rfl hx hy hr
  ·obtain⟨rfl,rfl,rfl,rfl⟩:=ikb_some h;exact a_quo _ _ _ _ rfl hx hy hp hr
  ·obtain⟨rfl,rfl,rfl,rfl⟩:=ikb_some h;exact a_and _ _ _ _ rfl hx hy hr
  ·obtain⟨rfl,rfl,rfl,rfl⟩:=ikb_some h;exact a_or _ _ _ _ rfl hx hy hr
  ·obtain⟨rfl,rfl,rfl,rfl⟩:=ikb_some h;exact a_xor _ _ _ _ rfl hx hy hr
  ·simp only[Option.some.injEq,Prod.mk.injEq]at h
   obtain⟨rfl,rfl,rfl⟩:=h
   exact a_shl _ _ _ _ rfl hx hy hp hr
 ·cases h
theorem garith_ok (ht:tt.Ok P)(h:garith tt a op=some (p,k,e))(hp:p)(hr:k.wrap e=r):APure P N ⟨some t,op,ty,pos,aft,none⟩ a H (.int k r):=by
 unfold garith at h
 split at h
 ·obtain⟨u,hx,h⟩:=ob_some h
  obtain⟨w,hy,h⟩:=ob_some h
  exact gar2_ok hx hy h hp hr
 ·obtain⟨u,hx,h⟩:=ob_some h
  unfold gneg at h
  split at h
  ·simp only[Option.some.injEq,Prod.mk.injEq]at h
   obtain⟨rfl,rfl,rfl⟩:=h
   exact a_neg _ _ rfl hx hr
  ·cases h
 ·obtain⟨u,hx,h⟩:=ob_some h
  unfold gcon at h
  split at h
  ·split at h
   ·rename_i h1 h2
    simp only[Option.some.injEq,Prod.mk.injEq]at h
    obtain⟨rfl,rfl,rfl⟩:=h
    obtain⟨d,hd,_⟩:=te_desc (TT.get_ok ht h1)
    exact a_conv _ _ _ rfl hx hd (te_int (TT.get_ok ht h2) rfl) hr
   ·cases h
  ·cases h
 ·cases h
theorem gexact_ok (h:gexact a op=some (p,k,e))(hp:p)(hr:e=r):APure P N ⟨some t,op,ty,pos,aft,none⟩ a H (.int k r):=by
 unfold gexact at h
 split at h
 ·obtain⟨u,hx,h⟩:=ob_some h
  obtain⟨w,hy,h⟩:=ob_some h
  unfold gex2 at h
  split at h
  ·rename_i o _ _ _ _ _ _ _ _ _ _ _ _
   cases o <;> simp only[reduceCtorEq]at h
   ·obtain⟨rfl,rfl,rfl,rfl⟩:=ikb_some h;exact a_rem _ _ _ _ rfl hx hy hp hr
   ·simp only[Option.some.injEq,Prod.mk.injEq]at h
    obtain⟨rfl,rfl,rfl⟩:=h
    refine a_shr _ _ _ _ rfl hx hy hp ?_
    rw[←hr]
    exact Int.fdiv_eq_ediv_of_nonneg _ (Int.pow_nonneg (by decide))
  ·cases h
 ·cases h
end
section
variable {tt:TT} {a a':AF} {op:Op}
theorem oo_congr {lo:Option Operand}(h:∀x∈lo.toArray,ev a' x=ev a x):oo a' lo=oo a lo:=by
 cases lo with
 |none=>rfl
 |some x=>simp only[oo,h x (by simp)]
theorem gpure_congr (h:∀x∈op.operands,ev a' x=ev a x):gpure tt a' op=gpure tt a op:=by
 unfold gpure
 split
 ·rw[h _ (by simp[Op.operands])]
 ·rw[h _ (by simp[Op.operands])]
 ·rename_i c x y
  rw[h c (by simp[Op.operands]),h x (by simp[Op.operands]),h y (by simp[Op.operands])]
 ·rename_i o T x y U
  rw[h x (by simp[Op.operands]),h y (by simp[Op.operands])]
 ·rename_i T x y
  rw[h x (by simp[Op.operands]),h y (by simp[Op.operands])]
 ·rename_i T x y
  rw[h x (by simp[Op.operands]),h y (by simp[Op.operands])]
 ·rw[h _ (by simp[Op.operands])]
 ·rw[h _ (by simp[Op.operands])]
 ·rw[h _ (by simp[Op.operands])]
 ·rw[h _ (by simp[Op.operands])]
 ·rename_i T x lo hi
  rw[h x (by simp[Op.operands]),oo_congr (lo:=lo) (fun y hy=>h y (by simp only[Op.operands,Array.mem_append];simp_all)),oo_congr (lo:=hi) (fun y hy=>h y (by simp only[Op.operands,Array.mem_append];simp_all))]
 ·rename_i x T
  rw[h x (by simp[Op.operands,Call.operands])]
 ·rfl
theorem garith_congr (h:∀x∈op.operands,ev a' x=ev a x):garith tt a' op=garith tt a op:=by
 unfold garith
 split
 ·rename_i o T x y U
  rw[h x (by simp[Op.operands]),h y (by simp[Op.operands])]
 ·rw[h _ (by simp[Op.operands])]
 ·rw[h _ (by simp[Op.operands])]
 ·rfl
theorem gexact_congr (h:∀x∈op.operands,ev a' x=ev a x):gexact a' op=gexact a op:=by
 unfold gexact
 split
 ·rename_i o T x y U
  rw[h x (by simp[Op.operands]),h y (by simp[Op.operands])]
 ·rfl
theorem evs_congr :∀{xs:List Operand},(∀x∈xs,ev a' x=ev a x)→evs a' xs=evs a xs
 |[],_=>rfl
 |y::ys,hy=>by simp only[evs,hy y List.mem_cons_self,evs_congr fun z hz=>hy z (List.mem_cons_of_mem _ hz)]
theorem evps_congr :∀{ps:List (Nat × Operand)},(∀x∈ps,ev a' x.2=ev a x.2)→evps a' ps=evps a ps
 |[],_=>rfl
 |(n,y)::ys,hy=>by
  have e:ev a' y=ev a y:=hy (n,y) List.mem_cons_self
  simp only[evps,e,evps_congr fun z hz=>hy z (List.mem_cons_of_mem _ hz)]
end

inductive SetAt :List Value→Nat→Value→List Value→Prop
 |zero {x v l}:SetAt (x::l) 0 v (v::l)
 |succ {x v l n l'}:SetAt l n v l'→SetAt (x::l) (n+1) v (x::l')
theorem SetAt.ok {l l':List Value}{n:Nat}{v:Value}(h:SetAt l n v l'):n<l.length∧l'=l.set n v:=by
 induction h with
 |zero=>simp
 |succ _ ih=>obtain⟨h1,rfl⟩:=ih;simp;omega
theorem SetAt.any {l:List Value}{n:Nat}{v:Value}(h:n<l.length):SetAt l n v (l.set n v):=by
 induction l generalizing n with
 |nil=>simp at h
 |cons x r ih =>
  cases n with
  |zero=>exact .zero
  |succ n=>exact .succ (ih (by simpa using h))
def PutAt (l:List Value)(o:Nat)(vs l':List Value):Prop:=o+vs.length≤l.length∧l'=lset l o vs
theorem yA {l vs:List Value}(h:l.length=vs.length):PutAt l 0 vs vs:=⟨by omega,by
 unfold lset;rw[List.drop_of_length_le (by omega)];simp⟩

theorem setAt_putAt {l l':List Value}{o:Nat}{v:Value}(h:SetAt l o v l'):PutAt l o [v] l':=by
 obtain⟨h1,rfl⟩:=h.ok
 refine⟨by simp;omega,?_⟩
 simp only[lset,List.length_singleton]
 rw[List.set_eq_take_append_cons_drop,if_pos h1]
 simp

inductive BuildR (pl:List (Nat × Nat)):List Value→List (Nat × Value)→List Value→Prop
 |nil {zs}:BuildR pl zs [] zs
 |one {zs zs' i off v r out} (hp:pl[i]?=some (off,1)) (ho:Go.Gh.one v=true) (hs:SetAt zs off v zs') (k:BuildR pl zs' r out):BuildR pl zs ((i,v)::r) out
 |agg {zs zs' i off s vs r out} (hp:pl[i]?=some (off,s)) (ho:vs.length=s) (hs:PutAt zs off vs zs') (k:BuildR pl zs' r out):BuildR pl zs ((i,.agg ⟨vs⟩)::r) out
theorem one_cells {v:Value}(hv:one v=true):v.cells=#[v]:=by cases v <;> first|(simp[one]at hv;done)|rfl
theorem gfill_step {places:Nat→Option (Nat × Nat)}{cells:List Value}{i off size:Nat}{v:Value}{r:List (Nat × Value)}(hp:places i=some (off,size))(hs:v.cells.size=size)(hl:off+size≤cells.length) :
  gfill places cells ((i,v)::r)=gfill places (lset cells off v.cells.toList) r:=by
 simp only[gfill,hp,gfill.constOk1,hs,hl,decide_true,Bool.and_self,cond_true]
theorem BuildR.ok {pl:List (Nat × Nat)}{zs out:List Value}{vs:List (Nat × Value)}(h:BuildR pl zs vs out):gfill (fun i:Nat=>pl[i]?) zs vs=some out:=by
 induction h with
 |nil=>rfl
 |@one zs zs' i off v r out hp ho hs _ ih =>
  obtain⟨h1,h2⟩:=setAt_putAt hs
  have e:=one_cells ho
  rw[gfill_step hp (by rw[e];rfl) h1,e]
  rw[←ih,h2]
 |@agg zs zs' i off s vs r out hp ho hs _ ih =>
  obtain⟨h1,h2⟩:=hs
  rw[gfill_step hp (by simpa[Value.cells]using ho) (by omega)]
  rw[←ih,h2];rfl

inductive CatR (s:Nat):Nat→List (Nat × Value)→List Value→Prop
 |nil {k}:CatR s k [] []
 |one {k v r out} (hs:s=1) (ho:Go.Gh.one v=true) (h:CatR s (k+1) r out):CatR s k ((k,v)::r) (v::out)
 |agg {k vs r out} (ho:vs.length=s) (h:CatR s (k+1) r out):CatR s k ((k,.agg ⟨vs⟩)::r) (vs++out)
 |last {k vs} (ho:vs.length=s):CatR s k [(k,.agg ⟨vs⟩)] vs
theorem CatR.len {s k:Nat}{vs:List (Nat × Value)}{out:List Value}(h:CatR s k vs out):out.length=vs.length*s:=by
 induction h with
 |nil=>simp
 |one hs _ _ ih=>subst hs;simp[ih]
 |agg ho _ ih=>simp only[List.length_append,List.length_cons,ho,ih,Nat.add_mul,Nat.one_mul];omega
 |last ho=>simp[ho]
theorem CatR.ok {s k:Nat}{vs:List (Nat × Value)}{out:List Value}(h:CatR s k vs out):∀pre zs:List Value,pre.length=k*s→zs.length=vs.length*s→gfill (fun i=>some (i*s,s)) (pre++zs) vs=some (pre++out):=by
 have step:∀(pre zs cs:List Value) (k m:Nat),pre.length=k*s→cs.length=s→zs.length=(m+1)*s→lset (pre++zs) (k*s) cs=(pre++cs)++zs.drop s:=by
  intro pre zs cs k m h1 h2 h3
  unfold lset
  rw[←h1,h2,List.take_append_of_le_length (Nat.le_refl _),List.take_length,List.drop_append,List.drop_of_length_le (by omega),show pre.length+s-pre.length=s by omega,List.nil_append]
 have main:∀(k:Nat) (v:Value) (cs:List Value) (r:List (Nat × Value)) (out pre zs:List Value),v.cells.toList=cs→cs.length=s→pre.length=k*s→zs.length=(r.length+1)*s →
   (∀pre zs:List Value,pre.length=(k+1)*s→zs.length=r.length*s→gfill (fun i=>some (i*s,s)) (pre++zs) r=some (pre++out)) →
   gfill (fun i=>some (i*s,s)) (pre++zs) ((k,v)::r)=some (pre++(cs++out)):=by
  intro k v cs r out pre zs hv hc hp hz ih
  have hsz:v.cells.size=s:=by rw[←Array.length_toList,hv,hc]
  have hle:k*s+s≤(pre++zs).length:=by rw[List.length_append,hp,hz,Nat.add_mul];omega
  rw[gfill_step rfl hsz hle,hv,step pre zs cs k r.length hp hc hz,ih (pre++cs) (zs.drop s) (by simp[hp,hc,Nat.add_mul]) (by rw[List.length_drop,hz,Nat.add_mul];omega),List.append_assoc]
 induction h with
 |nil=>intro pre zs h1 h2;simp at h2;subst h2;rfl
 |@one k v r out hs ho h ih =>
  subst hs
  intro pre zs h1 h2
  exact main k v [v] r out pre zs (by rw[one_cells ho]) rfl h1 h2 ih
 |@agg k vs r out ho h ih =>
  intro pre zs h1 h2
  exact main k (.agg ⟨vs⟩) vs r out pre zs rfl ho h1 h2 ih
 |@last k vs ho =>
  intro pre zs h1 h2
  have:=main k (.agg ⟨vs⟩) vs [] [] pre zs rfl ho h1 h2 (fun pre zs _ h2=>by simp at h2;subst h2;rfl)
  rw[List.append_nil]at this
  exact this

structure Sd (p:Prop):Prop where
 h:p
structure Ln (p:Prop):Prop where
 h:p
structure Wr (p:Prop):Prop where
 h:p
structure Ex (p:Prop):Prop where
 h:p
structure Ce (p:Prop):Prop where
 h:p
structure Rc (p:Prop):Prop where
 h:p
structure Su (p:Prop):Prop where
 h:p
structure Se (p:Prop):Prop where
 h:p
structure Pu (p:Prop):Prop where
 h:p

section
variable {P:Program} {tt:TT} {sz:Nat} {ops:Array Oper} {Q:SPost} {rest:List Oper} {a:AF} {h h' h1:SH} {m:Mode} {t:Nat} {op:Op} {ty:TypeId} {pos:String} {aft:Array Edge} {p:Prop} {v:Value}

theorem o_g (ht:tt.Ok P)(hg:gpure tt a op=some (p,v))(hN:Nat.blt t sz=true)(hp:Sd p)(k:GO m.next P sz ops Q rest ((t,v)::a) h):GO m P sz ops Q (⟨some t,op,ty,pos,aft,none⟩::rest) a h :=
 o_pure (fun _ _ _ hag=>gpure_ok ht ((gpure_congr fun _ hx=>hag.ev hx).trans hg) hp.1) hN k
theorem o_ar {kk:IntKind}{e r:Int}(ht:tt.Ok P)(hg:garith tt a op=some (p,kk,e))(hN:Nat.blt t sz=true)(hp:Sd p)(hr:Wr (kk.wrap e=r))(k:GO m.next P sz ops Q rest ((t,.int kk r)::a) h) :
  GO m P sz ops Q (⟨some t,op,ty,pos,aft,none⟩::rest) a h:=o_pure (fun _ _ _ hag=>garith_ok ht ((garith_congr fun _ hx=>hag.ev hx).trans hg) hp.1 hr.1) hN k
theorem o_ex {kk:IntKind}{e r:Int}(hg:gexact a op=some (p,kk,e))(hN:Nat.blt t sz=true)(hp:Sd p)(hr:Ex (e=r))(k:GO m.next P sz ops Q rest ((t,.int kk r)::a) h) :
  GO m P sz ops Q (⟨some t,op,ty,pos,aft,none⟩::rest) a h:=o_pure (fun _ _ _ hag=>gexact_ok ((gexact_congr fun _ hx=>hag.ev hx).trans hg) hp.1 hr.1) hN k
theorem o_not {T:Nat}{x:Operand}{q:Prop}{_:Decidable (q)}(hx:ev a x=some (.bool (decide q)))(hN:Nat.blt t sz=true)(k:GO m.next P sz ops Q rest ((t,.bool (decide (¬q)))::a) h) :
  GO m P sz ops Q (⟨some t,.unOp .not T x,ty,pos,aft,none⟩::rest) a h:=by
 refine o_pure (fun _ _ _ hag=>?_) hN k
 rw[show decide (¬q)=!decide q from by simp]
 exact a_not _ _ rfl ((hag.ev (by simp[Op.operands,Call.operands])).trans hx)
theorem yR {T:Nat}{x:Operand}{b:Bool}(hx:ev a x=some (.bool b))(hN:Nat.blt t sz=true)(k:GO m.next P sz ops Q rest ((t,.bool (!b))::a) h) :
  GO m P sz ops Q (⟨some t,.unOp .not T x,ty,pos,aft,none⟩::rest) a h:=o_pure (fun _ _ _ hag=>a_not _ _ rfl ((hag.ev (by simp[Op.operands,Call.operands])).trans hx)) hN k
theorem o_min {T U:Nat}{x y:Operand}{kk:IntKind}{i j:Int}(hx:ev a x=some (.int kk i))(hy:ev a y=some (.int kk j))(hN:Nat.blt t sz=true)(k:GO m.next P sz ops Q rest ((t,.int kk (min i j))::a) h) :
  GO m P sz ops Q (⟨some t,.call { callee:=.builtin .min,args:=#[x,y],argTypes:=#[T,U] },ty,pos,aft,none⟩::rest) a h:=o_pure (fun _ _ _ hag=>a_min T U x y rfl ((hag.ev (by simp[Op.operands,Call.operands])).trans hx) ((hag.ev (by simp[Op.operands,Call.operands])).trans hy)) hN k
theorem o_max {T U:Nat}{x y:Operand}{kk:IntKind}{i j:Int}(hx:ev a x=some (.int kk i))(hy:ev a y=some (.int kk j))(hN:Nat.blt t sz=true)(k:GO m.next P sz ops Q rest ((t,.int kk (max i j))::a) h) :
  GO m P sz ops Q (⟨some t,.call { callee:=.builtin .max,args:=#[x,y],argTypes:=#[T,U] },ty,pos,aft,none⟩::rest) a h:=o_pure (fun _ _ _ hag=>a_max T U x y rfl ((hag.ev (by simp[Op.operands,Call.operands])).trans hx) ((hag.ev (by simp[Op.operands,Call.operands])).trans hy)) hN k
theorem o_makeFunc {fn:Fn}{xs ys:List Operand}{us vs:List Value}(hx:evs a xs=some us)(hy:evs a ys=some vs)(hN:Nat.blt t sz=true)(k:GO m.next P sz ops Q rest ((t,.func fn us.toArray vs.toArray)::a) h) :
  GO m P sz ops Q (⟨some t,.makeFunc fn xs.toArray ys.toArray,ty,pos,aft,none⟩::rest) a h:=o_pure (fun _ _ _ hag=>a_makeFunc fn xs ys rfl ((evs_congr fun x hx=>hag.ev (by simp[Op.operands,hx])).trans hx) ((evs_congr fun x hx=>hag.ev (by simp[Op.operands,hx])).trans hy)) hN k
theorem o_iface {T:Nat}{x:Operand}{d:TypeDesc}(hx:ev a x=some v)(hT:P.underlying T=some d)(hd:(match d with|.interface _=>false|_=>true)=true)(hN:Nat.blt t sz=true)(k:GO m.next P sz ops Q rest ((t,.iface T v)::a) h) :
  GO m P sz ops Q (⟨some t,.makeInterface T x,ty,pos,aft,none⟩::rest) a h:=o_pure (fun _ _ _ hag=>a_makeIface T x rfl ((hag.ev (by simp[Op.operands,Call.operands])).trans hx) hT hd) hN k
theorem o_cutend {T:Nat}{x lo:Operand}{A off n len fl:Nat}{j:IntKind}{i:Int}{E s b:Nat}{z:Option Value}{e:TE}(ht:tt.Ok P)(hx:ev a x=some (gsl A off n len fl))(hlo:ev a lo=some (.int j i))(hT:tt.get T=some ⟨.slice E,s,b,z⟩)(hE:tt.get E=some e)(hi:i=len)
  (hN:Nat.blt t sz=true) (k:GO m.next P sz ops Q rest ((t,sempty)::a) h):GO m P sz ops Q (⟨some t,.slice T x (some lo) none none,ty,pos,aft,none⟩::rest) a h :=
 o_pure (fun _ _ _ hag=>let ⟨_,hI,_⟩:=te_inf (TT.get_ok ht hE);a_cutend T x lo rfl ((hag.ev (by simp[Op.operands,Call.operands])).trans hx) ((hag.ev (by simp[Op.operands,Call.operands])).trans hlo) (te_slice (TT.get_ok ht hT) rfl) hI hi) hN k
theorem yT {T:Nat}{ps:List (Nat × Operand)}{fs:List (Nat × Nat)}{pl:List (Nat × Nat)}{zs out:List Value}{s b:Nat}{vs:List (Nat × Value)}(ht:tt.Ok P)(hT:tt.get T=some ⟨.st fs,s,b,some (.agg ⟨zs⟩)⟩)(hv:evps a ps=some vs)(hp:placesOf P T=some pl)
  (hz:yJ (.agg ⟨zs⟩)=true) (hb:BuildR pl zs vs out) (hN:Nat.blt t sz=true) (k:GO m.next P sz ops Q rest ((t,.agg ⟨out⟩)::a) h):GO m P sz ops Q (⟨some t,.build T ps.toArray,ty,pos,aft,none⟩::rest) a h :=
 o_pure (fun _ _ _ hag=>let ⟨_,hI,hz'⟩:=te_inf (TT.get_ok ht hT);a_build T ps rfl ((evps_congr fun x hx=>hag.ev (by simp only[Op.operands];exact List.mem_toArray.2 (List.mem_map.2 ⟨x,by simpa using hx,rfl⟩))).trans hv) hp (hz' _ rfl▸hI) hz hb.ok) hN k

theorem o_buildArr {T n E:Nat}{ps:List (Nat × Operand)}{zs out:List Value}{s b:Nat}{e:TE}{vs:List (Nat × Value)}(ht:tt.Ok P)(hT:tt.get T=some ⟨.arr n E,s,b,some (.agg ⟨zs⟩)⟩)(hE:tt.get E=some e)(hv:evps a ps=some vs)
  (hz:yJ (.agg ⟨zs⟩)=true) (hb:BuildR (arrPl n e.sz) zs vs out) (hN:Nat.blt t sz=true) (k:GO m.next P sz ops Q rest ((t,.agg ⟨out⟩)::a) h):GO m P sz ops Q (⟨some t,.build T ps.toArray,ty,pos,aft,none⟩::rest) a h :=
 o_pure (fun _ _ _ hag=>let ⟨_,hI,hz'⟩:=te_inf (TT.get_ok ht hT);let ⟨_,hI2,_⟩:=te_inf (TT.get_ok ht hE);a_buildArr T ps rfl ((evps_congr fun x hx=>hag.ev (by simp only[Op.operands];exact List.mem_toArray.2 (List.mem_map.2 ⟨x,by simpa using hx,rfl⟩))).trans hv) (te_arr (TT.get_ok ht hT) rfl) hI2 (hz' _ rfl▸hI) hz hb.ok) hN k

theorem zM {T:Nat}{x:Operand}{A off n:Nat}{g:Blk}{e:TE}(ht:tt.Ok P)(hx:ev a x=some (gptr A off n))(hT:tt.get T=some e)(hk:e.k.agg=false)(hp:Pick h A g h1)(hN:Nat.blt t sz=true)(hn:Ln (g.cells.length=n))(hc:Ce (g.cells[off]?=some v))
  (hok:m.rdOk ops fun h'=>Rc (∃g h1,Pick h' A g h1∧Ln (g.cells.length=n)∧Ce (g.cells[off]?=some v))) (k:GO (m.rd fun h'=>Rc (∃g h1,Pick h' A g h1∧Ln (g.cells.length=n)∧Ce (g.cells[off]?=some v))) P sz ops Q rest ((t,v)::a) h):GO m P sz ops Q (⟨some t,.load T x,ty,pos,aft,none⟩::rest) a h :=
 o_read (fun h'=>Rc (∃g h1,Pick h' A g h1∧Ln (g.cells.length=n)∧Ce (g.cells[off]?=some v))) ⟨_,_,hp,hn,hc⟩ (fun _ _ _ _ _ i ⟨_,_,hp,⟨hn⟩,⟨hc⟩⟩ hag=>a_load T x rfl ((hag.ev (by simp[Op.operands,Call.operands])).trans hx) (by rw[te_agg (TT.get_ok ht hT),hk]) (i.look hp) hn hc) hN hok k
def SubAt (l:List Value)(o:Nat)(vs:List Value):Prop:=∀(i:Nat) v,vs[i]?=some v→l[o+i]?=some v
theorem zQ {l:List Value}:SubAt l 0 l:=fun i v h=>by rw[Nat.zero_add];exact h
theorem subAt_get {l:List Value}{o n:Nat}(h:o+n≤l.length):SubAt l o ((l.drop o).take n):=fun i v hi=>by
 rw[List.getElem?_take]at hi;split at hi
 ·rwa [List.getElem?_drop]at hi
 ·cases hi
theorem yQ {T:Nat}{x:Operand}{A off n:Nat}{g:Blk}{e:TE}{vs:List Value}(ht:tt.Ok P)(hx:ev a x=some (gptr A off n))(hT:tt.get T=some e)(hk:e.k.agg=true)(hp:Pick h A g h1)(hN:Nat.blt t sz=true)(hn:Ln (g.cells.length=n))(hc:Su (SubAt g.cells off vs))(hs:Ln (vs.length=e.sz))
  (hok:m.rdOk ops fun h'=>Rc (∃g h1,Pick h' A g h1∧Ln (g.cells.length=n)∧Su (SubAt g.cells off vs))) (k:GO (m.rd fun h'=>Rc (∃g h1,Pick h' A g h1∧Ln (g.cells.length=n)∧Su (SubAt g.cells off vs))) P sz ops Q rest ((t,.agg ⟨vs⟩)::a) h):GO m P sz ops Q (⟨some t,.load T x,ty,pos,aft,none⟩::rest) a h :=
 o_read (fun h'=>Rc (∃g h1,Pick h' A g h1∧Ln (g.cells.length=n)∧Su (SubAt g.cells off vs))) ⟨_,_,hp,hn,hc⟩ (fun _ _ _ _ _ i ⟨_,_,hp,⟨hn⟩,⟨hc⟩⟩ hag=>let ⟨_,hI,_⟩:=te_inf (TT.get_ok ht hT);a_loads T x rfl ((hag.ev (by simp[Op.operands,Call.operands])).trans hx) (by rw[te_agg (TT.get_ok ht hT),hk]) hI (i.look hp) hn hs.1 hc) hN hok k
theorem o_toString {T U:Nat}{x:Operand}{A off n len fl E s b:Nat}{z:Option Value}{e1 e2:TE}{g:Blk}{l:List UInt8}(ht:tt.Ok P)(hx:ev a x=some (gsl A off n len fl))(hT:tt.get T=some ⟨.slice E,s,b,z⟩)(hE:tt.get E=some e1)(hU:tt.get U=some e2)
  (k1:e1.k=.int .u8) (k2:e2.k=.str) (hp:Pick h A g h1) (hN:Nat.blt t sz=true) (hn:Ln (g.cells.length=n)) (hc:Su (SubAt g.cells off (bytesV l))) (hl:Ln (l.length=len)) (hok:m.rdOk ops fun h'=>Rc (∃g h1,Pick h' A g h1∧Ln (g.cells.length=n)∧Su (SubAt g.cells off (bytesV l)))) (k:GO (m.rd fun h'=>Rc (∃g h1,Pick h' A g h1∧Ln (g.cells.length=n)∧Su (SubAt g.cells off (bytesV l)))) P sz ops Q rest ((t,S l)::a) h) :
  GO m P sz ops Q (⟨some t,.convert T U x,ty,pos,aft,none⟩::rest) a h :=
 o_read (fun h'=>Rc (∃g h1,Pick h' A g h1∧Ln (g.cells.length=n)∧Su (SubAt g.cells off (bytesV l)))) ⟨_,_,hp,hn,hc⟩ (fun _ _ _ _ _ i ⟨_,_,hp,⟨hn⟩,⟨hc⟩⟩ hag=>a_toString T U x rfl ((hag.ev (by simp[Op.operands,Call.operands])).trans hx) (te_slice (TT.get_ok ht hT) rfl) (te_int (TT.get_ok ht hE) k1) (te_str (TT.get_ok ht hU) k2) (i.look hp) hn hl.1 hc) hN hok k
theorem o_toString_nil {T U:Nat}{x:Operand}{E s b:Nat}{z:Option Value}{e1 e2:TE}(ht:tt.Ok P)(hx:ev a x=some (.slice none 0 0))(hT:tt.get T=some ⟨.slice E,s,b,z⟩)(hE:tt.get E=some e1)(hU:tt.get U=some e2)
  (k1:e1.k=.int .u8) (k2:e2.k=.str) (hN:Nat.blt t sz=true) (k:GO m.next P sz ops Q rest ((t,S [])::a) h) :
  GO m P sz ops Q (⟨some t,.convert T U x,ty,pos,aft,none⟩::rest) a h :=
 o_pure (fun _ _ _ hag=>a_toString_nil T U x rfl ((hag.ev (by simp[Op.operands,Call.operands])).trans hx) (te_slice (TT.get_ok ht hT) rfl) (te_int (TT.get_ok ht hE) k1) (te_str (TT.get_ok ht hU) k2)) hN k
def vcells :Value→List Value
 |.agg ⟨vs⟩=>vs
 |v=>[v]
theorem vcells_ok (v:Value):v.cells.toList=vcells v:=by cases v <;> rfl
def vcl (v:Value):Option (List Value):=match v with
 |.agg ⟨vs⟩=>some vs
 |v=>some [v]
theorem vcl_ok {v:Value}{c:List Value}(hv:vcl v=some c):v.cells.toList=c:=by
 cases v <;> (simp only[vcl,Option.some.injEq]at hv;subst hv;rfl)
theorem yG {T s b:Nat}{tk:TK}{z:Value}{c:List Value}(ht:tt.Ok P)(hT:tt.get T=some ⟨tk,s,b,some z⟩)(hc:vcl z=some c)(hz:yJ z=true)(hs:c.length=s)(hN:Nat.blt t sz=true)
  (k:∀A,GO (m.nw h (A,⟨c,false⟩)) P sz ops Q rest ((t,gptr A 0 s)::a) ((A,⟨c,false⟩)::h)):GO m P sz ops Q (⟨some t,.alloc T,ty,pos,aft,none⟩::rest) a h:=by
 have hc':=vcl_ok hc
 have hs':z.cells.size=s:=by rw[←Array.length_toList,hc',hs]
 subst hc' hs'
 obtain⟨_,hI,hz'⟩:=te_inf (TT.get_ok ht hT)
 exact o_new (v:=fun A=>gptr A 0 _) hN (fun _ _ _ _ _ hpl _=>e_alloc T rfl (hz' _ rfl▸hI) hz hpl) k
theorem o_box {T:Nat}{x:Operand}{s b:Nat}{tk:TK}{z:Option Value}{c:List Value}(_hT:tt.get T=some ⟨tk,s,b,z⟩)(hx:ev a x=some v)(hc:vcl v=some c)(hs:c.length=s)(hN:Nat.blt t sz=true)
  (k:∀A,GO (m.nw h (A,⟨c,false⟩)) P sz ops Q rest ((t,gptr A 0 s)::a) ((A,⟨c,false⟩)::h)):GO m P sz ops Q (⟨some t,.box T x,ty,pos,aft,none⟩::rest) a h:=by
 have hc':=vcl_ok hc
 have hs':v.cells.size=s:=by rw[←Array.length_toList,hc',hs]
 subst hc' hs'
 exact o_new (v:=fun A=>gptr A 0 _) hN (fun _ _ _ _ _ hpl hag=>e_box T x rfl ((hag.ev (by simp[Op.operands,Call.operands])).trans hx) hpl) k
theorem zT {T n:Nat}{ps:List (Nat × Operand)}{E s1 b1 s b:Nat}{tk:TK}{z1:Option Value}{z:Value}{vs:List (Nat × Value)}{out:List Value}(ht:tt.Ok P)(hT:tt.get T=some ⟨.slice E,s1,b1,z1⟩)(hE:tt.get E=some ⟨tk,s,b,some z⟩)(hz:yJ z=true)(hzs:(vcells z).length=s)
  (hv:evps a ps=some vs) (hs:0<s) (hn:vs.length=n) (hle:n*s≤16777216) (hc:CatR s 0 vs out) (hN:Nat.blt t sz=true) (k:∀A,GO (m.nw h (A,⟨out,false⟩)) P sz ops Q rest ((t,gsl A 0 (n*s) n s)::a) ((A,⟨out,false⟩)::h)) :
  GO m P sz ops Q (⟨some t,.buildSlice T n ps.toArray,ty,pos,aft,none⟩::rest) a h:=by
 obtain⟨_,hI,hz'⟩:=te_inf (TT.get_ok ht hE)
 have hzs':z.cells.size=s:=by rw[←Array.length_toList,vcells_ok,hzs]
 have h0:=hc.ok [] (zrow z (n*s)) (by simp) (by rw[hn];simp[zrow])
 exact o_new (v:=fun A=>gsl A 0 _ _ _) hN (fun _ _ _ _ _ hpl hag=>e_buildSlice T n ps rfl ((evps_congr fun x hx=>hag.ev (by simp only[Op.operands];exact List.mem_toArray.2 (List.mem_map.2 ⟨x,by simpa using hx,rfl⟩))).trans hv) (te_slice (TT.get_ok ht hT) rfl) (hz' _ rfl▸hI) hz hzs' hs hle h0 hpl) k
theorem o_makeSlice {T:Nat}{x y:Operand}{E s1 b1 s b:Nat}{tk:TK}{z1:Option Value}{z:Value}{j kk:IntKind}{n c:Int}{cells:List Value}(ht:tt.Ok P)(hx:ev a x=some (.int j n))(hy:ev a y=some (.int kk c))(hT:tt.get T=some ⟨.slice E,s1,b1,z1⟩)(hE:tt.get E=some ⟨tk,s,b,some z⟩)(hz:yJ z=true)
  (hzs:(vcells z).length=s) (hs:0<s) (hn:0≤n∧n≤c∧(b:Int)*c≤281474976710656∧c≤9223372036854775807) (hc:zrow z (n.toNat*s)=cells) (hN:Nat.blt t sz=true)
  (k:∀A,GO (m.nw h (A,⟨cells,false⟩)) P sz ops Q rest ((t,gsl A 0 (n.toNat*s) n.toNat s)::a) ((A,⟨cells,false⟩)::h)):GO m P sz ops Q (⟨some t,.makeSlice T x y,ty,pos,aft,none⟩::rest) a h:=by
 obtain⟨_,hI,hz'⟩:=te_inf (TT.get_ok ht hE)
 have hzs':z.cells.size=s:=by rw[←Array.length_toList,vcells_ok,hzs]
 subst hc
 exact o_new (v:=fun A=>gsl A 0 _ _ _) hN (fun _ _ _ _ _ hpl hag=>e_makeSlice T x y rfl ((hag.ev (by simp[Op.operands,Call.operands])).trans hx) ((hag.ev (by simp[Op.operands,Call.operands])).trans hy) (te_slice (TT.get_ok ht hT) rfl) (hz' _ rfl▸hI) hz hzs' hs hn hpl) k
theorem o_toBytes {T U:Nat}{x:Operand}{l:List UInt8}{E s b:Nat}{z:Option Value}{e1 e2:TE}(ht:tt.Ok P)(hx:ev a x=some (S l))(hT:tt.get T=some e1)(hU:tt.get U=some ⟨.slice E,s,b,z⟩)(hE:tt.get E=some e2)(k1:e1.k=.str)(k2:e2.k=.int .u8)(hN:Nat.blt t sz=true)(hl:Sd (l.length≤maxLen))
  (k:∀A,GO (m.nw h (A,⟨bytesV l,false⟩)) P sz ops Q rest ((t,gsl A 0 l.length l.length 1)::a) ((A,⟨bytesV l,false⟩)::h)):GO m P sz ops Q (⟨some t,.convert T U x,ty,pos,aft,none⟩::rest) a h :=
 o_new (v:=fun A=>gsl A 0 _ _ _) hN (fun _ _ _ _ _ hpl hag=>e_toBytes T U x rfl ((hag.ev (by simp[Op.operands,Call.operands])).trans hx) (te_str (TT.get_ok ht hT) k1) (te_slice (TT.get_ok ht hU) rfl) (te_int (TT.get_ok ht hE) k2) hl.1 hpl) k

theorem zX {T:Nat}{x y:Operand}{A off n b:Nat}{tk:TK}{z:Option Value}{cells cells':List Value}(ht:tt.Ok P)(hx:ev a x=some (gptr A off n))(hy:ev a y=some v)(h1:one v=true)(hT:tt.get T=some ⟨tk,1,b,z⟩)(hu:Upd h A ⟨cells,false⟩ ⟨cells',false⟩ h')(hn:Ln (cells.length=n))(hs:Se (SetAt cells off v cells'))
  (hok:m.efOk ops h') (k:GO (m.ef h) P sz ops Q rest a h'):GO m P sz ops Q (⟨none,.store T x y,ty,pos,aft,none⟩::rest) a h:=by
 obtain⟨h2,rfl⟩:=hs.1.ok
 have hn1:=hn.1
 obtain⟨_,hI,_⟩:=te_inf (TT.get_ok ht hT)
 exact o_upd rfl hu (fun _ _ _ hA hag=>e_store T x y rfl ((hag.ev (by simp[Op.operands,Call.operands])).trans hx) ((hag.ev (by simp[Op.operands,Call.operands])).trans hy) h1 hI hA hn.1 (Nat.ble_eq_true_of_le (by omega))) hok k
theorem yE {T:Nat}{x y:Operand}{A off n:Nat}{e:TE}{cells cells' vs:List Value}(ht:tt.Ok P)(hx:ev a x=some (gptr A off n))(hy:ev a y=some (.agg ⟨vs⟩))(h1:vs.all one=true)(hT:tt.get T=some e)(hs:Ln (vs.length=e.sz))(hu:Upd h A ⟨cells,false⟩ ⟨cells',false⟩ h')(hn:Ln (cells.length=n))(hc:Pu (PutAt cells off vs cells'))
  (hok:m.efOk ops h') (k:GO (m.ef h) P sz ops Q rest a h'):GO m P sz ops Q (⟨none,.store T x y,ty,pos,aft,none⟩::rest) a h:=by
 obtain⟨⟨h2,rfl⟩⟩:=hc
 have hn1:=hn.1
 have hs1:=hs.1
 obtain⟨_,hI,_⟩:=te_inf (TT.get_ok ht hT)
 exact o_upd rfl hu (fun _ _ _ hA hag=>e_stores T x y rfl ((hag.ev (by simp[Op.operands,Call.operands])).trans hx) ((hag.ev (by simp[Op.operands,Call.operands])).trans hy) h1 hI hs.1 hA hn.1 (Nat.ble_eq_true_of_le (by omega))) hok k
theorem o_append {T:Nat}{x y:Operand}{A n len A2 off2 n2 mm fl2 E s1 b1 s b:Nat}{tk:TK}{z1:Option Value}{z:Value}{cells news:List Value}{g2:Blk}(ht:tt.Ok P)(hx:ev a x=some (gsl A 0 n len s))(hy:ev a y=some (gsl A2 off2 n2 mm fl2))(hT:tt.get T=some ⟨.slice E,s1,b1,z1⟩)(hE:tt.get E=some ⟨tk,s,b,some z⟩)
  (hzs:(vcells z).length=s) (hs:Sd (0<s)) (hu:Upd h A ⟨cells,false⟩ ⟨cells++news,false⟩ h') (hp:Pick h A2 g2 h1) (hn:Ln (cells.length=n)) (hfull:Ln (len*s=n)) (hn2:Ln (g2.cells.length=n2)) (hc:Su (SubAt g2.cells off2 news)) (hl:Ln (news.length=mm*s)) (ho:news.all one=true) (hN:Nat.blt t sz=true)
  (hb:Sd ((len+mm)*b≤140737488355328∧len+mm≤maxLen)) (hok:m.efOk ops h') (k:GO (m.ef h) P sz ops Q rest ((t,gsl A 0 (n+mm*s) (len+mm) s)::a) h') :
  GO m P sz ops Q (⟨some t,.call { callee:=.builtin .append,args:=#[x,y],argTypes:=#[T,T] },ty,pos,aft,none⟩::rest) a h:=by
 obtain⟨_,hI,hz'⟩:=te_inf (TT.get_ok ht hE)
 have hzs':z.cells.size=s:=by rw[←Array.length_toList,vcells_ok,hzs]
 exact o_upd2 hN hu hp (fun _ _ _ hA hA2 hag=>e_append T x y rfl ((hag.ev (by simp[Op.operands,Call.operands])).trans hx) ((hag.ev (by simp[Op.operands,Call.operands])).trans hy) (te_slice (TT.get_ok ht hT) rfl) (hz' _ rfl▸hI) hzs' hs.1 hA hn.1 hfull.1 hA2 hn2.1 hl.1 hc.1 ho hb.1.1 hb.1.2) hok k
theorem o_append_nil {T:Nat}{x y:Operand}{A2 off2 n2 mm fl2 E s1 b1 s b:Nat}{tk:TK}{z1:Option Value}{z:Value}{news:List Value}{g2:Blk}(ht:tt.Ok P)(hx:ev a x=some (.slice none 0 0))(hy:ev a y=some (gsl A2 off2 n2 mm fl2))(hT:tt.get T=some ⟨.slice E,s1,b1,z1⟩)(hE:tt.get E=some ⟨tk,s,b,some z⟩)
  (hzs:(vcells z).length=s) (hs:Sd (0<s)) (hp:Pick h A2 g2 h1) (hn2:Ln (g2.cells.length=n2)) (hc:Su (SubAt g2.cells off2 news)) (hl:Ln (news.length=mm*s)) (hN:Nat.blt t sz=true)
  (hb:Sd (0<mm∧mm*b≤281474976710656∧mm≤maxLen)) (hok:∀A,m.efOk ops ((A,⟨news,false⟩)::h)) (k:∀A,GO (m.ef h) P sz ops Q rest ((t,gsl A 0 (mm*s) mm s)::a) ((A,⟨news,false⟩)::h)) :
  GO m P sz ops Q (⟨some t,.call { callee:=.builtin .append,args:=#[x,y],argTypes:=#[T,T] },ty,pos,aft,none⟩::rest) a h:=by
 obtain⟨_,hI,hz'⟩:=te_inf (TT.get_ok ht hE)
 have hzs':z.cells.size=s:=by rw[←Array.length_toList,vcells_ok,hzs]
 exact o_newR (v:=fun A=>gsl A 0 _ _ _) hN hp (fun _ _ _ _ _ hA2 hpl hag=>e_append_nil T x y rfl ((hag.ev (by simp[Op.operands,Call.operands])).trans hx) ((hag.ev (by simp[Op.operands,Call.operands])).trans hy) (te_slice (TT.get_ok ht hT) rfl) (hz' _ rfl▸hI) hzs' hs.1 hA2 hn2.1 hl.1 hc.1 hb.1.1 hb.1.2.1 hb.1.2.2 hpl) hok k
end

section
variable {α:Type} {f:α→List Value} {w:Nat}
def recs (f:α→List Value):List α→List Value
 |[]=>[]
 |x::r=>f x++recs f r
@[simp] theorem recs_nil :recs f []=[]:=rfl
theorem recs_app :∀{l m:List α},recs f (l++m)=recs f l++recs f m
 |[],_=>rfl
 |x::r,m=>by simp only[List.cons_append,recs,recs_app (l:=r),List.append_assoc]
theorem recs_one {x:α}:recs f [x]=f x:=List.append_nil _
theorem recs_snoc {l:List α}{x:α}:recs f (l++[x])=recs f l++f x:=by rw[recs_app,recs_one]
theorem yI {l:List α}{x:α}{c:List Value}(h:c=f x):recs f l++c=recs f (l++[x]):=by rw[h,recs_snoc]
theorem recs_len (hw:∀x,(f x).length=w):∀l:List α,(recs f l).length=l.length*w
 |[]=>by simp[recs]
 |x::r=>by simp only[recs,List.length_append,List.length_cons,hw,recs_len hw r,Nat.add_mul,Nat.one_mul];omega
theorem recs_get [Inhabited α](hw:∀x,(f x).length=w):∀{l:List α} {i j:Nat},i<l.length→j<w→(recs f l)[i*w+j]?=(f l[i]!)[j]?
 |[],i,j,h,_=>by simp at h
 |x::r,0,j,_,hj=>by
  simp only[recs,Nat.zero_mul,Nat.zero_add]
  rw[List.getElem?_append_left (by rw[hw];exact hj)]
  rfl
 |x::r,i+1,j,h,hj=>by
  simp only[recs]
  rw[List.getElem?_append_right (by rw[hw,Nat.add_mul];omega),hw,show(i+1)*w+j-w=i*w+j by rw[Nat.add_mul];omega,
   recs_get hw (by simpa using h) hj]
  simp
theorem recs_set (hw:∀x,(f x).length=w):∀{l:List α} {i:Nat} {x:α},i<l.length→lset (recs f l) (i*w) (f x)=recs f (l.set i x)
 |[],i,x,h=>by simp at h
 |y::r,0,x,_=>by
  simp only[recs,lset,List.set_cons_zero,Nat.zero_mul,List.take_zero,List.nil_append,Nat.zero_add,hw]
  rw[List.drop_append_of_le_length (by rw[hw];exact Nat.le_refl _),List.drop_of_length_le (by rw[hw];exact Nat.le_refl _),List.nil_append]
 |y::r,i+1,x,h=>by
  have ih:=recs_set hw (l:=r) (i:=i) (x:=x) (by simpa using h)
  simp only[lset,hw]at ih
  simp only[recs,lset,List.set_cons_succ,hw]
  rw[←ih,show(i+1)*w=(f y).length+i*w by rw[hw,Nat.add_mul];omega,show(f y).length+i*w+w=(f y).length+(i*w+w)from by omega,List.take_append,List.drop_append,List.take_of_length_le (by omega),List.drop_of_length_le (l:=f y) (by omega)]
  simp[List.append_assoc]
theorem recs_zrow [Inhabited α](hw:∀x,(f x).length=w)(h0:0<w){z:Value}(x:α)(hz:vcells z=f x)(n:Nat):zrow z (n*w)=recs f (List.replicate n x):=by
 have hz':z.cells.toList=f x:=by rw[vcells_ok,hz]
 have hs:z.cells.size=w:=by rw[←Array.length_toList,hz',hw]
 apply List.ext_getElem?
 intro k
 by_cases hk:k<n*w
 ·have hq:k/w<n:=(Nat.div_lt_iff_lt_mul h0).2 hk
  have:=recs_get hw (l:=List.replicate n x) (i:=k/w) (j:=k%w) (by simpa using hq) (Nat.mod_lt _ h0)
  rw[Nat.div_add_mod']at this
  rw[this,getElem!_pos _ _ (by simpa using hq),List.getElem_replicate]
  unfold zrow
  rw[List.getElem?_map,List.getElem?_range hk,hs,Option.map_some,hz',List.getD_eq_getElem?_getD,List.getElem?_eq_getElem (by rw[hw];exact Nat.mod_lt _ h0)]
  rfl
 ·rw[List.getElem?_eq_none (by simp[zrow];omega),List.getElem?_eq_none (by rw[recs_len hw];simp;omega)]
theorem subAt_rec [Inhabited α]{l:List α}{i:Nat}(hw:∀x,(f x).length=w)(hi:i<l.length):SubAt (recs f l) (0+i*w) (f l[i]!):=fun j v hj=>by
 have hj2:=(List.getElem?_eq_some_iff.1 hj).1
 rw[hw]at hj2
 rw[Nat.zero_add,recs_get hw hi hj2];exact hj
theorem subAt_recZ [Inhabited α]{l:List α}{i:Nat}(hw:∀x,(f x).length=w)(hi:i<l.length):SubAt (recs f l) (0+((i:Int)).toNat*w) (f l[i]!):=subAt_rec hw hi
theorem cell_rec [Inhabited α]{l:List α}{i fo:Nat}{v:Value}(hw:∀x,(f x).length=w)(hi:i<l.length)(hf:fo<w)(hv:(f l[i]!)[fo]?=some v):(recs f l)[0+i*w+fo]?=some v:=by
 rw[Nat.zero_add,recs_get hw hi hf];exact hv
theorem cell_recZ [Inhabited α]{l:List α}{i fo:Nat}{v:Value}(hw:∀x,(f x).length=w)(hi:i<l.length)(hf:fo<w)(hv:(f l[i]!)[fo]?=some v):(recs f l)[0+((i:Int)).toNat*w+fo]?=some v:=cell_rec hw hi hf hv
theorem putAt_rec {l:List α}{i:Nat}{x:α}(hw:∀x,(f x).length=w)(hi:i<l.length):PutAt (recs f l) (0+i*w) (f x) (recs f (l.set i x)):=by
 refine⟨?_,?_⟩
 ·rw[hw,recs_len hw,Nat.zero_add]
  calc i*w+w=(i+1)*w:=by rw[Nat.add_mul,Nat.one_mul]
   _≤l.length*w:=Nat.mul_le_mul_right w hi
 ·rw[Nat.zero_add];exact(recs_set hw hi).symm
theorem putAt_recZ {l:List α}{i:Nat}{x:α}(hw:∀x,(f x).length=w)(hi:i<l.length):PutAt (recs f l) (0+((i:Int)).toNat*w) (f x) (recs f (l.set i x)):=putAt_rec hw hi
end
section
variable {α:Type} {f:α→Value}
theorem cell_map [Inhabited α]{l:List α}{i:Nat}(hi:i<l.length):(l.map f)[0+i*1]?=some (f l[i]!):=by
 rw[Nat.zero_add,Nat.mul_one,List.getElem?_map,List.getElem?_eq_getElem hi,getElem!_pos l i hi];rfl
theorem yM [Inhabited α]{l:List α}{i:Nat}(hi:i<l.length):(l.map f)[0+((i:Int)).toNat*1]?=some (f l[i]!):=cell_map hi
theorem setAt_map {l:List α}{i:Nat}{x:α}(hi:i<l.length):SetAt (l.map f) (0+i*1) (f x) ((l.set i x).map f):=by
 rw[Nat.zero_add,Nat.mul_one,List.map_set];exact SetAt.any (by simpa using hi)
theorem setAt_mapZ {l:List α}{i:Nat}{x:α}(hi:i<l.length):SetAt (l.map f) (0+((i:Int)).toNat*1) (f x) ((l.set i x).map f):=setAt_map hi
theorem all_map {l:List α}(h:∀x,one (f x)=true):(l.map f).all one=true:=by simp[h]
theorem map_zrow {z:Value}(x:α)(h:one z=true)(hz:z=f x)(n:Nat):zrow z (n*1)=(List.replicate n x).map f:=by
 rw[zrow_one h,Nat.mul_one,List.map_replicate,hz]
end
theorem yO {α:Type}{f:α→Value}{l:List α}{x:α}{v:Value}(h:v=f x):l.map f++[v]=(l++[x]).map f:=by rw[h,List.map_append];rfl
theorem cell_bytes {l:List UInt8}{i:Int}(hi:0≤i∧i<l.length):(bytesV l)[0+i.toNat*1]?=some (.int .u8 (bat l i)):=by
 have h:i.toNat<l.length:=by omega
 rw[Nat.zero_add,Nat.mul_one]
 unfold bytesV bat
 rw[List.getElem?_map,List.getElem?_eq_getElem h,List.getD_eq_getElem?_getD,List.getElem?_eq_getElem h];rfl
theorem bytesV_app {l m:List UInt8}:bytesV (l++m)=bytesV l++bytesV m:=by unfold bytesV;rw[List.map_append]
@[simp] theorem bytesV_nil :bytesV []=[]:=rfl
theorem bytesV_all (l:List UInt8):(bytesV l).all one=true:=by unfold bytesV;simp[one]
def b8 (n:Int):UInt8:=UInt8.ofNat n.toNat
theorem b8_val {n:Int}(h:0≤n∧n<256):((b8 n).toNat:Int)=n:=by
 unfold b8;rw[UInt8.toNat_ofNat'];omega
theorem bytesV_one {n:Int}(h:0≤n∧n<256):bytesV [b8 n]=[.int .u8 n]:=by
 show [Value.int .u8 ((b8 n).toNat:Int)]=_;rw[b8_val h]
theorem bytesV_snoc {l:List UInt8}{n:Int}(h:0≤n∧n<256):bytesV l++[.int .u8 n]=bytesV (l++[b8 n]):=by rw[bytesV_app,bytesV_one h]
theorem setAt_bytes {l:List UInt8}{i n:Int}(hi:0≤i∧i<l.length)(h:0≤n∧n<256):SetAt (bytesV l) (0+i.toNat*1) (.int .u8 n) (bytesV (l.set i.toNat (b8 n))):=by
 have e:(.int .u8 n:Value)=.int .u8 ((b8 n).toNat:Int):=by rw[b8_val h]
 have hlt:i.toNat<l.length:=by omega
 rw[e]
 exact setAt_map (f:=fun c:UInt8=>Value.int .u8 (c.toNat:Int)) (x:=b8 n) hlt

section
variable {P:Program} {tt:TT} {a:AF} {h h1:SH} {fn:Func} {R:Value→SH→Prop} {vs:List Value}
theorem res_cell {A n b T:Nat}{cs:List Value}{ro:Bool}{e:TE}{r:List ResultVar}{us:List Value}(ht:tt.Ok P)(hb:get a b=some (gptr A 0 n))(hT:tt.get T=some e)(hk:e.k.agg=true)(hp:Pick h A ⟨cs,ro⟩ h1)(hn:cs.length=n)(hs:cs.length=e.sz)(hr:ResS P a h r us) :
  ResS P a h (.cell b T::r) (.agg ⟨cs⟩::us):=by
 refine⟨⟨A,0,n,⟨cs,ro⟩,h1,hb,hp,hn,.inl ?_⟩,hr⟩
 obtain⟨z,hI,_⟩:=te_inf (TT.get_ok ht hT)
 refine⟨z,_,_,by rw[te_agg (TT.get_ok ht hT),hk],hI,by simp[hs],?_⟩
 rw[List.drop_zero,←hs]
 congr 1
 simp
end
section
variable {P:Program} {sz:Nat} {ops:Array Oper} {Q:SPost} {rest:List Oper} {a:AF} {h:SH} {m:Mode} {t j d:Nat} {op:Op} {ty:TypeId} {pos:String} {aft:Array Edge}
theorem w_meet {S:Type}{c y:Code}{Q':SPost}(A:S→AF)(G:S→SH)(I:S→Prop)
  (k1:SWp P sz c (thenS (fun a' h'=>∃s,I s∧Sub (A s) a'∧Take h' (G s)) Q') a h) (k2:∀s,I s→SWp P sz y Q (A s) (G s)):SWp P sz c (thenS (fun a h=>SWp P sz y Q a h) Q') a h :=
 w_cut A G I k1 fun s hs _ _ h1 h2=>(k2 s hs).take h1 h2
theorem w_ifN {c:Operand}{x y:Code}{q:Prop}{_:Decidable ((¬q))}(hc:ev a c=some (.bool (decide (¬q))))(h1:¬q→SWp P sz x Q a h)(h2:q→SWp P sz y Q a h):SWp P sz (.cond c x y) Q a h :=
 w_if hc h1 (fun hn=>h2 (Classical.not_not.1 hn))
theorem o_guardTN {q:Prop}{_:Decidable (¬q)}(hd:(ops[j]?).bind (·.dst)=some d)(hb:get a d=some (.bool (decide (¬q))))(hN:Nat.blt t sz=true)
  (h1:¬q→GO m P sz ops Q (⟨some t,op,ty,pos,aft,none⟩::rest) ((d,.bool true)::a) h) (h2:q→GO m.next P sz ops Q rest ((t,undef)::(d,.bool false)::a) h) :
  GO m P sz ops Q (⟨some t,op,ty,pos,aft,some (j,true)⟩::rest) a h:=o_guardT hd hb hN h1 (fun hn=>h2 (Classical.not_not.1 hn))
theorem o_guardFN {q:Prop}{_:Decidable (¬q)}(hd:(ops[j]?).bind (·.dst)=some d)(hb:get a d=some (.bool (decide (¬q))))(hN:Nat.blt t sz=true)
  (h1:q→GO m P sz ops Q (⟨some t,op,ty,pos,aft,none⟩::rest) ((d,.bool false)::a) h) (h2:¬q→GO m.next P sz ops Q rest ((t,undef)::(d,.bool true)::a) h) :
  GO m P sz ops Q (⟨some t,op,ty,pos,aft,some (j,false)⟩::rest) a h:=o_guardF hd hb hN (fun hn=>h1 (Classical.not_not.1 hn)) h2
theorem o_gT {p:Prop}{_:Decidable (p)}{want:Bool}(hd:(ops[j]?).bind (·.dst)=some d)(hb:get a d=some (.bool (decide p)))(hw:want=true)(hp:p)
  (k:GO m P sz ops Q (⟨some t,op,ty,pos,aft,none⟩::rest) ((d,.bool true)::a) h):GO m P sz ops Q (⟨some t,op,ty,pos,aft,some (j,want)⟩::rest) a h:=by
 subst hw
 rw[decide_eq_true hp]at hb
 exact o_again hb (zU hd (by unfold get;rw[show Nat.beq d d=true from Nat.beq_refl d];rfl) k)
theorem o_gF {p:Prop}{_:Decidable (p)}{want:Bool}(hd:(ops[j]?).bind (·.dst)=some d)(hb:get a d=some (.bool (decide p)))(hw:want=false)(hp:¬p)
  (k:GO m P sz ops Q (⟨some t,op,ty,pos,aft,none⟩::rest) ((d,.bool false)::a) h):GO m P sz ops Q (⟨some t,op,ty,pos,aft,some (j,want)⟩::rest) a h:=by
 subst hw
 rw[decide_eq_false hp]at hb
 exact o_again hb (zU hd (by unfold get;rw[show Nat.beq d d=true from Nat.beq_refl d];rfl) k)
theorem o_sF {p:Prop}{_:Decidable (p)}{want:Bool}(hd:(ops[j]?).bind (·.dst)=some d)(hb:get a d=some (.bool (decide p)))(hw:want=true)(hp:¬p)(hN:Nat.blt t sz=true)
  (k:GO m.next P sz ops Q rest ((t,undef)::(d,.bool false)::a) h):GO m P sz ops Q (⟨some t,op,ty,pos,aft,some (j,want)⟩::rest) a h:=by
 subst hw
 rw[decide_eq_false hp]at hb
 exact o_again hb (yF hd (by unfold get;rw[show Nat.beq d d=true from Nat.beq_refl d];rfl) rfl hN k)
theorem o_sT {p:Prop}{_:Decidable (p)}{want:Bool}(hd:(ops[j]?).bind (·.dst)=some d)(hb:get a d=some (.bool (decide p)))(hw:want=false)(hp:p)(hN:Nat.blt t sz=true)
  (k:GO m.next P sz ops Q rest ((t,undef)::(d,.bool true)::a) h):GO m P sz ops Q (⟨some t,op,ty,pos,aft,some (j,want)⟩::rest) a h:=by
 subst hw
 rw[decide_eq_true hp]at hb
 exact o_again hb (yF hd (by unfold get;rw[show Nat.beq d d=true from Nat.beq_refl d];rfl) rfl hN k)
end
section
variable {P:Program} {f:FuncId} {fn:Func} {c:Code} {h:SH} {R:Value→SH→Prop} {x0 x1 x2 x3 x4 x5 x6 x7 x8 x9:Value}
theorem w_body0 (hf:P.funcs[f]?=some fn)(hb:fn.body=some c)(hN:Nat.ble 0 fn.ntmps=true)(k:SWp P fn.ntmps c (bodyS P fn R) [] h):SRun P f [] h R:=w_body hf hb hN k
theorem zR (hf:P.funcs[f]?=some fn)(hb:fn.body=some c)(hN:Nat.ble 1 fn.ntmps=true)(k:SWp P fn.ntmps c (bodyS P fn R) [(0,x0)] h):SRun P f [x0] h R:=w_body hf hb hN k
theorem zY (hf:P.funcs[f]?=some fn)(hb:fn.body=some c)(hN:Nat.ble 2 fn.ntmps=true)(k:SWp P fn.ntmps c (bodyS P fn R) [(0,x0),(1,x1)] h):SRun P f [x0,x1] h R:=w_body hf hb hN k
theorem w_body3 (hf:P.funcs[f]?=some fn)(hb:fn.body=some c)(hN:Nat.ble 3 fn.ntmps=true)(k:SWp P fn.ntmps c (bodyS P fn R) [(0,x0),(1,x1),(2,x2)] h):SRun P f [x0,x1,x2] h R:=w_body hf hb hN k
theorem w_body4 (hf:P.funcs[f]?=some fn)(hb:fn.body=some c)(hN:Nat.ble 4 fn.ntmps=true)(k:SWp P fn.ntmps c (bodyS P fn R) [(0,x0),(1,x1),(2,x2),(3,x3)] h):SRun P f [x0,x1,x2,x3] h R:=w_body hf hb hN k
theorem w_body5 (hf:P.funcs[f]?=some fn)(hb:fn.body=some c)(hN:Nat.ble 5 fn.ntmps=true)(k:SWp P fn.ntmps c (bodyS P fn R) [(0,x0),(1,x1),(2,x2),(3,x3),(4,x4)] h):SRun P f [x0,x1,x2,x3,x4] h R:=w_body hf hb hN k
theorem w_body6 (hf:P.funcs[f]?=some fn)(hb:fn.body=some c)(hN:Nat.ble 6 fn.ntmps=true)(k:SWp P fn.ntmps c (bodyS P fn R) [(0,x0),(1,x1),(2,x2),(3,x3),(4,x4),(5,x5)] h):SRun P f [x0,x1,x2,x3,x4,x5] h R:=w_body hf hb hN k
theorem w_body7 (hf:P.funcs[f]?=some fn)(hb:fn.body=some c)(hN:Nat.ble 7 fn.ntmps=true)(k:SWp P fn.ntmps c (bodyS P fn R) [(0,x0),(1,x1),(2,x2),(3,x3),(4,x4),(5,x5),(6,x6)] h):SRun P f [x0,x1,x2,x3,x4,x5,x6] h R:=w_body hf hb hN k
end
theorem Pick.comm {h h1 h2:SH}{A B:Nat}{a b:Blk}(p:Pick h A a h1)(q:Pick h1 B b h2):∃h3,Pick h B b h3∧Pick h3 A a h2:=by
 induction p generalizing h2 with
 |head=>exact⟨_,.tail q,.head⟩
 |tail p ih =>
  cases q with
  |head=>exact⟨_,.head,p⟩
  |tail q=>obtain⟨h3,g1,g2⟩:=ih q;exact⟨_,.tail g1,.tail g2⟩
theorem Take.pick {h h1 h1':SH}{A:Nat}{b:Blk}(t:Take h h1)(p:Pick h1 A b h1'):∃h',Pick h A b h'∧Take h' h1':=by
 induction t generalizing h1' with
 |nil=>exact⟨_,p,.nil⟩
 |cons pk t ih =>
  cases p with
  |head=>exact⟨_,pk,t⟩
  |tail p=>obtain⟨h2,g1,g2⟩:=ih p;obtain⟨h3,g3,g4⟩:=pk.comm g1;exact⟨h3,g3,.cons g4 g2⟩
 |consE pk e t ih =>
  subst e
  cases p with
  |head=>exact⟨_,pk,t⟩
  |tail p=>obtain⟨h2,g1,g2⟩:=ih p;obtain⟨h3,g3,g4⟩:=pk.comm g1;exact⟨h3,g3,.cons g4 g2⟩
 |drop t ih=>obtain⟨h2,g1,g2⟩:=ih p;exact⟨_,.tail g1,.drop g2⟩
theorem Take.part {h h' r:SH}{A:Nat}{b:Blk}(p:Pick h A b h')(t:Take h' r):Take h r:=by
 induction t generalizing h with
 |@nil h' =>
  induction p with
  |head=>exact .drop .nil
  |@tail A b x h h1 p ih=>obtain⟨B,c⟩:=x;exact .cons .head ih
 |cons q _ ih=>obtain⟨h3,g1,g2⟩:=p.comm q;exact .cons g1 (ih g2)
 |consE q e _ ih=>obtain⟨h3,g1,g2⟩:=p.comm q;exact .consE g1 e (ih g2)
 |@drop x h1 r t ih =>
  cases p with
  |head=>exact .drop (.drop t)
  |tail p=>exact .drop (ih p)
theorem Take.trans {h h1 h2:SH}(t:Take h h1)(u:Take h1 h2):Take h h2:=by
 induction u generalizing h with
 |nil=>exact t
 |cons p _ ih=>obtain⟨h',g1,g2⟩:=t.pick p;exact .cons g1 (ih g2)
 |consE p e _ ih=>obtain⟨h',g1,g2⟩:=t.pick p;exact .consE g1 e (ih g2)
 |@drop x h1 r u ih =>
  obtain⟨A,b⟩:=x
  obtain⟨h',g1,g2⟩:=t.pick .head
  exact Take.part g1 (ih g2)
theorem SRun.take {P:Program}{f:FuncId}{as0:List Value}{p p':SH}{R:Value→SH→Prop}(t:Take p p')(k:SRun P f as0 p' R):SRun P f as0 p R:=by
 unfold SRun at k ⊢
 intro H i
 exact(k H (i.le t.le).refl).mono fun r H' ⟨q,g1,g2⟩=>⟨q,g1,(i.le t.le).comp g2⟩
theorem drop_bang {α:Type}[Inhabited α]{l:List α}{k:Nat}(h:k<l.length):l.drop k=l[k]!::l.drop (k+1):=by
 rw[List.drop_eq_getElem_cons h,getElem!_pos l k h]
def Has (h:SH)(c:List Value)(w n:Nat)(v:Value):Prop:=∃ad fl,v=.slice ad n fl∧(n≠0→∃A ro h1,ad=some ⟨A,0,some (w*n)⟩∧Pick h A ⟨c,ro⟩ h1)
theorem pick_lock {h h1:SH}{A:Nat}{b:Blk}(p:Pick h A b h1):Pick (lockS h) A b.lock (lockS h1):=by
 induction p with
 |head=>exact .head
 |tail _ ih=>exact .tail ih
theorem yL {h h1:SH}(t:Take h h1):Take (lockS h) (lockS h1):=by
 induction t with
 |nil=>exact .nil
 |cons p _ ih=>exact .cons (pick_lock p) ih
 |consE p e _ ih=>subst e;exact .cons (pick_lock p) ih
 |drop _ ih=>exact .drop ih
theorem Has.lock {h:SH}{c:List Value}{w n:Nat}{v:Value}(k:Has h c w n v):Has (lockS h) c w n v:=by
 obtain⟨ad,fl,e,k⟩:=k
 refine⟨ad,fl,e,fun hn=>?_⟩
 obtain⟨A,ro,h1,e2,p⟩:=k hn
 exact⟨A,_,_,e2,pick_lock p⟩
theorem Has.re {h h':SH}{c:List Value}{w n:Nat}{v:Value}(k:Has h c w n v)(t:Take h' h):Has h' c w n v:=by
 obtain⟨ad,fl,e,k⟩:=k
 refine⟨ad,fl,e,fun hn=>?_⟩
 obtain⟨A,ro,h1,e2,p⟩:=k hn
 obtain⟨h2,g,_⟩:=t.pick p
 exact⟨A,ro,h2,e2,g⟩
theorem blkE {c c':List Value}{ro:Bool}(h:c=c'):(⟨c,ro⟩:Blk)=⟨c',ro⟩:=by rw[h]
theorem gslE {A A' o o' n n' l l' f f':Nat}(h1:A=A')(h2:o=o')(h3:n=n')(h4:l=l')(h5:f=f'):gsl A o n l f=gsl A' o' n' l' f':=by subst h1 h2 h3 h4 h5;rfl
end Go.Gh
end
