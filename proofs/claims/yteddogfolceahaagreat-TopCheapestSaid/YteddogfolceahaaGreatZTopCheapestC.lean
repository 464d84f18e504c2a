/- Part 3 of the proof of the law TopCheapest: texts merged. No condition. -/
import Derived.Test.YteddogfolceahaaGreatZTopCheapestB
set_option linter.unusedSimpArgs false
set_option linter.unusedVariables false
section
set_option maxRecDepth 4000
namespace Go.Gh
open Go.RowKit

inductive TK |bool|int (k:IntKind)|str|slice (E:Nat)|ptr (E:Nat)|arr (n E:Nat)|st (fs:List (Nat × Nat))|other
structure TE where
 k:TK
 sz:Nat
 by':Nat
 z:Option Value
inductive TT |leaf|node (l:TT) (t:Nat) (e:TE) (r:TT)
def TT.get :TT→Nat→Option TE
 |.leaf,_=>none
 |.node l t e r,n=>bif Nat.blt n t then l.get n else bif Nat.beq n t then some e else r.get n
def tkOf :TypeDesc→TK
 |.bool=>.bool
 |.int k=>.int k
 |.string=>.str
 |.slice E=>.slice E
 |.pointer E=>.ptr E
 |.array n E=>.arr n E
 |.struct fs=>.st (fs.toList.map fun f=>(f.type,f.offset))
 |_=>.other
def zO (P:Program)(t:Nat):Option TE:=match P.underlying t,P.info? t with
 |some d,some i=>some ⟨tkOf d,i.size,i.bytes,bif Nat.ble i.size 300 then i.zero else none⟩
 |_,_=>none
def TT.Ok (P:Program):TT→Prop
 |.leaf=>True
 |.node l t e r=>l.Ok P∧zO P t=some e∧r.Ok P
theorem TT.get_ok {P:Program}:∀{tt:TT} {t:Nat} {e:TE},tt.Ok P→tt.get t=some e→zO P t=some e
 |.leaf,_,_,_,h=>by cases h
 |.node l s e' r,t,e,k,h=>by
  unfold TT.get at h
  cases hb:Nat.blt t s with
  |true=>rw[hb]at h;exact TT.get_ok k.1 h
  |false =>
   rw[hb]at h
   cases hc:Nat.beq t s with
   |true =>
    rw[hc]at h
    simp only[cond_false,cond_true,Option.some.injEq]at h
    rw[Nat.eq_of_beq_eq_true hc,←h];exact k.2.1
   |false=>rw[hc]at h;exact TT.get_ok k.2.2 h
section
variable {P:Program} {t:Nat} {e:TE}
theorem te_desc (h:zO P t=some e):∃d,P.underlying t=some d∧tkOf d=e.k:=by
 unfold zO at h
 split at h
 ·rename_i d i h1 h2;simp only[Option.some.injEq]at h;subst h;exact⟨d,h1,rfl⟩
 ·cases h
theorem te_inf (h:zO P t=some e):∃z,tinf P t=some (z,e.sz,e.by')∧(∀v,e.z=some v→z=some v):=by
 unfold zO at h
 split at h
 ·rename_i d i h1 h2
  simp only[Option.some.injEq]at h;subst h
  refine⟨i.zero,by simp[tinf,h2],fun v hv=>?_⟩
  simp only at hv
  cases hb:Nat.ble i.size 300 with
  |true=>rw[hb]at hv;exact hv
  |false=>rw[hb]at hv;cases hv
 ·cases h
theorem te_bool (h:zO P t=some e)(hk:e.k=.bool):P.underlying t=some .bool:=by
 obtain⟨d,h1,h2⟩:=te_desc h;rw[hk]at h2;cases d <;> first|(cases h2;done)|exact h1
theorem te_int {k:IntKind}(h:zO P t=some e)(hk:e.k=.int k):P.underlying t=some (.int k):=by
 obtain⟨d,h1,h2⟩:=te_desc h;rw[hk]at h2;cases d <;> first|(cases h2;done)|(cases h2;exact h1)
theorem te_str (h:zO P t=some e)(hk:e.k=.str):P.underlying t=some .string:=by
 obtain⟨d,h1,h2⟩:=te_desc h;rw[hk]at h2;cases d <;> first|(cases h2;done)|exact h1
theorem te_slice {E:Nat}(h:zO P t=some e)(hk:e.k=.slice E):P.underlying t=some (.slice E):=by
 obtain⟨d,h1,h2⟩:=te_desc h;rw[hk]at h2;cases d <;> first|(cases h2;done)|(cases h2;exact h1)
theorem te_ptr {E:Nat}(h:zO P t=some e)(hk:e.k=.ptr E):P.underlying t=some (.pointer E):=by
 obtain⟨d,h1,h2⟩:=te_desc h;rw[hk]at h2;cases d <;> first|(cases h2;done)|(cases h2;exact h1)
theorem te_arr {n E:Nat}(h:zO P t=some e)(hk:e.k=.arr n E):P.underlying t=some (.array n E):=by
 obtain⟨d,h1,h2⟩:=te_desc h;rw[hk]at h2;cases d <;> first|(cases h2;done)|(cases h2;exact h1)
theorem te_st {fs:List (Nat × Nat)}(h:zO P t=some e)(hk:e.k=.st fs):∃fl:Array Field,P.underlying t=some (.struct fl)∧fl.toList.map (fun f=>(f.type,f.offset))=fs:=by
 obtain⟨d,h1,h2⟩:=te_desc h;rw[hk]at h2;cases d <;> first|(cases h2;done)|(rename_i fl;refine⟨fl,h1,?_⟩;simp only[tkOf]at h2;exact TK.st.inj h2)
theorem te_field {fs:List (Nat × Nat)}{f F fo:Nat}(h:zO P t=some e)(hk:e.k=.st fs)(hf:fs[f]?=some (F,fo)):fieldOf P t f=some (F,fo):=by
 obtain⟨fl,h1,h2⟩:=te_st h hk
 unfold fieldOf
 rw[h1]
 simp only
 rw[←h2,List.getElem?_map,Array.getElem?_toList]at hf
 exact hf
def TK.agg :TK→Bool
 |.st _|.arr _ _=>true
 |_=>false
theorem te_agg (h:zO P t=some e):aggT P t=some e.k.agg:=by
 obtain⟨d,h1,h2⟩:=te_desc h
 unfold aggT
 rw[h1,←h2]
 cases d <;> rfl
end

def ikn :IntKind→Nat
 |.i8=>0|.i16=>1|.i32=>2|.i64=>3|.u8=>4|.u16=>5|.u32=>6|.u64=>7
def ikb (k k':IntKind):Bool:=Nat.beq (ikn k) (ikn k')
theorem ikb_eq {k k':IntKind}(h:ikb k k'=true):k=k':=by
 cases k <;> cases k' <;> first|rfl|(cases h)

abbrev PV :=Option (Prop × Value)
def pv (v:Value):PV:=some (True,v)
def gbin (tt:TT)(T:Nat)(op:BinOp):Value→Value→PV
 |.int k m,.int k' n=>bif ikb k k' then(match op with
  |.lss=>pv (.bool (decide (m<n)))|.leq=>pv (.bool (decide (m≤n)))|.gtr=>pv (.bool (decide (n<m)))|.geq=>pv (.bool (decide (n≤m)))
  |.eql=>pv (.bool (decide (m=n)))|.neq=>pv (.bool (decide (m≠n)))|_=>none)else none
 |.string ⟨⟨l⟩⟩,.string ⟨⟨m⟩⟩=>match op with
  |.add=>some (l.length+m.length≤9223372036854775807,S (l++m))|.eql=>pv (.bool (decide (l=m)))|.neq=>pv (.bool (decide (l≠m)))
  |.lss=>pv (.bool (Op.bytesLess l m))|.gtr=>pv (.bool (!(Op.bytesLess l m || (l == m))))|_=>none
 |.bool m,.bool n=>match tt.get T with
  |some ⟨.bool,_,_,_⟩=>(match op with|.eql=>pv (.bool (decide (m=n)))|.neq=>pv (.bool (decide (m≠n)))|_=>none)
  |_=>none
 |.pointer ad,.pointer none=>match tt.get T with
  |some ⟨.ptr _,_,_,_⟩=>(match op with|.eql=>pv (.bool ad.isNone)|.neq=>pv (.bool ad.isSome)|_=>none)
  |_=>none
 |_,_=>none
def glen (tt:TT)(T:Nat):Value→PV
 |.string ⟨⟨l⟩⟩=>(match tt.get T with|some ⟨.str,_,_,_⟩=>pv (I l.length)|_=>none)
 |.slice _ n _=>(match tt.get T with|some ⟨.slice _,_,_,_⟩=>pv (I n)|_=>none)
 |_=>none
def gslc (tt:TT)(T:Nat):Value→Option Value→Option Value→PV
 |.string ⟨⟨l⟩⟩,some (.int _ i),some (.int _ n)=>(match tt.get T with|some ⟨.str,_,_,_⟩=>some (0≤i∧i≤n∧n≤l.length,S ((l.take n.toNat).drop i.toNat))|_=>none)
 |.string ⟨⟨l⟩⟩,some (.int _ i),none=>(match tt.get T with|some ⟨.str,_,_,_⟩=>some (0≤i∧i≤l.length,S (l.drop i.toNat))|_=>none)
 |.string ⟨⟨l⟩⟩,none,some (.int _ n)=>(match tt.get T with|some ⟨.str,_,_,_⟩=>some (0≤n∧n≤l.length,S (l.take n.toNat))|_=>none)
 |.slice (some ⟨A,off,some n⟩) len _,some (.int _ i),some (.int _ h)=>(match tt.get T with
  |some ⟨.slice E,_,_,_⟩=>(match tt.get E with|some ⟨_,s,_,_⟩=>some ((0≤i∧i≤h∧h≤len)∧(i<h∨i=0),gsl A (off+i.toNat*s) n (h-i).toNat 0)|none=>none)|_=>none)
 |.slice (some ⟨A,off,some n⟩) len _,some (.int _ i),none=>(match tt.get T with
  |some ⟨.slice E,_,_,_⟩=>(match tt.get E with|some ⟨_,s,_,_⟩=>some ((0≤i∧i≤len)∧(i<len∨i=0),gsl A (off+i.toNat*s) n (len-i.toNat) 0)|none=>none)|_=>none)
 |.slice (some ⟨A,off,some n⟩) len _,none,some (.int _ h)=>(match tt.get T with
  |some ⟨.slice E,_,_,_⟩=>(match tt.get E with|some _=>some (0≤h∧h≤len,gsl A off n h.toNat 0)|none=>none)|_=>none)
 |.pointer (some ⟨A,off,some n⟩),none,none=>(match tt.get T with
  |some ⟨.arr len E,_,_,_⟩=>(match tt.get E with|some _=>some (len≤maxLen,gsl A off n len 0)|none=>none)|_=>none)
 |.pointer (some ⟨A,off,some n⟩),none,some (.int _ h)=>(match tt.get T with
  |some ⟨.arr len E,_,_,_⟩=>(match tt.get E with|some _=>some ((0≤h∧h≤len)∧len≤maxLen,gsl A off n h.toNat 0)|none=>none)|_=>none)
 |_,_,_=>none
def gidx (tt:TT)(T:Nat):Value→Value→PV
 |.string ⟨⟨l⟩⟩,.int _ i=>(match tt.get T with|some ⟨.str,_,_,_⟩=>some (0≤i∧i<l.length,.int .u8 (bat l i))|_=>none)
 |.agg ⟨vs⟩,.int _ i=>(match tt.get T with
  |some ⟨.arr len E,_,_,_⟩=>(match tt.get E with
   |some ⟨k,1,_,_⟩=>(match k.agg,Nat.ble len vs.length with|false,true=>some (0≤i∧i<len,vs.getD i.toNat (.bool false))|_,_=>none)
   |_=>none)
  |_=>none)
 |_,_=>none
def gidxA (tt:TT)(T:Nat):Value→Value→PV
 |.slice (some ⟨A,off,some n⟩) len _,.int _ i=>(match tt.get T with
  |some ⟨.slice E,_,_,_⟩=>(match tt.get E with|some ⟨_,s,_,_⟩=>some (0≤i∧i<len,gptr A (off+i.toNat*s) n)|none=>none)|_=>none)
 |.pointer (some ⟨A,off,some n⟩),.int _ i=>(match tt.get T with
  |some ⟨.arr len E,_,_,_⟩=>(match tt.get E with|some ⟨_,s,_,_⟩=>some (0≤i∧i<len,gptr A (off+i.toNat*s) n)|none=>none)|_=>none)
 |_,_=>none
def gfldA (tt:TT)(T f:Nat):Value→PV
 |.pointer (some ⟨A,off,some n⟩)=>(match tt.get T with
  |some ⟨.st fs,_,_,_⟩=>(match fs[f]? with
   |some (F,fo)=>(match tt.get F with|some ⟨_,s+1,_,_⟩=>pv (gptr A (off+fo) n)|_=>none)
   |none=>none)
  |_=>none)
 |_=>none
def gfld (tt:TT)(T f:Nat):Value→PV
 |.agg ⟨vs⟩=>(match tt.get T with
  |some ⟨.st fs,_,_,_⟩=>(match fs[f]? with
   |some (F,fo)=>(match tt.get F with
    |some e=>(match e.k.agg with|false=>(match vs[fo]? with|some v=>pv v|none=>none)|true=>none)
    |none=>none)
   |none=>none)
  |_=>none)
 |_=>none
def gext (i:Nat):Value→PV
 |.tuple ⟨vs⟩=>(match vs[i]? with|some v=>pv v|none=>none)
 |_=>none
def gnil :Value→PV
 |.pointer (some ad)=>pv (.pointer (some ad))
 |.func (.func f) us vs=>pv (.func (.func f) us vs)
 |_=>none
def ob {α β:Type}:Option α→(α→Option β)→Option β
 |some v,f=>f v
 |none,_=>none
theorem ob_some {α β:Type}{x:Option α}{f:α→Option β}{y:β}(h:ob x f=some y):∃v,x=some v∧f v=some y:=by
 cases x with
 |none=>cases h
 |some v=>exact⟨v,rfl,h⟩
def oo (a:AF):Option Operand→Option (Option Value)
 |none=>some none
 |some x=>match ev a x with|some v=>some (some v)|none=>none

def gpure (tt:TT)(a:AF):Op→PV
 |.move x|.assign x=>(match ev a x with|some v=>pv v|none=>none)
 |.pick c x y=>(match ev a c with
  |some (.bool b)=>(match b with
   |true=>(match ev a x with|some v=>pv v|none=>none)
   |false=>(match ev a y with|some v=>pv v|none=>none))
  |_=>none)
 |.binOp op T x y _=>ob (ev a x) fun u=>ob (ev a y) fun v=>gbin tt T op u v
 |.index T x y=>ob (ev a x) fun u=>ob (ev a y) fun v=>gidx tt T u v
 |.indexAddr T x y=>ob (ev a x) fun u=>ob (ev a y) fun v=>gidxA tt T u v
 |.fieldAddr T x f=>ob (ev a x) fun u=>gfldA tt T f u
 |.field T x f=>ob (ev a x) fun u=>gfld tt T f u
 |.extract x i=>ob (ev a x) fun u=>gext i u
 |.nilCheck x=>ob (ev a x) fun u=>gnil u
 |.slice T x lo hi none=>ob (ev a x) fun u=>ob (oo a lo) fun l=>ob (oo a hi) fun h=>gslc tt T u l h
 |.call ⟨.builtin .len,⟨[x]⟩,⟨[T]⟩⟩=>ob (ev a x) fun u=>glen tt T u
 |_=>none
def gar2 (op:BinOp):Value→Value→Option (Prop × IntKind × Int)
 |.int k m,.int k' n=>(match op with
   |.add=>bif ikb k k' then some (True,k,m+n)else none
   |.sub=>bif ikb k k' then some (True,k,m-n)else none
   |.mul=>bif ikb k k' then some (True,k,m*n)else none
   |.quo=>bif ikb k k' then some (n≠0,k,m.tdiv n)else none
   |.and=>bif ikb k k' then some (True,k,((BitVec.ofInt k.bits m&&&BitVec.ofInt k.bits n).toNat:Int))else none
   |.or=>bif ikb k k' then some (True,k,((BitVec.ofInt k.bits m ||| BitVec.ofInt k.bits n).toNat:Int))else none
   |.xor=>bif ikb k k' then some (True,k,((BitVec.ofInt k.bits m^^^BitVec.ofInt k.bits n).toNat:Int))else none
   |.shl=>some (0≤n,k,m*2^(min n.toNat k.bits))
   |_=>none)
 |_,_=>none
def gcon (tt:TT)(T U:Nat):Value→Option (Prop × IntKind × Int)
 |.int _ n=>(match tt.get T,tt.get U with|some _,some ⟨.int k,_,_,_⟩=>some (True,k,n)|_,_=>none)
 |_=>none
def gneg :Value→Option (Prop × IntKind × Int)
 |.int k n=>some (True,k,0-n)
 |_=>none
def garith (tt:TT)(a:AF):Op→Option (Prop × IntKind × Int)
 |.binOp op _ x y _=>ob (ev a x) fun u=>ob (ev a y) fun v=>gar2 op u v
 |.unOp .neg _ x=>ob (ev a x) fun u=>gneg u
 |.convert T U x=>ob (ev a x) fun u=>gcon tt T U u
 |_=>none
def gex2 (op:BinOp):Value→Value→Option (Prop × IntKind × Int)
 |.int k m,.int k' n=>(match op with
   |.rem=>bif ikb k k' then some (n≠0,k,m.tmod n)else none
   |.shr=>some (0≤n,k,m/2^(min n.toNat k.bits))
   |_=>none)
 |_,_=>none
def gexact (a:AF):Op→Option (Prop × IntKind × Int)
 |.binOp op _ x y _=>ob (ev a x) fun u=>ob (ev a y) fun v=>gex2 op u v
 |_=>none

section
variable {P:Program} {tt:TT} {N:Fr} {a:AF} {H:Heap} {t:Nat} {op:Op} {ty:TypeId} {pos:String} {aft:Array Edge} {p:Prop} {v:Value}

theorem pv_some {u v:Value}{p:Prop}(h:pv u=some (p,v)):v=u:=by simp only[pv,Option.some.injEq,Prod.mk.injEq]at h;exact h.2.symm

theorem gbin_ok (ht:tt.Ok P){o:BinOp}{T U:Nat}{x y:Operand}{u w:Value}(hx:ev a x=some u)(hy:ev a y=some w)(h:gbin tt T o u w=some (p,v))(hp:p) :
  APure P N ⟨some t,.binOp o T x y U,ty,pos,aft,none⟩ a H v:=by
 unfold gbin at h
 split at h
 ·rename_i k m k' n
  cases hk:ikb k k' with
  |false=>rw[hk]at h;cases h
  |true =>
   rw[hk]at h
   obtain rfl:=ikb_eq hk
   simp only[cond_true]at h
   cases o <;> simp only[reduceCtorEq]at h <;> obtain rfl:=pv_some h
   ·exact a_eql T U x y rfl hx hy
   ·exact a_neq T U x y rfl hx hy
   ·exact a_lss T U x y rfl hx hy
   ·exact a_leq T U x y rfl hx hy
   ·exact a_gtr T U x y rfl hx hy
   ·exact a_geq T U x y rfl hx hy
 ·cases o <;> simp only[reduceCtorEq]at h
  ·simp only[Option.some.injEq,Prod.mk.injEq]at h
   obtain⟨rfl,rfl⟩:=h
   exact a_sadd T U x y rfl hx hy hp
  ·obtain rfl:=pv_some h;exact a_seql T U x y rfl hx hy
  ·obtain rfl:=pv_some h;exact a_sneq T U x y rfl hx hy
  ·obtain rfl:=pv_some h;exact a_slss T U x y rfl hx hy
  ·obtain rfl:=pv_some h;exact a_sgtr T U x y rfl hx hy
 ·split at h
  ·rename_i h1
   have hb:=te_bool (TT.get_ok ht h1) rfl
   cases o <;> simp only[reduceCtorEq]at h <;> obtain rfl:=pv_some h
   ·exact a_beql T U x y rfl hx hy hb
   ·exact a_bneq T U x y rfl hx hy hb
  ·cases h
 ·split at h
  ·rename_i h1
   have hb:=te_ptr (TT.get_ok ht h1) rfl
   cases o <;> simp only[reduceCtorEq]at h <;> obtain rfl:=pv_some h
   ·exact a_pnil T U x y rfl hx hy hb
   ·exact a_pnotnil T U x y rfl hx hy hb
  ·cases h
 ·cases h

theorem oo_none {a:AF}{lo:Option Operand}(h:oo a lo=some none):lo=none:=by
 cases lo with
 |none=>rfl
 |some x=>simp only[oo]at h;split at h <;> cases h
theorem oo_some {a:AF}{lo:Option Operand}{v:Value}(h:oo a lo=some (some v)):∃x,lo=some x∧ev a x=some v:=by
 cases lo with
 |none=>cases h
 |some x =>
  simp only[oo]at h
  split at h
  ·rename_i u hu;simp only[Option.some.injEq]at h;exact⟨x,rfl,by rw[hu,h]⟩
  ·cases h

theorem gslc_ok (ht:tt.Ok P){T:Nat}{x:Operand}{lo hi:Option Operand}{u:Value}{ol oh:Option Value}(hx:ev a x=some u)(hl:oo a lo=some ol)(hh:oo a hi=some oh)(h:gslc tt T u ol oh=some (p,v))(hp:p) :
  APure P N ⟨some t,.slice T x lo hi none,ty,pos,aft,none⟩ a H v:=by
 unfold gslc at h
 split at h
 ·obtain⟨xl,rfl,e1⟩:=oo_some hl
  obtain⟨xh,rfl,e2⟩:=oo_some hh
  split at h
  ·rename_i h1
   simp only[Option.some.injEq,Prod.mk.injEq]at h;obtain⟨rfl,rfl⟩:=h
   exact a_sslice T x xl xh rfl hx e1 e2 (te_str (TT.get_ok ht h1) rfl) hp
  ·cases h
 ·obtain⟨xl,rfl,e1⟩:=oo_some hl
  obtain rfl:=oo_none hh
  split at h
  ·rename_i h1
   simp only[Option.some.injEq,Prod.mk.injEq]at h;obtain⟨rfl,rfl⟩:=h
   exact a_sfrom T x xl rfl hx e1 (te_str (TT.get_ok ht h1) rfl) hp
  ·cases h
 ·obtain rfl:=oo_none hl
  obtain⟨xh,rfl,e2⟩:=oo_some hh
  split at h
  ·rename_i h1
   simp only[Option.some.injEq,Prod.mk.injEq]at h;obtain⟨rfl,rfl⟩:=h
   exact a_sto T x xh rfl hx e2 (te_str (TT.get_ok ht h1) rfl) hp
  ·cases h
 ·obtain⟨xl,rfl,e1⟩:=oo_some hl
  obtain⟨xh,rfl,e2⟩:=oo_some hh
  split at h
  ·rename_i h1
   split at h
   ·rename_i h2
    simp only[Option.some.injEq,Prod.mk.injEq]at h;obtain⟨rfl,rfl⟩:=h
    obtain⟨z,hI,_⟩:=te_inf (TT.get_ok ht h2)
    exact a_cut T x xl xh rfl hx e1 e2 (te_slice (TT.get_ok ht h1) rfl) hI hp.1 hp.2
   ·cases h
  ·cases h
 ·obtain⟨xl,rfl,e1⟩:=oo_some hl
  obtain rfl:=oo_none hh
  split at h
  ·rename_i h1
   split at h
   ·rename_i h2
    simp only[Option.some.injEq,Prod.mk.injEq]at h;obtain⟨rfl,rfl⟩:=h
    obtain⟨z,hI,_⟩:=te_inf (TT.get_ok ht h2)
    exact a_cutfrom T x xl rfl hx e1 (te_slice (TT.get_ok ht h1) rfl) hI hp.1 hp.2
   ·cases h
  ·cases h
 ·obtain rfl:=oo_none hl
  obtain⟨xh,rfl,e2⟩:=oo_some hh
  split at h
  ·rename_i h1
   split at h
   ·rename_i h2
    simp only[Option.some.injEq,Prod.mk.injEq]at h;obtain⟨rfl,rfl⟩:=h
    obtain⟨z,hI,_⟩:=te_inf (TT.get_ok ht h2)
    exact a_cutto T x xh rfl hx e2 (te_slice (TT.get_ok ht h1) rfl) hI hp
   ·cases h
  ·cases h
 ·obtain rfl:=oo_none hl
  obtain rfl:=oo_none hh
  split at h
  ·rename_i h1
   split at h
   ·rename_i h2
    simp only[Option.some.injEq,Prod.mk.injEq]at h;obtain⟨rfl,rfl⟩:=h
    obtain⟨z,hI,_⟩:=te_inf (TT.get_ok ht h2)
    exact a_arrall T x rfl hx (te_arr (TT.get_ok ht h1) rfl) hI hp
   ·cases h
  ·cases h
 ·obtain rfl:=oo_none hl
  obtain⟨xh,rfl,e2⟩:=oo_some hh
  split at h
  ·rename_i h1
   split at h
   ·rename_i h2
    simp only[Option.some.injEq,Prod.mk.injEq]at h;obtain⟨rfl,rfl⟩:=h
    obtain⟨z,hI,_⟩:=te_inf (TT.get_ok ht h2)
    exact a_arrto T x xh rfl hx e2 (te_arr (TT.get_ok ht h1) rfl) hI hp.1 hp.2
   ·cases h
  ·cases h
 ·cases h

theorem gpure_ok (ht:tt.Ok P)(h:gpure tt a op=some (p,v))(hp:p):APure P N ⟨some t,op,ty,pos,aft,none⟩ a H v:=by
 unfold gpure at h
 split at h
 ·split at h
  ·rename_i hx;obtain rfl:=pv_some h;exact a_move _ rfl hx
  ·cases h
 ·split at h
  ·rename_i hx;obtain rfl:=pv_some h;exact a_assign _ rfl hx
  ·cases h
 ·rename_i c x y
  split at h
  ·rename_i hc
   split at h
   ·split at h
    ·rename_i hx;obtain rfl:=pv_some h;exact a_pick_true c x y rfl hc rfl hx
    ·cases h
   ·split at h
    ·rename_i hx;obtain rfl:=pv_some h;exact a_pick_false c x y rfl hc rfl hx
    ·cases h
  ·cases h
 ·obtain⟨u,hx,h⟩:=ob_some h
  obtain⟨w,hy,h⟩:=ob_some h
  exact gbin_ok ht hx hy h hp
 ·obtain⟨u,hx,h⟩:=ob_some h
  obtain⟨w,hy,h⟩:=ob_some h
  unfold gidx at h
  split at h
  ·split at h
   ·rename_i h1
    simp only[Option.some.injEq,Prod.mk.injEq]at h;obtain⟨rfl,rfl⟩:=h
    exact a_sidx _ _ _ rfl hx hy (te_str (TT.get_ok ht h1) rfl) hp
   ·cases h
  ·split at h
   ·rename_i h1
    split at h
    ·rename_i h2
     split at h
     ·rename_i h3 h4
      simp only[Option.some.injEq,Prod.mk.injEq]at h;obtain⟨rfl,rfl⟩:=h
      obtain⟨z,hI,_⟩:=te_inf (TT.get_ok ht h2)
      have hlen:=Nat.le_of_ble_eq_true h4
      refine a_aindex _ _ _ rfl hx hy (te_arr (TT.get_ok ht h1) rfl) (by rw[te_agg (TT.get_ok ht h2)];exact congrArg some h3) hI hp ?_
      rw[List.getD_eq_getElem?_getD,List.getElem?_eq_getElem (by omega)];rfl
     ·cases h
    ·cases h
   ·cases h
  ·cases h
 ·obtain⟨u,hx,h⟩:=ob_some h
  obtain⟨w,hy,h⟩:=ob_some h
  unfold gidxA at h
  split at h
  ·split at h
   ·rename_i h1
    split at h
    ·rename_i h2
     simp only[Option.some.injEq,Prod.mk.injEq]at h;obtain⟨rfl,rfl⟩:=h
     obtain⟨z,hI,_⟩:=te_inf (TT.get_ok ht h2)
     exact a_idxAddr _ _ _ rfl hx hy (te_slice (TT.get_ok ht h1) rfl) hI hp
    ·cases h
   ·cases h
  ·split at h
   ·rename_i h1
    split at h
    ·rename_i h2
     simp only[Option.some.injEq,Prod.mk.injEq]at h;obtain⟨rfl,rfl⟩:=h
     obtain⟨z,hI,_⟩:=te_inf (TT.get_ok ht h2)
     exact a_aidxAddr _ _ _ rfl hx hy (te_arr (TT.get_ok ht h1) rfl) hI hp
    ·cases h
   ·cases h
  ·cases h
 ·obtain⟨u,hx,h⟩:=ob_some h
  unfold gfldA at h
  split at h
  ·split at h
   ·rename_i h1
    split at h
    ·rename_i h2
     split at h
     ·rename_i h3
      obtain rfl:=pv_some h
      obtain⟨z,hI,_⟩:=te_inf (TT.get_ok ht h3)
      exact a_fieldAddr _ _ _ rfl hx (te_field (TT.get_ok ht h1) rfl h2) hI (by simp)
     ·cases h
    ·cases h
   ·cases h
  ·cases h
 ·obtain⟨u,hx,h⟩:=ob_some h
  unfold gfld at h
  split at h
  ·split at h
   ·rename_i h1
    split at h
    ·rename_i h2
     split at h
     ·rename_i h3
      split at h
      ·rename_i h4
       split at h
       ·rename_i h5
        obtain rfl:=pv_some h
        exact a_field _ _ _ rfl hx (te_field (TT.get_ok ht h1) rfl h2) (by rw[te_agg (TT.get_ok ht h3),h4]) h5
       ·cases h
      ·cases h
     ·cases h
    ·cases h
   ·cases h
  ·cases h
 ·obtain⟨u,hx,h⟩:=ob_some h
  unfold gext at h
  split at h
  ·split at h
   ·rename_i h1
    obtain rfl:=pv_some h
    exact a_extract _ _ rfl hx (by simpa using h1)
   ·cases h
  ·cases h
 ·obtain⟨u,hx,h⟩:=ob_some h
  unfold gnil at h
  split at h
  ·obtain rfl:=pv_some h;exact a_nilCheck _ rfl hx
  ·obtain rfl:=pv_some h;exact a_nilCheckF _ rfl hx
  ·cases h
 ·obtain⟨u,hx,h⟩:=ob_some h
  obtain⟨l,hl,h⟩:=ob_some h
  obtain⟨w,hw,h⟩:=ob_some h
  exact gslc_ok ht hx hl hw h hp
 ·obtain⟨u,hx,h⟩:=ob_some h
  unfold glen at h
  split at h
  ·split at h
   ·rename_i h1
    obtain rfl:=pv_some h;exact a_slen _ _ rfl hx (te_str (TT.get_ok ht h1) rfl)
   ·cases h
  ·split at h
   ·rename_i h1
    obtain rfl:=pv_some h;exact a_len _ _ rfl hx (te_slice (TT.get_ok ht h1) rfl)
   ·cases h
  ·cases h
 ·cases h

variable {k:IntKind} {e r:Int}
theorem ikb_some {k1 k2:IntKind}{q:Prop}{x:Int}(hq:(bif ikb k1 k2 then some (q,k1,x)else none)=some (p,k,e)):k1=k2∧q=p∧k1=k∧x=e:=by
 cases hb:ikb k1 k2 with
 |false=>rw[hb]at hq;cases hq
 |true=>rw[hb]at hq;simp only[cond_true,Option.some.injEq,Prod.mk.injEq]at hq;exact⟨ikb_eq hb,hq.1,hq.2.1,hq.2.2⟩
theorem gar2_ok {o:BinOp}{T U:Nat}{x y:Operand}{u w:Value}(hx:ev a x=some u)(hy:ev a y=some w)(h:gar2 o u w=some (p,k,e))(hp:p)(hr:k.wrap e=r) :
  APure P N ⟨some t,.binOp o T x y U,ty,pos,aft,none⟩ a H (.int k r):=by
 unfold gar2 at h
 split at h
 ·cases o <;> simp only[reduceCtorEq]at h
  ·obtain⟨rfl,rfl,rfl,rfl⟩:=ikb_some h;exact a_add _ _ _ _ rfl hx hy hr
  ·obtain⟨rfl,rfl,rfl,rfl⟩:=ikb_some h;exact a_sub _ _ _ _ rfl hx hy hr
  ·obtain⟨rfl,rfl,rfl,rfl⟩:=ikb_some h;exact a_mul _ _ _ _ rfl hx hy hr
  ·obtain⟨rfl,rfl,rfl,rfl⟩:=ikb_some h;exact a_quo _ _ _ _ rfl hx hy hp hr
  ·obtain⟨rfl,rfl,rfl,rfl⟩:=ikb_some h;exact a_and _ _ _ _ rfl hx hy hr
  ·obtain⟨rfl,rfl,rfl,rfl⟩:=ikb_some h;exact a_or _ _ _ _ rfl hx hy hr
  ·obtain⟨rfl,rfl,rfl,rfl⟩:=ikb_some h;exact a_xor _ _ _ _ rfl hx hy hr
  ·simp only[Option.some.injEq,Prod.mk.injEq]at h
   obtain⟨rfl,rfl,rfl⟩:=h
   exact a_shl _ _ _ _ rfl hx hy hp hr
 ·cases h
theorem garith_ok (ht:tt.Ok P)(h:garith tt a op=some (p,k,e))(hp:p)(hr:k.wrap e=r):APure P N ⟨some t,op,ty,pos,aft,none⟩ a H (.int k r):=by
 unfold garith at h
 split at h
 ·obtain⟨u,hx,h⟩:=ob_some h
  obtain⟨w,hy,h⟩:=ob_some h
  exact gar2_ok hx hy h hp hr
 ·obtain⟨u,hx,h⟩:=ob_some h
  unfold gneg at h
  split at h
  ·simp only[Option.some.injEq,Prod.mk.injEq]at h
   obtain⟨rfl,rfl,rfl⟩:=h
   exact a_neg _ _ rfl hx hr
  ·cases h
 ·obtain⟨u,hx,h⟩:=ob_some h
  unfold gcon at h
  split at h
  ·split at h
   ·rename_i h1 h2
    simp only[Option.some.injEq,Prod.mk.injEq]at h
    obtain⟨rfl,rfl,rfl⟩:=h
    obtain⟨d,hd,_⟩:=te_desc (TT.get_ok ht h1)
    exact a_conv _ _ _ rfl hx hd (te_int (TT.get_ok ht h2) rfl) hr
   ·cases h
  ·cases h
 ·cases h
theorem gexact_ok (h:gexact a op=some (p,k,e))(hp:p)(hr:e=r):APure P N ⟨some t,op,ty,pos,aft,none⟩ a H (.int k r):=by
 unfold gexact at h
 split at h
 ·obtain⟨u,hx,h⟩:=ob_some h
  obtain⟨w,hy,h⟩:=ob_some h
  unfold gex2 at h
  split at h
  ·rename_i o _ _ _ _ _ _ _ _ _ _ _ _
   cases o <;> simp only[reduceCtorEq]at h
   ·obtain⟨rfl,rfl,rfl,rfl⟩:=ikb_some h;exact a_rem _ _ _ _ rfl hx hy hp hr
   ·simp only[Option.some.injEq,Prod.mk.injEq]at h
    obtain⟨rfl,rfl,rfl⟩:=h
    refine a_shr _ _ _ _ rfl hx hy hp ?_
    rw[←hr]
    exact Int.fdiv_eq_ediv_of_nonneg _ (Int.pow_nonneg (by decide))
  ·cases h
 ·cases h
end
section
variable {tt:TT} {a a':AF} {op:Op}
theorem oo_congr {lo:Option Operand}(h:∀x∈lo.toArray,ev a' x=ev a x):oo a' lo=oo a lo:=by
 cases lo with
 |none=>rfl
 |some x=>simp only[oo,h x (by simp)]
theorem gpure_congr (h:∀x∈op.operands,ev a' x=ev a x):gpure tt a' op=gpure tt a op:=by
 unfold gpure
 split
 ·rw[h _ (by simp[Op.operands])]
 ·rw[h _ (by simp[Op.operands])]
 ·rename_i c x y
  rw[h c (by simp[Op.operands]),h x (by simp[Op.operands]),h y (by simp[Op.operands])]
 ·rename_i o T x y U
  rw[h x (by simp[Op.operands]),h y (by simp[Op.operands])]
 ·rename_i T x y
  rw[h x (by simp[Op.operands]),h y (by simp[Op.operands])]
 ·rename_i T x y
  rw[h x (by simp[Op.operands]),h y (by simp[Op.operands])]
 ·rw[h _ (by simp[Op.operands])]
 ·rw[h _ (by simp[Op.operands])]
 ·rw[h _ (by simp[Op.operands])]
 ·rw[h _ (by simp[Op.operands])]
 ·rename_i T x lo hi
  rw[h x (by simp[Op.operands]),oo_congr (lo:=lo) (fun y hy=>h y (by simp only[Op.operands,Array.mem_append];simp_all)),oo_congr (lo:=hi) (fun y hy=>h y (by simp only[Op.operands,Array.mem_append];simp_all))]
 ·rename_i x T
  rw[h x (by simp[Op.operands,Call.operands])]
 ·rfl
theorem garith_congr (h:∀x∈op.operands,ev a' x=ev a x):garith tt a' op=garith tt a op:=by
 unfold garith
 split
 ·rename_i o T x y U
  rw[h x (by simp[Op.operands]),h y (by simp[Op.operands])]
 ·rw[h _ (by simp[Op.operands])]
 ·rw[h _ (by simp[Op.operands])]
 ·rfl
theorem gexact_congr (h:∀x∈op.operands,ev a' x=ev a x):gexact a' op=gexact a op:=by
 unfold gexact
 split
 ·rename_i o T x y U
  rw[h x (by simp[Op.operands]),h y (by simp[Op.operands])]
 ·rfl
theorem evs_congr :∀{xs:List Operand},(∀x∈xs,ev a' x=ev a x)→evs a' xs=evs a xs
 |[],_=>rfl
 |y::ys,hy=>by simp only[evs,hy y List.mem_cons_self,evs_congr fun z hz=>hy z (List.mem_cons_of_mem _ hz)]
theorem evps_congr :∀{ps:List (Nat × Operand)},(∀x∈ps,ev a' x.2=ev a x.2)→evps a' ps=evps a ps
 |[],_=>rfl
 |(n,y)::ys,hy=>by
  have e:ev a' y=ev a y:=hy (n,y) List.mem_cons_self
  simp only[evps,e,evps_congr fun z hz=>hy z (List.mem_cons_of_mem _ hz)]
end

inductive SetAt :List Value→Nat→Value→List Value→Prop
 |zero {x v l}:SetAt (x::l) 0 v (v::l)
 |succ {x v l n l'}:SetAt l n v l'→SetAt (x::l) (n+1) v (x::l')
theorem SetAt.ok {l l':List Value}{n:Nat}{v:Value}(h:SetAt l n v l'):n<l.length∧l'=l.set n v:=by
 induction h with
 |zero=>simp
 |succ _ ih=>obtain⟨h1,rfl⟩:=ih;simp;omega
theorem SetAt.any {l:List Value}{n:Nat}{v:Value}(h:n<l.length):SetAt l n v (l.set n v):=by
 induction l generalizing n with
 |nil=>simp at h
 |cons x r ih =>
  cases n with
  |zero=>exact .zero
  |succ n=>exact .succ (ih (by simpa using h))
def PutAt (l:List Value)(o:Nat)(vs l':List Value):Prop:=o+vs.length≤l.length∧l'=lset l o vs
theorem yA {l vs:List Value}(h:l.length=vs.length):PutAt l 0 vs vs:=⟨by omega,by
 unfold lset;rw[List.drop_of_length_le (by omega)];simp⟩

theorem setAt_putAt {l l':List Value}{o:Nat}{v:Value}(h:SetAt l o v l'):PutAt l o [v] l':=by
 obtain⟨h1,rfl⟩:=h.ok
 refine⟨by simp;omega,?_⟩
 simp only[lset,List.length_singleton]
 rw[List.set_eq_take_append_cons_drop,if_pos h1]
 simp

inductive BuildR (pl:List (Nat × Nat)):List Value→List (Nat × Value)→List Value→Prop
 |nil {zs}:BuildR pl zs [] zs
 |one {zs zs' i off v r out} (hp:pl[i]?=some (off,1)) (ho:Go.Gh.one v=true) (hs:SetAt zs off v zs') (k:BuildR pl zs' r out):BuildR pl zs ((i,v)::r) out
 |agg {zs zs' i off s vs r out} (hp:pl[i]?=some (off,s)) (ho:vs.length=s) (hs:PutAt zs off vs zs') (k:BuildR pl zs' r out):BuildR pl zs ((i,.agg ⟨vs⟩)::r) out
theorem one_cells {v:Value}(hv:one v=true):v.cells=#[v]:=by cases v <;> first|(simp[one]at hv;done)|rfl
theorem gfill_step {places:Nat→Option (Nat × Nat)}{cells:List Value}{i off size:Nat}{v:Value}{r:List (Nat × Value)}(hp:places i=some (off,size))(hs:v.cells.size=size)(hl:off+size≤cells.length) :
  gfill places cells ((i,v)::r)=gfill places (lset cells off v.cells.toList) r:=by
 simp only[gfill,hp,gfill.constOk1,hs,hl,decide_true,Bool.and_self,cond_true]
theorem BuildR.ok {pl:List (Nat × Nat)}{zs out:List Value}{vs:List (Nat × Value)}(h:BuildR pl zs vs out):gfill (fun i:Nat=>pl[i]?) zs vs=some out:=by
 induction h with
 |nil=>rfl
 |@one zs zs' i off v r out hp ho hs _ ih =>
  obtain⟨h1,h2⟩:=setAt_putAt hs
  have e:=one_cells ho
  rw[gfill_step hp (by rw[e];rfl) h1,e]
  rw[←ih,h2]
 |@agg zs zs' i off s vs r out hp ho hs _ ih =>
  obtain⟨h1,h2⟩:=hs
  rw[gfill_step hp (by simpa[Value.cells]using ho) (by omega)]
  rw[←ih,h2];rfl

inductive CatR (s:Nat):Nat→List (Nat × Value)→List Value→Prop
 |nil {k}:CatR s k [] []
 |one {k v r out} (hs:s=1) (ho:Go.Gh.one v=true) (h:CatR s (k+1) r out):CatR s k ((k,v)::r) (v::out)
 |agg {k vs r out} (ho:vs.length=s) (h:CatR s (k+1) r out):CatR s k ((k,.agg ⟨vs⟩)::r) (vs++out)
 |last {k vs} (ho:vs.length=s):CatR s k [(k,.agg ⟨vs⟩)] vs
theorem CatR.len {s k:Nat}{vs:List (Nat × Value)}{out:List Value}(h:CatR s k vs out):out.length=vs.length*s:=by
 induction h with
 |nil=>simp
 |one hs _ _ ih=>subst hs;simp[ih]
 |agg ho _ ih=>simp only[List.length_append,List.length_cons,ho,ih,Nat.add_mul,Nat.one_mul];omega
 |last ho=>simp[ho]
theorem CatR.ok {s k:Nat}{vs:List (Nat × Value)}{out:List Value}(h:CatR s k vs out):∀pre zs:List Value,pre.length=k*s→zs.length=vs.length*s→gfill (fun i=>some (i*s,s)) (pre++zs) vs=some (pre++out):=by
 have step:∀(pre zs cs:List Value) (k m:Nat),pre.length=k*s→cs.length=s→zs.length=(m+1)*s→lset (pre++zs) (k*s) cs=(pre++cs)++zs.drop s:=by
  intro pre zs cs k m h1 h2 h3
  unfold lset
  rw[←h1,h2,List.take_append_of_le_length (Nat.le_refl _),List.take_length,List.drop_append,List.drop_of_length_le (by omega),show pre.length+s-pre.length=s by omega,List.nil_append]
 have main:∀(k:Nat) (v:Value) (cs:List Value) (r:List (Nat × Value)) (out pre zs:List Value),v.cells.toList=cs→cs.length=s→pre.length=k*s→zs.length=(r.length+1)*s →
   (∀pre zs:List Value,pre.length=(k+1)*s→zs.length=r.length*s→gfill (fun i=>some (i*s,s)) (pre++zs) r=some (pre++out)) →
   gfill (fun i=>some (i*s,s)) (pre++zs) ((k,v)::r)=some (pre++(cs++out)):=by
  intro k v cs r out pre zs hv hc hp hz ih
  have hsz:v.cells.size=s:=by rw[←Array.length_toList,hv,hc]
  have hle:k*s+s≤(pre++zs).length:=by rw[List.length_append,hp,hz,Nat.add_mul];omega
  rw[gfill_step rfl hsz hle,hv,step pre zs cs k r.length hp hc hz,ih (pre++cs) (zs.drop s) (by simp[hp,hc,Nat.add_mul]) (by rw[List.length_drop,hz,Nat.add_mul];omega),List.append_assoc]
 induction h with
 |nil=>intro pre zs h1 h2;simp at h2;subst h2;rfl
 |@one k v r out hs ho h ih =>
  subst hs
  intro pre zs h1 h2
  exact main k v [v] r out pre zs (by rw[one_cells ho]) rfl h1 h2 ih
 |@agg k vs r out ho h ih =>
  intro pre zs h1 h2
  exact main k (.agg ⟨vs⟩) vs r out pre zs rfl ho h1 h2 ih
 |@last k vs ho =>
  intro pre zs h1 h2
  have:=main k (.agg ⟨vs⟩) vs [] [] pre zs rfl ho h1 h2 (fun pre zs _ h2=>by simp at h2;subst h2;rfl)
  rw[List.append_nil]at this
  exact this

structure Sd (p:Prop):Prop where
 h:p
structure Ln (p:Prop):Prop where
 h:p
structure Wr (p:Prop):Prop where
 h:p
structure Ex (p:Prop):Prop where
 h:p
structure Ce (p:Prop):Prop where
 h:p
structure Rc (p:Prop):Prop where
 h:p
structure Su (p:Prop):Prop where
 h:p
structure Se (p:Prop):Prop where
 h:p
structure Pu (p:Prop):Prop where
 h:p

section
variable {P:Program} {tt:TT} {sz:Nat} {ops:Array Oper} {Q:SPost} {rest:List Oper} {a:AF} {h h' h1:SH} {m:Mode} {t:Nat} {op:Op} {ty:TypeId} {pos:String} {aft:Array Edge} {p:Prop} {v:Value}

theorem o_g (ht:tt.Ok P)(hg:gpure tt a op=some (p,v))(hN:Nat.blt t sz=true)(hp:Sd p)(k:GO m.next P sz ops Q rest ((t,v)::a) h):GO m P sz ops Q (⟨some t,op,ty,pos,aft,none⟩::rest) a h :=
 o_pure (fun _ _ _ hag=>gpure_ok ht ((gpure_congr fun _ hx=>hag.ev hx).trans hg) hp.1) hN k
theorem o_ar {kk:IntKind}{e r:Int}(ht:tt.Ok P)(hg:garith tt a op=some (p,kk,e))(hN:Nat.blt t sz=true)(hp:Sd p)(hr:Wr (kk.wrap e=r))(k:GO m.next P sz ops Q rest ((t,.int kk r)::a) h) :
  GO m P sz ops Q (⟨some t,op,ty,pos,aft,none⟩::rest) a h:=o_pure (fun _ _ _ hag=>garith_ok ht ((garith_congr fun _ hx=>hag.ev hx).trans hg) hp.1 hr.1) hN k
theorem o_ex {kk:IntKind}{e r:Int}(hg:gexact a op=some (p,kk,e))(hN:Nat.blt t sz=true)(hp:Sd p)(hr:Ex (e=r))(k:GO m.next P sz ops Q rest ((t,.int kk r)::a) h) :
  GO m P sz ops Q (⟨some t,op,ty,pos,aft,none⟩::rest) a h:=o_pure (fun _ _ _ hag=>gexact_ok ((gexact_congr fun _ hx=>hag.ev hx).trans hg) hp.1 hr.1) hN k
theorem o_not {T:Nat}{x:Operand}{q:Prop}{_:Decidable (q)}(hx:ev a x=some (.bool (decide q)))(hN:Nat.blt t sz=true)(k:GO m.next P sz ops Q rest ((t,.bool (decide (¬q)))::a) h) :
  GO m P sz ops Q (⟨some t,.unOp .not T x,ty,pos,aft,none⟩::rest) a h:=by
 refine o_pure (fun _ _ _ hag=>?_) hN k
 rw[show decide (¬q)=!decide q from by simp]
 exact a_not _ _ rfl ((hag.ev (by simp[Op.operands,Call.operands])).trans hx)
theorem yR {T:Nat}{x:Operand}{b:Bool}(hx:ev a x=some (.bool b))(hN:Nat.blt t sz=true)(k:GO m.next P sz ops Q rest ((t,.bool (!b))::a) h) :
  GO m P sz ops Q (⟨some t,.unOp .not T x,ty,pos,aft,none⟩::rest) a h:=o_pure (fun _ _ _ hag=>a_not _ _ rfl ((hag.ev (by simp[Op.operands,Call.operands])).trans hx)) hN k
theorem o_min {T U:Nat}{x y:Operand}{kk:IntKind}{i j:Int}(hx:ev a x=some (.int kk i))(hy:ev a y=some (.int kk j))(hN:Nat.blt t sz=true)(k:GO m.next P sz ops Q rest ((t,.int kk (min i j))::a) h) :
  GO m P sz ops Q (⟨some t,.call { callee:=.builtin .min,args:=#[x,y],argTypes:=#[T,U] },ty,pos,aft,none⟩::rest) a h:=o_pure (fun _ _ _ hag=>a_min T U x y rfl ((hag.ev (by simp[Op.operands,Call.operands])).trans hx) ((hag.ev (by simp[Op.operands,Call.operands])).trans hy)) hN k
theorem o_max {T U:Nat}{x y:Operand}{kk:IntKind}{i j:Int}(hx:ev a x=some (.int kk i))(hy:ev a y=some (.int kk j))(hN:Nat.blt t sz=true)(k:GO m.next P sz ops Q rest ((t,.int kk (max i j))::a) h) :
  GO m P sz ops Q (⟨some t,.call { callee:=.builtin .max,args:=#[x,y],argTypes:=#[T,U] },ty,pos,aft,none⟩::rest) a h:=o_pure (fun _ _ _ hag=>a_max T U x y rfl ((hag.ev (by simp[Op.operands,Call.operands])).trans hx) ((hag.ev (by simp[Op.operands,Call.operands])).trans hy)) hN k
theorem o_makeFunc {fn:Fn}{xs ys:List Operand}{us vs:List Value}(hx:evs a xs=some us)(hy:evs a ys=some vs)(hN:Nat.blt t sz=true)(k:GO m.next P sz ops Q rest ((t,.func fn us.toArray vs.toArray)::a) h) :
  GO m P sz ops Q (⟨some t,.makeFunc fn xs.toArray ys.toArray,ty,pos,aft,none⟩::rest) a h:=o_pure (fun _ _ _ hag=>a_makeFunc fn xs ys rfl ((evs_congr fun x hx=>hag.ev (by simp[Op.operands,hx])).trans hx) ((evs_congr fun x hx=>hag.ev (by simp[Op.operands,hx])).trans hy)) hN k
theorem o_iface {T:Nat}{x:Operand}{d:TypeDesc}(hx:ev a x=some v)(hT:P.underlying T=some d)(hd:(match d with|.interface _=>false|_=>true)=true)(hN:Nat.blt t sz=true)(k:GO m.next P sz ops Q rest ((t,.iface T v)::a) h) :
  GO m P sz ops Q (⟨some t,.makeInterface T x,ty,pos,aft,none⟩::rest) a h:=o_pure (fun _ _ _ hag=>a_makeIface T x rfl ((hag.ev (by simp[Op.operands,Call.operands])).trans hx) hT hd) hN k
theorem yT {T:Nat}{ps:List (Nat × Operand)}{fs:List (Nat × Nat)}{pl:List (Nat × Nat)}{zs out:List Value}{s b:Nat}{vs:List (Nat × Value)}(ht:tt.Ok P)(hT:tt.get T=some ⟨.st fs,s,b,some (.agg ⟨zs⟩)⟩)(hv:evps a ps=some vs)(hp:placesOf P T=some pl)
  (hz:yJ (.agg ⟨zs⟩)=true) (hb:BuildR pl zs vs out) (hN:Nat.blt t sz=true) (k:GO m.next P sz ops Q rest ((t,.agg ⟨out⟩)::a) h):GO m P sz ops Q (⟨some t,.build T ps.toArray,ty,pos,aft,none⟩::rest) a h :=
 o_pure (fun _ _ _ hag=>let ⟨_,hI,hz'⟩:=te_inf (TT.get_ok ht hT);a_build T ps rfl ((evps_congr fun x hx=>hag.ev (by simp only[Op.operands];exact List.mem_toArray.2 (List.mem_map.2 ⟨x,by simpa using hx,rfl⟩))).trans hv) hp (hz' _ rfl▸hI) hz hb.ok) hN k

theorem o_buildArr {T n E:Nat}{ps:List (Nat × Operand)}{zs out:List Value}{s b:Nat}{e:TE}{vs:List (Nat × Value)}(ht:tt.Ok P)(hT:tt.get T=some ⟨.arr n E,s,b,some (.agg ⟨zs⟩)⟩)(hE:tt.get E=some e)(hv:evps a ps=some vs)
  (hz:yJ (.agg ⟨zs⟩)=true) (hb:BuildR (arrPl n e.sz) zs vs out) (hN:Nat.blt t sz=true) (k:GO m.next P sz ops Q rest ((t,.agg ⟨out⟩)::a) h):GO m P sz ops Q (⟨some t,.build T ps.toArray,ty,pos,aft,none⟩::rest) a h :=
 o_pure (fun _ _ _ hag=>let ⟨_,hI,hz'⟩:=te_inf (TT.get_ok ht hT);let ⟨_,hI2,_⟩:=te_inf (TT.get_ok ht hE);a_buildArr T ps rfl ((evps_congr fun x hx=>hag.ev (by simp only[Op.operands];exact List.mem_toArray.2 (List.mem_map.2 ⟨x,by simpa using hx,rfl⟩))).trans hv) (te_arr (TT.get_ok ht hT) rfl) hI2 (hz' _ rfl▸hI) hz hb.ok) hN k

theorem zM {T:Nat}{x:Operand}{A off n:Nat}{g:Blk}{e:TE}(ht:tt.Ok P)(hx:ev a x=some (gptr A off n))(hT:tt.get T=some e)(hk:e.k.agg=false)(hp:Pick h A g h1)(hN:Nat.blt t sz=true)(hn:Ln (g.cells.length=n))(hc:Ce (g.cells[off]?=some v))
  (hok:m.rdOk ops fun h'=>Rc (∃g h1,Pick h' A g h1∧Ln (g.cells.length=n)∧Ce (g.cells[off]?=some v))) (k:GO (m.rd fun h'=>Rc (∃g h1,Pick h' A g h1∧Ln (g.cells.length=n)∧Ce (g.cells[off]?=some v))) P sz ops Q rest ((t,v)::a) h):GO m P sz ops Q (⟨some t,.load T x,ty,pos,aft,none⟩::rest) a h :=
 o_read (fun h'=>Rc (∃g h1,Pick h' A g h1∧Ln (g.cells.length=n)∧Ce (g.cells[off]?=some v))) ⟨_,_,hp,hn,hc⟩ (fun _ _ _ _ _ i ⟨_,_,hp,⟨hn⟩,⟨hc⟩⟩ hag=>a_load T x rfl ((hag.ev (by simp[Op.operands,Call.operands])).trans hx) (by rw[te_agg (TT.get_ok ht hT),hk]) (i.look hp) hn hc) hN hok k
def SubAt (l:List Value)(o:Nat)(vs:List Value):Prop:=∀(i:Nat) v,vs[i]?=some v→l[o+i]?=some v
theorem zQ {l:List Value}:SubAt l 0 l:=fun i v h=>by rw[Nat.zero_add];exact h
theorem yQ {T:Nat}{x:Operand}{A off n:Nat}{g:Blk}{e:TE}{vs:List Value}(ht:tt.Ok P)(hx:ev a x=some (gptr A off n))(hT:tt.get T=some e)(hk:e.k.agg=true)(hp:Pick h A g h1)(hN:Nat.blt t sz=true)(hn:Ln (g.cells.length=n))(hc:Su (SubAt g.cells off vs))(hs:Ln (vs.length=e.sz))
  (hok:m.rdOk ops fun h'=>Rc (∃g h1,Pick h' A g h1∧Ln (g.cells.length=n)∧Su (SubAt g.cells off vs))) (k:GO (m.rd fun h'=>Rc (∃g h1,Pick h' A g h1∧Ln (g.cells.length=n)∧Su (SubAt g.cells off vs))) P sz ops Q rest ((t,.agg ⟨vs⟩)::a) h):GO m P sz ops Q (⟨some t,.load T x,ty,pos,aft,none⟩::rest) a h :=
 o_read (fun h'=>Rc (∃g h1,Pick h' A g h1∧Ln (g.cells.length=n)∧Su (SubAt g.cells off vs))) ⟨_,_,hp,hn,hc⟩ (fun _ _ _ _ _ i ⟨_,_,hp,⟨hn⟩,⟨hc⟩⟩ hag=>let ⟨_,hI,_⟩:=te_inf (TT.get_ok ht hT);a_loads T x rfl ((hag.ev (by simp[Op.operands,Call.operands])).trans hx) (by rw[te_agg (TT.get_ok ht hT),hk]) hI (i.look hp) hn hs.1 hc) hN hok k
theorem o_toString {T U:Nat}{x:Operand}{A off n len fl E s b:Nat}{z:Option Value}{e1 e2:TE}{g:Blk}{l:List UInt8}(ht:tt.Ok P)(hx:ev a x=some (gsl A off n len fl))(hT:tt.get T=some ⟨.slice E,s,b,z⟩)(hE:tt.get E=some e1)(hU:tt.get U=some e2)
  (k1:e1.k=.int .u8) (k2:e2.k=.str) (hp:Pick h A g h1) (hN:Nat.blt t sz=true) (hn:Ln (g.cells.length=n)) (hc:Su (SubAt g.cells off (bytesV l))) (hl:Ln (l.length=len)) (hok:m.rdOk ops fun h'=>Rc (∃g h1,Pick h' A g h1∧Ln (g.cells.length=n)∧Su (SubAt g.cells off (bytesV l)))) (k:GO (m.rd fun h'=>Rc (∃g h1,Pick h' A g h1∧Ln (g.cells.length=n)∧Su (SubAt g.cells off (bytesV l)))) P sz ops Q rest ((t,S l)::a) h) :
  GO m P sz ops Q (⟨some t,.convert T U x,ty,pos,aft,none⟩::rest) a h :=
 o_read (fun h'=>Rc (∃g h1,Pick h' A g h1∧Ln (g.cells.length=n)∧Su (SubAt g.cells off (bytesV l)))) ⟨_,_,hp,hn,hc⟩ (fun _ _ _ _ _ i ⟨_,_,hp,⟨hn⟩,⟨hc⟩⟩ hag=>a_toString T U x rfl ((hag.ev (by simp[Op.operands,Call.operands])).trans hx) (te_slice (TT.get_ok ht hT) rfl) (te_int (TT.get_ok ht hE) k1) (te_str (TT.get_ok ht hU) k2) (i.look hp) hn hl.1 hc) hN hok k
theorem o_toString_nil {T U:Nat}{x:Operand}{E s b:Nat}{z:Option Value}{e1 e2:TE}(ht:tt.Ok P)(hx:ev a x=some (.slice none 0 0))(hT:tt.get T=some ⟨.slice E,s,b,z⟩)(hE:tt.get E=some e1)(hU:tt.get U=some e2)
  (k1:e1.k=.int .u8) (k2:e2.k=.str) (hN:Nat.blt t sz=true) (k:GO m.next P sz ops Q rest ((t,S [])::a) h) :
  GO m P sz ops Q (⟨some t,.convert T U x,ty,pos,aft,none⟩::rest) a h :=
 o_pure (fun _ _ _ hag=>a_toString_nil T U x rfl ((hag.ev (by simp[Op.operands,Call.operands])).trans hx) (te_slice (TT.get_ok ht hT) rfl) (te_int (TT.get_ok ht hE) k1) (te_str (TT.get_ok ht hU) k2)) hN k
def vcells :Value→List Value
 |.agg ⟨vs⟩=>vs
 |v=>[v]
theorem vcells_ok (v:Value):v.cells.toList=vcells v:=by cases v <;> rfl
def vcl (v:Value):Option (List Value):=match v with
 |.agg ⟨vs⟩=>some vs
 |v=>some [v]
theorem vcl_ok {v:Value}{c:List Value}(hv:vcl v=some c):v.cells.toList=c:=by
 cases v <;> (simp only[vcl,Option.some.injEq]at hv;subst hv;rfl)
theorem yG {T s b:Nat}{tk:TK}{z:Value}{c:List Value}(ht:tt.Ok P)(hT:tt.get T=some ⟨tk,s,b,some z⟩)(hc:vcl z=some c)(hz:yJ z=true)(hs:c.length=s)(hN:Nat.blt t sz=true)
  (k:∀A,GO (m.nw h (A,⟨c,false⟩)) P sz ops Q rest ((t,gptr A 0 s)::a) ((A,⟨c,false⟩)::h)):GO m P sz ops Q (⟨some t,.alloc T,ty,pos,aft,none⟩::rest) a h:=by
 have hc':=vcl_ok hc
 have hs':z.cells.size=s:=by rw[←Array.length_toList,hc',hs]
 subst hc' hs'
 obtain⟨_,hI,hz'⟩:=te_inf (TT.get_ok ht hT)
 exact o_new (v:=fun A=>gptr A 0 _) hN (fun _ _ _ _ _ hpl _=>e_alloc T rfl (hz' _ rfl▸hI) hz hpl) k
theorem o_box {T:Nat}{x:Operand}{s b:Nat}{tk:TK}{z:Option Value}{c:List Value}(_hT:tt.get T=some ⟨tk,s,b,z⟩)(hx:ev a x=some v)(hc:vcl v=some c)(hs:c.length=s)(hN:Nat.blt t sz=true)
  (k:∀A,GO (m.nw h (A,⟨c,false⟩)) P sz ops Q rest ((t,gptr A 0 s)::a) ((A,⟨c,false⟩)::h)):GO m P sz ops Q (⟨some t,.box T x,ty,pos,aft,none⟩::rest) a h:=by
 have hc':=vcl_ok hc
 have hs':v.cells.size=s:=by rw[←Array.length_toList,hc',hs]
 subst hc' hs'
 exact o_new (v:=fun A=>gptr A 0 _) hN (fun _ _ _ _ _ hpl hag=>e_box T x rfl ((hag.ev (by simp[Op.operands,Call.operands])).trans hx) hpl) k
theorem zT {T n:Nat}{ps:List (Nat × Operand)}{E s1 b1 s b:Nat}{tk:TK}{z1:Option Value}{z:Value}{vs:List (Nat × Value)}{out:List Value}(ht:tt.Ok P)(hT:tt.get T=some ⟨.slice E,s1,b1,z1⟩)(hE:tt.get E=some ⟨tk,s,b,some z⟩)(hz:yJ z=true)(hzs:(vcells z).length=s)
  (hv:evps a ps=some vs) (hs:0<s) (hn:vs.length=n) (hle:n*s≤16777216) (hc:CatR s 0 vs out) (hN:Nat.blt t sz=true) (k:∀A,GO (m.nw h (A,⟨out,false⟩)) P sz ops Q rest ((t,gsl A 0 (n*s) n s)::a) ((A,⟨out,false⟩)::h)) :
  GO m P sz ops Q (⟨some t,.buildSlice T n ps.toArray,ty,pos,aft,none⟩::rest) a h:=by
 obtain⟨_,hI,hz'⟩:=te_inf (TT.get_ok ht hE)
 have hzs':z.cells.size=s:=by rw[←Array.length_toList,vcells_ok,hzs]
 have h0:=hc.ok [] (zrow z (n*s)) (by simp) (by rw[hn];simp[zrow])
 exact o_new (v:=fun A=>gsl A 0 _ _ _) hN (fun _ _ _ _ _ hpl hag=>e_buildSlice T n ps rfl ((evps_congr fun x hx=>hag.ev (by simp only[Op.operands];exact List.mem_toArray.2 (List.mem_map.2 ⟨x,by simpa using hx,rfl⟩))).trans hv) (te_slice (TT.get_ok ht hT) rfl) (hz' _ rfl▸hI) hz hzs' hs hle h0 hpl) k
theorem o_makeSlice {T:Nat}{x y:Operand}{E s1 b1 s b:Nat}{tk:TK}{z1:Option Value}{z:Value}{j kk:IntKind}{n c:Int}{cells:List Value}(ht:tt.Ok P)(hx:ev a x=some (.int j n))(hy:ev a y=some (.int kk c))(hT:tt.get T=some ⟨.slice E,s1,b1,z1⟩)(hE:tt.get E=some ⟨tk,s,b,some z⟩)(hz:yJ z=true)
  (hzs:(vcells z).length=s) (hs:0<s) (hn:0≤n∧n≤c∧(b:Int)*c≤281474976710656∧c≤9223372036854775807) (hc:zrow z (n.toNat*s)=cells) (hN:Nat.blt t sz=true)
  (k:∀A,GO (m.nw h (A,⟨cells,false⟩)) P sz ops Q rest ((t,gsl A 0 (n.toNat*s) n.toNat s)::a) ((A,⟨cells,false⟩)::h)):GO m P sz ops Q (⟨some t,.makeSlice T x y,ty,pos,aft,none⟩::rest) a h:=by
 obtain⟨_,hI,hz'⟩:=te_inf (TT.get_ok ht hE)
 have hzs':z.cells.size=s:=by rw[←Array.length_toList,vcells_ok,hzs]
 subst hc
 exact o_new (v:=fun A=>gsl A 0 _ _ _) hN (fun _ _ _ _ _ hpl hag=>e_makeSlice T x y rfl ((hag.ev (by simp[Op.operands,Call.operands])).trans hx) ((hag.ev (by simp[Op.operands,Call.operands])).trans hy) (te_slice (TT.get_ok ht hT) rfl) (hz' _ rfl▸hI) hz hzs' hs hn hpl) k
theorem o_toBytes {T U:Nat}{x:Operand}{l:List UInt8}{E s b:Nat}{z:Option Value}{e1 e2:TE}(ht:tt.Ok P)(hx:ev a x=some (S l))(hT:tt.get T=some e1)(hU:tt.get U=some ⟨.slice E,s,b,z⟩)(hE:tt.get E=some e2)(k1:e1.k=.str)(k2:e2.k=.int .u8)(hN:Nat.blt t sz=true)(hl:Sd (l.length≤maxLen))
  (k:∀A,GO (m.nw h (A,⟨bytesV l,false⟩)) P sz ops Q rest ((t,gsl A 0 l.length l.length 1)::a) ((A,⟨bytesV l,false⟩)::h)):GO m P sz ops Q (⟨some t,.convert T U x,ty,pos,aft,none⟩::rest) a h :=
 o_new (v:=fun A=>gsl A 0 _ _ _) hN (fun _ _ _ _ _ hpl hag=>e_toBytes T U x rfl ((hag.ev (by simp[Op.operands,Call.operands])).trans hx) (te_str (TT.get_ok ht hT) k1) (te_slice (TT.get_ok ht hU) rfl) (te_int (TT.get_ok ht hE) k2) hl.1 hpl) k

theorem zX {T:Nat}{x y:Operand}{A off n b:Nat}{tk:TK}{z:Option Value}{cells cells':List Value}(ht:tt.Ok P)(hx:ev a x=some (gptr A off n))(hy:ev a y=some v)(h1:one v=true)(hT:tt.get T=some ⟨tk,1,b,z⟩)(hu:Upd h A ⟨cells,false⟩ ⟨cells',false⟩ h')(hn:Ln (cells.length=n))(hs:Se (SetAt cells off v cells'))
  (hok:m.efOk ops h') (k:GO (m.ef h) P sz ops Q rest a h'):GO m P sz ops Q (⟨none,.store T x y,ty,pos,aft,none⟩::rest) a h:=by
 obtain⟨h2,rfl⟩:=hs.1.ok
 have hn1:=hn.1
 obtain⟨_,hI,_⟩:=te_inf (TT.get_ok ht hT)
 exact o_upd rfl hu (fun _ _ _ hA hag=>e_store T x y rfl ((hag.ev (by simp[Op.operands,Call.operands])).trans hx) ((hag.ev (by simp[Op.operands,Call.operands])).trans hy) h1 hI hA hn.1 (Nat.ble_eq_true_of_le (by omega))) hok k
theorem yE {T:Nat}{x y:Operand}{A off n:Nat}{e:TE}{cells cells' vs:List Value}(ht:tt.Ok P)(hx:ev a x=some (gptr A off n))(hy:ev a y=some (.agg ⟨vs⟩))(h1:vs.all one=true)(hT:tt.get T=some e)(hs:Ln (vs.length=e.sz))(hu:Upd h A ⟨cells,false⟩ ⟨cells',false⟩ h')(hn:Ln (cells.length=n))(hc:Pu (PutAt cells off vs cells'))
  (hok:m.efOk ops h') (k:GO (m.ef h) P sz ops Q rest a h'):GO m P sz ops Q (⟨none,.store T x y,ty,pos,aft,none⟩::rest) a h:=by
 obtain⟨⟨h2,rfl⟩⟩:=hc
 have hn1:=hn.1
 have hs1:=hs.1
 obtain⟨_,hI,_⟩:=te_inf (TT.get_ok ht hT)
 exact o_upd rfl hu (fun _ _ _ hA hag=>e_stores T x y rfl ((hag.ev (by simp[Op.operands,Call.operands])).trans hx) ((hag.ev (by simp[Op.operands,Call.operands])).trans hy) h1 hI hs.1 hA hn.1 (Nat.ble_eq_true_of_le (by omega))) hok k
theorem o_append {T:Nat}{x y:Operand}{A n len A2 off2 n2 mm fl2 E s1 b1 s b:Nat}{tk:TK}{z1:Option Value}{z:Value}{cells news:List Value}{g2:Blk}(ht:tt.Ok P)(hx:ev a x=some (gsl A 0 n len s))(hy:ev a y=some (gsl A2 off2 n2 mm fl2))(hT:tt.get T=some ⟨.slice E,s1,b1,z1⟩)(hE:tt.get E=some ⟨tk,s,b,some z⟩)
  (hzs:(vcells z).length=s) (hs:Sd (0<s)) (hu:Upd h A ⟨cells,false⟩ ⟨cells++news,false⟩ h') (hp:Pick h A2 g2 h1) (hn:Ln (cells.length=n)) (hfull:Ln (len*s=n)) (hn2:Ln (g2.cells.length=n2)) (hc:Su (SubAt g2.cells off2 news)) (hl:Ln (news.length=mm*s)) (ho:news.all one=true) (hN:Nat.blt t sz=true)
  (hb:Sd ((len+mm)*b≤140737488355328∧len+mm≤maxLen)) (hok:m.efOk ops h') (k:GO (m.ef h) P sz ops Q rest ((t,gsl A 0 (n+mm*s) (len+mm) s)::a) h') :
  GO m P sz ops Q (⟨some t,.call { callee:=.builtin .append,args:=#[x,y],argTypes:=#[T,T] },ty,pos,aft,none⟩::rest) a h:=by
 obtain⟨_,hI,hz'⟩:=te_inf (TT.get_ok ht hE)
 have hzs':z.cells.size=s:=by rw[←Array.length_toList,vcells_ok,hzs]
 exact o_upd2 hN hu hp (fun _ _ _ hA hA2 hag=>e_append T x y rfl ((hag.ev (by simp[Op.operands,Call.operands])).trans hx) ((hag.ev (by simp[Op.operands,Call.operands])).trans hy) (te_slice (TT.get_ok ht hT) rfl) (hz' _ rfl▸hI) hzs' hs.1 hA hn.1 hfull.1 hA2 hn2.1 hl.1 hc.1 ho hb.1.1 hb.1.2) hok k
theorem o_append_nil {T:Nat}{x y:Operand}{A2 off2 n2 mm fl2 E s1 b1 s b:Nat}{tk:TK}{z1:Option Value}{z:Value}{news:List Value}{g2:Blk}(ht:tt.Ok P)(hx:ev a x=some (.slice none 0 0))(hy:ev a y=some (gsl A2 off2 n2 mm fl2))(hT:tt.get T=some ⟨.slice E,s1,b1,z1⟩)(hE:tt.get E=some ⟨tk,s,b,some z⟩)
  (hzs:(vcells z).length=s) (hs:Sd (0<s)) (hp:Pick h A2 g2 h1) (hn2:Ln (g2.cells.length=n2)) (hc:Su (SubAt g2.cells off2 news)) (hl:Ln (news.length=mm*s)) (hN:Nat.blt t sz=true)
  (hb:Sd (0<mm∧mm*b≤281474976710656∧mm≤maxLen)) (hok:∀A,m.efOk ops ((A,⟨news,false⟩)::h)) (k:∀A,GO (m.ef h) P sz ops Q rest ((t,gsl A 0 (mm*s) mm s)::a) ((A,⟨news,false⟩)::h)) :
  GO m P sz ops Q (⟨some t,.call { callee:=.builtin .append,args:=#[x,y],argTypes:=#[T,T] },ty,pos,aft,none⟩::rest) a h:=by
 obtain⟨_,hI,hz'⟩:=te_inf (TT.get_ok ht hE)
 have hzs':z.cells.size=s:=by rw[←Array.length_toList,vcells_ok,hzs]
 exact o_newR (v:=fun A=>gsl A 0 _ _ _) hN hp (fun _ _ _ _ _ hA2 hpl hag=>e_append_nil T x y rfl ((hag.ev (by simp[Op.operands,Call.operands])).trans hx) ((hag.ev (by simp[Op.operands,Call.operands])).trans hy) (te_slice (TT.get_ok ht hT) rfl) (hz' _ rfl▸hI) hzs' hs.1 hA2 hn2.1 hl.1 hc.1 hb.1.1 hb.1.2.1 hb.1.2.2 hpl) hok k
end

section
variable {α:Type} {f:α→List Value} {w:Nat}
def recs (f:α→List Value):List α→List Value
 |[]=>[]
 |x::r=>f x++recs f r
@[simp] theorem recs_nil :recs f []=[]:=rfl
theorem recs_app :∀{l m:List α},recs f (l++m)=recs f l++recs f m
 |[],_=>rfl
 |x::r,m=>by simp only[List.cons_append,recs,recs_app (l:=r),List.append_assoc]
theorem recs_one {x:α}:recs f [x]=f x:=List.append_nil _
theorem recs_snoc {l:List α}{x:α}:recs f (l++[x])=recs f l++f x:=by rw[recs_app,recs_one]
theorem yI {l:List α}{x:α}{c:List Value}(h:c=f x):recs f l++c=recs f (l++[x]):=by rw[h,recs_snoc]
theorem recs_len (hw:∀x,(f x).length=w):∀l:List α,(recs f l).length=l.length*w
 |[]=>by simp[recs]
 |x::r=>by simp only[recs,List.length_append,List.length_cons,hw,recs_len hw r,Nat.add_mul,Nat.one_mul];omega
theorem recs_get [Inhabited α](hw:∀x,(f x).length=w):∀{l:List α} {i j:Nat},i<l.length→j<w→(recs f l)[i*w+j]?=(f l[i]!)[j]?
 |[],i,j,h,_=>by simp at h
 |x::r,0,j,_,hj=>by
  simp only[recs,Nat.zero_mul,Nat.zero_add]
  rw[List.getElem?_append_left (by rw[hw];exact hj)]
  rfl
 |x::r,i+1,j,h,hj=>by
  simp only[recs]
  rw[List.getElem?_append_right (by rw[hw,Nat.add_mul];omega),hw,show(i+1)*w+j-w=i*w+j by rw[Nat.add_mul];omega,
   recs_get hw (by simpa using h) hj]
  simp
theorem recs_set (hw:∀x,(f x).length=w):∀{l:List α} {i:Nat} {x:α},i<l.length→lset (recs f l) (i*w) (f x)=recs f (l.set i x)
 |[],i,x,h=>by simp at h
 |y::r,0,x,_=>by
  simp only[recs,lset,List.set_cons_zero,Nat.zero_mul,List.take_zero,List.nil_append,Nat.zero_add,hw]
  rw[List.drop_append_of_le_length (by rw[hw];exact Nat.le_refl _),List.drop_of_length_le (by rw[hw];exact Nat.le_refl _),List.nil_append]
 |y::r,i+1,x,h=>by
  have ih:=recs_set hw (l:=r) (i:=i) (x:=x) (by simpa using h)
  simp only[lset,hw]at ih
  simp only[recs,lset,List.set_cons_succ,hw]
  rw[←ih,show(i+1)*w=(f y).length+i*w by rw[hw,Nat.add_mul];omega,show(f y).length+i*w+w=(f y).length+(i*w+w)from by omega,List.take_append,List.drop_append,List.take_of_length_le (by omega),List.drop_of_length_le (l:=f y) (by omega)]
  simp[List.append_assoc]
theorem recs_zrow [Inhabited α](hw:∀x,(f x).length=w)(h0:0<w){z:Value}(x:α)(hz:vcells z=f x)(n:Nat):zrow z (n*w)=recs f (List.replicate n x):=by
 have hz':z.cells.toList=f x:=by rw[vcells_ok,hz]
 have hs:z.cells.size=w:=by rw[←Array.length_toList,hz',hw]
 apply List.ext_getElem?
 intro k
 by_cases hk:k<n*w
 ·have hq:k/w<n:=(Nat.div_lt_iff_lt_mul h0).2 hk
  have:=recs_get hw (l:=List.replicate n x) (i:=k/w) (j:=k%w) (by simpa using hq) (Nat.mod_lt _ h0)
  rw[Nat.div_add_mod']at this
  rw[this,getElem!_pos _ _ (by simpa using hq),List.getElem_replicate]
  unfold zrow
  rw[List.getElem?_map,List.getElem?_range hk,hs,Option.map_some,hz',List.getD_eq_getElem?_getD,List.getElem?_eq_getElem (by rw[hw];exact Nat.mod_lt _ h0)]
  rfl
 ·rw[List.getElem?_eq_none (by simp[zrow];omega),List.getElem?_eq_none (by rw[recs_len hw];simp;omega)]
theorem subAt_rec [Inhabited α]{l:List α}{i:Nat}(hw:∀x,(f x).length=w)(hi:i<l.length):SubAt (recs f l) (0+i*w) (f l[i]!):=fun j v hj=>by
 have hj2:=(List.getElem?_eq_some_iff.1 hj).1
 rw[hw]at hj2
 rw[Nat.zero_add,recs_get hw hi hj2];exact hj
theorem subAt_recZ [Inhabited α]{l:List α}{i:Nat}(hw:∀x,(f x).length=w)(hi:i<l.length):SubAt (recs f l) (0+((i:Int)).toNat*w) (f l[i]!):=subAt_rec hw hi
theorem cell_rec [Inhabited α]{l:List α}{i fo:Nat}{v:Value}(hw:∀x,(f x).length=w)(hi:i<l.length)(hf:fo<w)(hv:(f l[i]!)[fo]?=some v):(recs f l)[0+i*w+fo]?=some v:=by
 rw[Nat.zero_add,recs_get hw hi hf];exact hv
theorem cell_recZ [Inhabited α]{l:List α}{i fo:Nat}{v:Value}(hw:∀x,(f x).length=w)(hi:i<l.length)(hf:fo<w)(hv:(f l[i]!)[fo]?=some v):(recs f l)[0+((i:Int)).toNat*w+fo]?=some v:=cell_rec hw hi hf hv
theorem putAt_rec {l:List α}{i:Nat}{x:α}(hw:∀x,(f x).length=w)(hi:i<l.length):PutAt (recs f l) (0+i*w) (f x) (recs f (l.set i x)):=by
 refine⟨?_,?_⟩
 ·rw[hw,recs_len hw,Nat.zero_add]
  calc i*w+w=(i+1)*w:=by rw[Nat.add_mul,Nat.one_mul]
   _≤l.length*w:=Nat.mul_le_mul_right w hi
 ·rw[Nat.zero_add];exact(recs_set hw hi).symm
theorem putAt_recZ {l:List α}{i:Nat}{x:α}(hw:∀x,(f x).length=w)(hi:i<l.length):PutAt (recs f l) (0+((i:Int)).toNat*w) (f x) (recs f (l.set i x)):=putAt_rec hw hi
end
section
variable {α:Type} {f:α→Value}
theorem cell_map [Inhabited α]{l:List α}{i:Nat}(hi:i<l.length):(l.map f)[0+i*1]?=some (f l[i]!):=by
 rw[Nat.zero_add,Nat.mul_one,List.getElem?_map,List.getElem?_eq_getElem hi,getElem!_pos l i hi];rfl
theorem yM [Inhabited α]{l:List α}{i:Nat}(hi:i<l.length):(l.map f)[0+((i:Int)).toNat*1]?=some (f l[i]!):=cell_map hi
theorem setAt_map {l:List α}{i:Nat}{x:α}(hi:i<l.length):SetAt (l.map f) (0+i*1) (f x) ((l.set i x).map f):=by
 rw[Nat.zero_add,Nat.mul_one,List.map_set];exact SetAt.any (by simpa using hi)
theorem setAt_mapZ {l:List α}{i:Nat}{x:α}(hi:i<l.length):SetAt (l.map f) (0+((i:Int)).toNat*1) (f x) ((l.set i x).map f):=setAt_map hi
theorem all_map {l:List α}(h:∀x,one (f x)=true):(l.map f).all one=true:=by simp[h]
theorem map_zrow {z:Value}(x:α)(h:one z=true)(hz:z=f x)(n:Nat):zrow z (n*1)=(List.replicate n x).map f:=by
 rw[zrow_one h,Nat.mul_one,List.map_replicate,hz]
end
theorem yO {α:Type}{f:α→Value}{l:List α}{x:α}{v:Value}(h:v=f x):l.map f++[v]=(l++[x]).map f:=by rw[h,List.map_append];rfl
theorem cell_bytes {l:List UInt8}{i:Int}(hi:0≤i∧i<l.length):(bytesV l)[0+i.toNat*1]?=some (.int .u8 (bat l i)):=by
 have h:i.toNat<l.length:=by omega
 rw[Nat.zero_add,Nat.mul_one]
 unfold bytesV bat
 rw[List.getElem?_map,List.getElem?_eq_getElem h,List.getD_eq_getElem?_getD,List.getElem?_eq_getElem h];rfl
theorem bytesV_app {l m:List UInt8}:bytesV (l++m)=bytesV l++bytesV m:=by unfold bytesV;rw[List.map_append]
@[simp] theorem bytesV_nil :bytesV []=[]:=rfl
theorem bytesV_all (l:List UInt8):(bytesV l).all one=true:=by unfold bytesV;simp[one]
def b8 (n:Int):UInt8:=UInt8.ofNat n.toNat
theorem b8_val {n:Int}(h:0≤n∧n<256):((b8 n).toNat:Int)=n:=by
 unfold b8;rw[UInt8.toNat_ofNat'];omega
theorem bytesV_one {n:Int}(h:0≤n∧n<256):bytesV [b8 n]=[.int .u8 n]:=by
 show [Value.int .u8 ((b8 n).toNat:Int)]=_;rw[b8_val h]
theorem bytesV_snoc {l:List UInt8}{n:Int}(h:0≤n∧n<256):bytesV l++[.int .u8 n]=bytesV (l++[b8 n]):=by rw[bytesV_app,bytesV_one h]
theorem setAt_bytes {l:List UInt8}{i n:Int}(hi:0≤i∧i<l.length)(h:0≤n∧n<256):SetAt (bytesV l) (0+i.toNat*1) (.int .u8 n) (bytesV (l.set i.toNat (b8 n))):=by
 have e:(.int .u8 n:Value)=.int .u8 ((b8 n).toNat:Int):=by rw[b8_val h]
 have hlt:i.toNat<l.length:=by omega
 rw[e]
 exact setAt_map (f:=fun c:UInt8=>Value.int .u8 (c.toNat:Int)) (x:=b8 n) hlt

section
variable {P:Program} {tt:TT} {a:AF} {h h1:SH} {fn:Func} {R:Value→SH→Prop} {vs:List Value}
theorem res_cell {A n b T:Nat}{cs:List Value}{ro:Bool}{e:TE}{r:List ResultVar}{us:List Value}(ht:tt.Ok P)(hb:get a b=some (gptr A 0 n))(hT:tt.get T=some e)(hk:e.k.agg=true)(hp:Pick h A ⟨cs,ro⟩ h1)(hn:cs.length=n)(hs:cs.length=e.sz)(hr:ResS P a h r us) :
  ResS P a h (.cell b T::r) (.agg ⟨cs⟩::us):=by
 refine⟨⟨A,0,n,⟨cs,ro⟩,h1,hb,hp,hn,.inl ?_⟩,hr⟩
 obtain⟨z,hI,_⟩:=te_inf (TT.get_ok ht hT)
 refine⟨z,_,_,by rw[te_agg (TT.get_ok ht hT),hk],hI,by simp[hs],?_⟩
 rw[List.drop_zero,←hs]
 congr 1
 simp
end
section
variable {P:Program} {sz:Nat} {ops:Array Oper} {Q:SPost} {rest:List Oper} {a:AF} {h:SH} {m:Mode} {t j d:Nat} {op:Op} {ty:TypeId} {pos:String} {aft:Array Edge}
theorem w_meet {S:Type}{c y:Code}{Q':SPost}(A:S→AF)(G:S→SH)(I:S→Prop)
  (k1:SWp P sz c (thenS (fun a' h'=>∃s,I s∧Sub (A s) a'∧Take h' (G s)) Q') a h) (k2:∀s,I s→SWp P sz y Q (A s) (G s)):SWp P sz c (thenS (fun a h=>SWp P sz y Q a h) Q') a h :=
 w_cut A G I k1 fun s hs _ _ h1 h2=>(k2 s hs).take h1 h2
theorem w_ifN {c:Operand}{x y:Code}{q:Prop}{_:Decidable ((¬q))}(hc:ev a c=some (.bool (decide (¬q))))(h1:¬q→SWp P sz x Q a h)(h2:q→SWp P sz y Q a h):SWp P sz (.cond c x y) Q a h :=
 w_if hc h1 (fun hn=>h2 (Classical.not_not.1 hn))
theorem o_guardTN {q:Prop}{_:Decidable (¬q)}(hd:(ops[j]?).bind (·.dst)=some d)(hb:get a d=some (.bool (decide (¬q))))(hN:Nat.blt t sz=true)
  (h1:¬q→GO m P sz ops Q (⟨some t,op,ty,pos,aft,none⟩::rest) ((d,.bool true)::a) h) (h2:q→GO m.next P sz ops Q rest ((t,undef)::(d,.bool false)::a) h) :
  GO m P sz ops Q (⟨some t,op,ty,pos,aft,some (j,true)⟩::rest) a h:=o_guardT hd hb hN h1 (fun hn=>h2 (Classical.not_not.1 hn))
theorem o_guardFN {q:Prop}{_:Decidable (¬q)}(hd:(ops[j]?).bind (·.dst)=some d)(hb:get a d=some (.bool (decide (¬q))))(hN:Nat.blt t sz=true)
  (h1:q→GO m P sz ops Q (⟨some t,op,ty,pos,aft,none⟩::rest) ((d,.bool false)::a) h) (h2:¬q→GO m.next P sz ops Q rest ((t,undef)::(d,.bool true)::a) h) :
  GO m P sz ops Q (⟨some t,op,ty,pos,aft,some (j,false)⟩::rest) a h:=o_guardF hd hb hN (fun hn=>h1 (Classical.not_not.1 hn)) h2
theorem o_gT {p:Prop}{_:Decidable (p)}{want:Bool}(hd:(ops[j]?).bind (·.dst)=some d)(hb:get a d=some (.bool (decide p)))(hw:want=true)(hp:p)
  (k:GO m P sz ops Q (⟨some t,op,ty,pos,aft,none⟩::rest) ((d,.bool true)::a) h):GO m P sz ops Q (⟨some t,op,ty,pos,aft,some (j,want)⟩::rest) a h:=by
 subst hw
 rw[decide_eq_true hp]at hb
 exact o_again hb (zU hd (by unfold get;rw[show Nat.beq d d=true from Nat.beq_refl d];rfl) k)
theorem o_gF {p:Prop}{_:Decidable (p)}{want:Bool}(hd:(ops[j]?).bind (·.dst)=some d)(hb:get a d=some (.bool (decide p)))(hw:want=false)(hp:¬p)
  (k:GO m P sz ops Q (⟨some t,op,ty,pos,aft,none⟩::rest) ((d,.bool false)::a) h):GO m P sz ops Q (⟨some t,op,ty,pos,aft,some (j,want)⟩::rest) a h:=by
 subst hw
 rw[decide_eq_false hp]at hb
 exact o_again hb (zU hd (by unfold get;rw[show Nat.beq d d=true from Nat.beq_refl d];rfl) k)
theorem o_sF {p:Prop}{_:Decidable (p)}{want:Bool}(hd:(ops[j]?).bind (·.dst)=some d)(hb:get a d=some (.bool (decide p)))(hw:want=true)(hp:¬p)(hN:Nat.blt t sz=true)
  (k:GO m.next P sz ops Q rest ((t,undef)::(d,.bool false)::a) h):GO m P sz ops Q (⟨some t,op,ty,pos,aft,some (j,want)⟩::rest) a h:=by
 subst hw
 rw[decide_eq_false hp]at hb
 exact o_again hb (yF hd (by unfold get;rw[show Nat.beq d d=true from Nat.beq_refl d];rfl) rfl hN k)
theorem o_sT {p:Prop}{_:Decidable (p)}{want:Bool}(hd:(ops[j]?).bind (·.dst)=some d)(hb:get a d=some (.bool (decide p)))(hw:want=false)(hp:p)(hN:Nat.blt t sz=true)
  (k:GO m.next P sz ops Q rest ((t,undef)::(d,.bool true)::a) h):GO m P sz ops Q (⟨some t,op,ty,pos,aft,some (j,want)⟩::rest) a h:=by
 subst hw
 rw[decide_eq_true hp]at hb
 exact o_again hb (yF hd (by unfold get;rw[show Nat.beq d d=true from Nat.beq_refl d];rfl) rfl hN k)
end
section
variable {P:Program} {f:FuncId} {fn:Func} {c:Code} {h:SH} {R:Value→SH→Prop} {x0 x1 x2 x3 x4 x5 x6 x7 x8 x9:Value}
theorem w_body0 (hf:P.funcs[f]?=some fn)(hb:fn.body=some c)(hN:Nat.ble 0 fn.ntmps=true)(k:SWp P fn.ntmps c (bodyS P fn R) [] h):SRun P f [] h R:=w_body hf hb hN k
theorem zR (hf:P.funcs[f]?=some fn)(hb:fn.body=some c)(hN:Nat.ble 1 fn.ntmps=true)(k:SWp P fn.ntmps c (bodyS P fn R) [(0,x0)] h):SRun P f [x0] h R:=w_body hf hb hN k
theorem zY (hf:P.funcs[f]?=some fn)(hb:fn.body=some c)(hN:Nat.ble 2 fn.ntmps=true)(k:SWp P fn.ntmps c (bodyS P fn R) [(0,x0),(1,x1)] h):SRun P f [x0,x1] h R:=w_body hf hb hN k
theorem w_body3 (hf:P.funcs[f]?=some fn)(hb:fn.body=some c)(hN:Nat.ble 3 fn.ntmps=true)(k:SWp P fn.ntmps c (bodyS P fn R) [(0,x0),(1,x1),(2,x2)] h):SRun P f [x0,x1,x2] h R:=w_body hf hb hN k
theorem w_body4 (hf:P.funcs[f]?=some fn)(hb:fn.body=some c)(hN:Nat.ble 4 fn.ntmps=true)(k:SWp P fn.ntmps c (bodyS P fn R) [(0,x0),(1,x1),(2,x2),(3,x3)] h):SRun P f [x0,x1,x2,x3] h R:=w_body hf hb hN k
theorem w_body5 (hf:P.funcs[f]?=some fn)(hb:fn.body=some c)(hN:Nat.ble 5 fn.ntmps=true)(k:SWp P fn.ntmps c (bodyS P fn R) [(0,x0),(1,x1),(2,x2),(3,x3),(4,x4)] h):SRun P f [x0,x1,x2,x3,x4] h R:=w_body hf hb hN k
theorem w_body7 (hf:P.funcs[f]?=some fn)(hb:fn.body=some c)(hN:Nat.ble 7 fn.ntmps=true)(k:SWp P fn.ntmps c (bodyS P fn R) [(0,x0),(1,x1),(2,x2),(3,x3),(4,x4),(5,x5),(6,x6)] h):SRun P f [x0,x1,x2,x3,x4,x5,x6] h R:=w_body hf hb hN k
end
theorem Pick.comm {h h1 h2:SH}{A B:Nat}{a b:Blk}(p:Pick h A a h1)(q:Pick h1 B b h2):∃h3,Pick h B b h3∧Pick h3 A a h2:=by
 induction p generalizing h2 with
 |head=>exact⟨_,.tail q,.head⟩
 |tail p ih =>
  cases q with
  |head=>exact⟨_,.head,p⟩
  |tail q=>obtain⟨h3,g1,g2⟩:=ih q;exact⟨_,.tail g1,.tail g2⟩
theorem Take.pick {h h1 h1':SH}{A:Nat}{b:Blk}(t:Take h h1)(p:Pick h1 A b h1'):∃h',Pick h A b h'∧Take h' h1':=by
 induction t generalizing h1' with
 |nil=>exact⟨_,p,.nil⟩
 |cons pk t ih =>
  cases p with
  |head=>exact⟨_,pk,t⟩
  |tail p=>obtain⟨h2,g1,g2⟩:=ih p;obtain⟨h3,g3,g4⟩:=pk.comm g1;exact⟨h3,g3,.cons g4 g2⟩
 |consE pk e t ih =>
  subst e
  cases p with
  |head=>exact⟨_,pk,t⟩
  |tail p=>obtain⟨h2,g1,g2⟩:=ih p;obtain⟨h3,g3,g4⟩:=pk.comm g1;exact⟨h3,g3,.cons g4 g2⟩
 |drop t ih=>obtain⟨h2,g1,g2⟩:=ih p;exact⟨_,.tail g1,.drop g2⟩
theorem Take.part {h h' r:SH}{A:Nat}{b:Blk}(p:Pick h A b h')(t:Take h' r):Take h r:=by
 induction t generalizing h with
 |@nil h' =>
  induction p with
  |head=>exact .drop .nil
  |@tail A b x h h1 p ih=>obtain⟨B,c⟩:=x;exact .cons .head ih
 |cons q _ ih=>obtain⟨h3,g1,g2⟩:=p.comm q;exact .cons g1 (ih g2)
 |consE q e _ ih=>obtain⟨h3,g1,g2⟩:=p.comm q;exact .consE g1 e (ih g2)
 |@drop x h1 r t ih =>
  cases p with
  |head=>exact .drop (.drop t)
  |tail p=>exact .drop (ih p)
theorem Take.trans {h h1 h2:SH}(t:Take h h1)(u:Take h1 h2):Take h h2:=by
 induction u generalizing h with
 |nil=>exact t
 |cons p _ ih=>obtain⟨h',g1,g2⟩:=t.pick p;exact .cons g1 (ih g2)
 |consE p e _ ih=>obtain⟨h',g1,g2⟩:=t.pick p;exact .consE g1 e (ih g2)
 |@drop x h1 r u ih =>
  obtain⟨A,b⟩:=x
  obtain⟨h',g1,g2⟩:=t.pick .head
  exact Take.part g1 (ih g2)
theorem SRun.take {P:Program}{f:FuncId}{as0:List Value}{p p':SH}{R:Value→SH→Prop}(t:Take p p')(k:SRun P f as0 p' R):SRun P f as0 p R:=by
 unfold SRun at k ⊢
 intro H i
 exact(k H (i.le t.le).refl).mono fun r H' ⟨q,g1,g2⟩=>⟨q,g1,(i.le t.le).comp g2⟩
theorem Take.drops {h r:SH}:∀{l:SH},Take h r→Take (l++h) r
 |[],k=>k
 |_::_,k=>.drop (Take.drops k)
theorem drop_bang {α:Type}[Inhabited α]{l:List α}{k:Nat}(h:k<l.length):l.drop k=l[k]!::l.drop (k+1):=by
 rw[List.drop_eq_getElem_cons h,getElem!_pos l k h]
def Has (h:SH)(c:List Value)(w n:Nat)(v:Value):Prop:=∃ad fl,v=.slice ad n fl∧(n≠0→∃A ro h1,ad=some ⟨A,0,some (w*n)⟩∧Pick h A ⟨c,ro⟩ h1)
theorem pick_lock {h h1:SH}{A:Nat}{b:Blk}(p:Pick h A b h1):Pick (lockS h) A b.lock (lockS h1):=by
 induction p with
 |head=>exact .head
 |tail _ ih=>exact .tail ih
theorem yL {h h1:SH}(t:Take h h1):Take (lockS h) (lockS h1):=by
 induction t with
 |nil=>exact .nil
 |cons p _ ih=>exact .cons (pick_lock p) ih
 |consE p e _ ih=>subst e;exact .cons (pick_lock p) ih
 |drop _ ih=>exact .drop ih
theorem Has.lock {h:SH}{c:List Value}{w n:Nat}{v:Value}(k:Has h c w n v):Has (lockS h) c w n v:=by
 obtain⟨ad,fl,e,k⟩:=k
 refine⟨ad,fl,e,fun hn=>?_⟩
 obtain⟨A,ro,h1,e2,p⟩:=k hn
 exact⟨A,_,_,e2,pick_lock p⟩
theorem Has.re {h h':SH}{c:List Value}{w n:Nat}{v:Value}(k:Has h c w n v)(t:Take h' h):Has h' c w n v:=by
 obtain⟨ad,fl,e,k⟩:=k
 refine⟨ad,fl,e,fun hn=>?_⟩
 obtain⟨A,ro,h1,e2,p⟩:=k hn
 obtain⟨h2,g,_⟩:=t.pick p
 exact⟨A,ro,h2,e2,g⟩
theorem blkE {c c':List Value}{ro:Bool}(h:c=c'):(⟨c,ro⟩:Blk)=⟨c',ro⟩:=by rw[h]
theorem gslE {A A' o o' n n' l l' f f':Nat}(h1:A=A')(h2:o=o')(h3:n=n')(h4:l=l')(h5:f=f'):gsl A o n l f=gsl A' o' n' l' f':=by subst h1 h2 h3 h4 h5;rfl

inductive VR (ρ:Nat→Nat)(D:Nat→Prop):Value→Value→Prop
 |const {v} (h:yJ v=true):VR ρ D v v
 |ptr {A o n} (h:D A):VR ρ D (.pointer (some ⟨A,o,some n⟩)) (.pointer (some ⟨ρ A,o,some n⟩))
 |slc {A o n len fl} (h:D A):VR ρ D (.slice (some ⟨A,o,some n⟩) len fl) (.slice (some ⟨ρ A,o,some n⟩) len fl)
 |sdead:VR ρ D (.slice (some ⟨0,0,none⟩) 0 0) (.slice (some ⟨0,0,none⟩) 0 0)
 |agg {a b:Array Value} (h1:a.size=b.size) (h2:∀i (h:i<a.size) (h':i<b.size),VR ρ D a[i] b[i]):VR ρ D (.agg a) (.agg b)
 |tuple {a b:Array Value} (h1:a.size=b.size) (h2:∀i (h:i<a.size) (h':i<b.size),VR ρ D a[i] b[i]):VR ρ D (.tuple a) (.tuple b)
 |func {f:Fn} {a b c d:Array Value} (h1:a.size=b.size) (h2:∀i (h:i<a.size) (h':i<b.size),VR ρ D a[i] b[i])
   (h3:c.size=d.size) (h4:∀i (h:i<c.size) (h':i<d.size),VR ρ D c[i] d[i]):VR ρ D (.func f a c) (.func f b d)
inductive VRs (ρ:Nat→Nat)(D:Nat→Prop):List Value→List Value→Prop
 |nil:VRs ρ D [] []
 |cons {u v l m} (h:VR ρ D u v) (k:VRs ρ D l m):VRs ρ D (u::l) (v::m)
theorem VRs.len {ρ:Nat→Nat}{D:Nat→Prop}{l m:List Value}(h:VRs ρ D l m):l.length=m.length:=by
 induction h with
 |nil=>rfl
 |cons _ _ ih=>simp[ih]
theorem VRs.get {ρ:Nat→Nat}{D:Nat→Prop}{l m:List Value}(h:VRs ρ D l m):∀{i:Nat} {u:Value},l[i]?=some u→∃v,m[i]?=some v∧VR ρ D u v:=by
 induction h with
 |nil=>intro i u h;simp at h
 |@cons u v l m h _ ih =>
  intro i w hw
  cases i with
  |zero=>simp only[List.getElem?_cons_zero,Option.some.injEq]at hw;subst hw;exact⟨v,rfl,h⟩
  |succ i=>exact ih (by simpa using hw)
theorem VRs.at {ρ:Nat→Nat}{D:Nat→Prop}{l m:List Value}(h:VRs ρ D l m)(i:Nat)(h1:i<(Array.mk l).size)(h2:i<(Array.mk m).size):VR ρ D (Array.mk l)[i] (Array.mk m)[i]:=by
 obtain⟨v,g1,g2⟩:=h.get (i:=i) (u:=l[i]'(by simpa using h1)) (List.getElem?_eq_getElem _)
 have:(Array.mk m)[i]=v:=by
  have h2':i<m.length:=by simpa using h2
  rw[List.getElem?_eq_getElem h2']at g1
  simpa using g1
 rw[this];exact g2
theorem VRs.agg {ρ:Nat→Nat}{D:Nat→Prop}{l m:List Value}(h:VRs ρ D l m):VR ρ D (.agg ⟨l⟩) (.agg ⟨m⟩):=.agg (by simpa using h.len) h.at
theorem VRs.tuple {ρ:Nat→Nat}{D:Nat→Prop}{l m:List Value}(h:VRs ρ D l m):VR ρ D (.tuple ⟨l⟩) (.tuple ⟨m⟩):=.tuple (by simpa using h.len) h.at
theorem VRs.const {ρ:Nat→Nat}{D:Nat→Prop}:∀{l:List Value},(∀v∈l,yJ v=true)→VRs ρ D l l
 |[],_=>.nil
 |_::_,h=>.cons (.const (h _ List.mem_cons_self)) (VRs.const fun v hv=>h v (List.mem_cons_of_mem _ hv))
theorem VRs.app {ρ:Nat→Nat}{D:Nat→Prop}{l m l' m':List Value}(h:VRs ρ D l m)(k:VRs ρ D l' m'):VRs ρ D (l++l') (m++m'):=by
 induction h with
 |nil=>exact k
 |cons h _ ih=>exact .cons h ih
theorem VR.val {ρ:Nat→Nat}{D:Nat→Prop}{φ:Nat→Loc}{L L':Lens}{u v:Value}(h:VR ρ D u v)(hD:∀A,D A→L' A=L (ρ A)):∀{v':Value},Val φ L v v'→Val (fun A=>φ (ρ A)) L' u v':=by
 induction h with
 |const hc=>intro v' hv;rw[Val.det hc hv];exact Val.const hc
 |@ptr A o n h =>
  intro v' hv
  generalize hq:Value.pointer (some ⟨ρ A,o,some n⟩)=q at hv
  cases hv with
  |ptr A' o' v' n' c hL hv h'=>cases hq;exact .ptr _ _ _ _ _ (by rw[hD _ h];exact hL) hv h'
  |_=>cases hq
 |@slc A o n len fl h =>
  intro v' hv
  generalize hq:Value.slice (some ⟨ρ A,o,some n⟩) len fl=q at hv
  cases hv with
  |slc A' o' v' n' len' fl' cap c hL hv hc hm h'=>cases hq;exact .slc _ _ _ _ _ _ _ _ (by rw[hD _ h];exact hL) hv hc hm h'
  |sdead=>simp at hq
  |_=>cases hq
 |sdead=>intro v' hv;cases hv with|sdead c cap hm=>exact .sdead c cap hm
 |agg h1 _ ih=>intro v' hv;cases hv with|agg a b g1 g2=>exact .agg _ _ (h1.trans g1) fun i hi hi'=>ih i hi (by omega) (g2 i (by omega) hi')
 |tuple h1 _ ih=>intro v' hv;cases hv with|tuple a b g1 g2=>exact .tuple _ _ (h1.trans g1) fun i hi hi'=>ih i hi (by omega) (g2 i (by omega) hi')
 |func h1 _ h3 _ ih1 ih2 =>
  intro v' hv
  cases hv with
  |func f a b c d g1 g2 g3 g4=>exact .func _ _ _ _ _ (h1.trans g1) (fun i hi hi'=>ih1 i hi (by omega) (g2 i (by omega) hi')) (h3.trans g3) fun i hi hi'=>ih2 i hi (by omega) (g4 i (by omega) hi')
theorem old_val {D:Nat→Prop}{φ φ1 φ2:Nat→Loc}{L L1 L2:Lens}(hL:∀A m,L A=some m→D A)(h12:∀A,D A→φ2 A=φ1 A∧L2 A=L1 A){v v':Value}(h:Val φ1 L1 v v'):∀{v0:Value},Val φ L v v0→Val φ2 L2 v v':=by
 induction h with
 |bool b=>intro v0 _;exact .bool b
 |int k n=>intro v0 _;exact .int k n
 |str s=>intro v0 _;exact .str s
 |pnil=>intro v0 _;exact .pnil
 |ptr A o v n c h1 h2 h3 =>
  intro v0 h0
  generalize hq:Value.pointer (some ⟨A,o,some v⟩)=q at h0
  cases h0 with
  |ptr A' o' v' n' c' hL' hv' h' =>
   cases hq
   obtain⟨e1,e2⟩:=h12 _ (hL _ _ hL')
   exact .ptr _ _ _ _ _ (by rw[e2];exact h1) h2 (by rw[e1];exact h3)
  |_=>cases hq
 |snil=>intro v0 _;exact .snil
 |slc A o v n len fl cap c h1 h2 hc hm h3 =>
  intro v0 h0
  generalize hq:Value.slice (some ⟨A,o,some v⟩) len fl=q at h0
  cases h0 with
  |slc A' o' v' n' len' fl' cap' c' hL' hv' hc' hm' h' =>
   cases hq
   obtain⟨e1,e2⟩:=h12 _ (hL _ _ hL')
   exact .slc _ _ _ _ _ _ _ _ (by rw[e2];exact h1) h2 hc hm (by rw[e1];exact h3)
  |_=>cases hq
 |full A o v n len c h1 h2 hm h3 =>
  intro v0 h0
  generalize hq:Value.slice (some ⟨A,o,none⟩) len (v+1)=q at h0
  cases h0 with
  |full A' o' v' n' len' c' hL' hv' hm' h' =>
   cases hq
   obtain⟨e1,e2⟩:=h12 _ (hL _ _ hL')
   exact .full _ _ _ _ _ _ (by rw[e2];exact h1) h2 hm (by rw[e1];exact h3)
  |sdead=>simp at hq
  |_=>cases hq
 |map A n r h1 h3 =>
  intro v0 h0
  generalize hq:Value.map (some A)=q at h0
  cases h0 with
  |map A' n' r' hL' h' =>
   cases hq
   obtain⟨e1,e2⟩:=h12 _ (hL _ _ hL')
   exact .map _ n _ (by rw[e2];exact h1) (by rw[e1];exact h3)
  |_=>cases hq
 |sdead c cap hm=>intro v0 _;exact .sdead c cap hm
 |mnil=>intro v0 _;exact .mnil
 |func f a b c d h1 _ h3 _ ih1 ih2 =>
  intro v0 h0
  cases h0 with
  |func _ _ b' _ d' g1 g2 g3 g4=>exact .func f a b c d h1 (fun i hi hi'=>ih1 i hi hi' (g2 i hi (by omega))) h3 (fun i hi hi'=>ih2 i hi hi' (g4 i hi (by omega)))
 |fnil=>intro v0 _;exact .fnil
 |inil=>intro v0 _;exact .inil
 |iface t v v' _ ih=>intro v0 h0;cases h0 with|iface _ _ _ h=>exact .iface t v v' (ih h)
 |agg a b h1 _ ih=>intro v0 h0;cases h0 with|agg _ b' g1 g2=>exact .agg a b h1 fun i hi hi'=>ih i hi hi' (g2 i hi (by omega))
 |tuple a b h1 _ ih=>intro v0 h0;cases h0 with|tuple _ b' g1 g2=>exact .tuple a b h1 fun i hi hi'=>ih i hi hi' (g2 i hi (by omega))

inductive SHR (ρ:Nat→Nat)(D:Nat→Prop)(p:SH):SH→SH→Prop
 |nil:SHR ρ D p [] []
 |same {h} (k:∀x∈h,x∈p):SHR ρ D p h h
 |cons {A A' c c' ro h h'} (e:ρ A=A') (h1:VRs ρ D c c') (k:SHR ρ D p h h'):SHR ρ D p ((A,⟨c,ro⟩)::h) ((A',⟨c',ro⟩)::h')
 |keep {x h h'} (e:x∈p) (k:SHR ρ D p h h'):SHR ρ D p (x::h) (x::h')
theorem SHR.get {ρ:Nat→Nat}{D:Nat→Prop}{p h h':SH}(k:SHR ρ D p h h')(hp:∀y∈p,ρ y.1=y.1):∀x∈h,(x∈p∧x∈h')∨∃c',(ρ x.1,⟨c',x.2.ro⟩)∈h'∧VRs ρ D x.2.cells c':=by
 induction k with
 |nil=>intro x hx;cases hx
 |same k=>intro x hx;exact .inl ⟨k x hx,hx⟩
 |cons e h1 _ ih =>
  intro x hx
  rcases List.mem_cons.1 hx with rfl|hx
  ·exact .inr ⟨_,by rw[e];exact List.mem_cons_self,h1⟩
  ·rcases ih x hx with⟨g1,g2⟩|⟨c',g1,g2⟩
   ·exact .inl ⟨g1,List.mem_cons_of_mem _ g2⟩
   ·exact .inr ⟨c',List.mem_cons_of_mem _ g1,g2⟩
 |keep e _ ih =>
  intro x hx
  rcases List.mem_cons.1 hx with rfl|hx
  ·exact .inl ⟨e,List.mem_cons_self⟩
  ·rcases ih x hx with⟨g1,g2⟩|⟨c',g1,g2⟩
   ·exact .inl ⟨g1,List.mem_cons_of_mem _ g2⟩
   ·exact .inr ⟨c',List.mem_cons_of_mem _ g1,g2⟩

def look (g:SH)(A:Nat):Option Blk:=(g.find? fun x=>Nat.beq x.1 A).map (·.2)
theorem look_mem {g:SH}{A:Nat}{b:Blk}(h:look g A=some b):(A,b)∈g:=by
 unfold look at h
 cases hf:g.find? fun x=>Nat.beq x.1 A with
 |none=>rw[hf]at h;cases h
 |some x =>
  rw[hf]at h
  simp only[Option.map_some,Option.some.injEq]at h
  have h1:=List.mem_of_find?_eq_some hf
  have h2:=Nat.eq_of_beq_eq_true (List.find?_some (p:=fun x:Nat × Blk=>Nat.beq x.1 A) hf)
  rw[←h2,←h];exact h1
theorem look_of {g:SH}(hn:(g.map (·.1)).Nodup){A:Nat}{b:Blk}(h:(A,b)∈g):look g A=some b:=by
 induction g with
 |nil=>cases h
 |cons x g ih =>
  simp only[List.map_cons,List.nodup_cons]at hn
  unfold look
  rw[List.find?_cons]
  rcases List.mem_cons.1 h with rfl|h
  ·simp[Nat.beq_refl]
  ·have hne:x.1≠A:=fun e=>hn.1 (List.mem_map.2 ⟨_,h,e.symm⟩)
   rw[show Nat.beq x.1 A=false from by
    cases hb:Nat.beq x.1 A with
    |true=>exact absurd (Nat.eq_of_beq_eq_true hb) hne
    |false=>rfl]
   exact ih hn.2 h
def canon (H:Heap)(g:SH)(k:Nat):Heap:=(List.range (H.length+k)).map fun A=>match look g A with|some b=>some b|none=>H.getD A none
theorem canon_len {H:Heap}{g:SH}{k:Nat}:(canon H g k).length=H.length+k:=by simp[canon]
theorem canon_get {H:Heap}{g:SH}{k A:Nat}(h:A<H.length+k):(canon H g k)[A]?=some (match look g A with|some b=>some b|none=>H.getD A none):=by
 unfold canon;rw[List.getElem?_map,List.getElem?_range h];rfl

theorem perm_disj {l m:List Nat}{g:List Nat}(hp:g.Perm (l++m))(hn:g.Nodup):(∀x∈l,x ∉ m)∧l.Nodup:=by
 have:=hp.nodup_iff.1 hn
 rw[List.nodup_append]at this
 exact⟨fun x hx hm=>this.2.2 x hx x hm rfl,this.1⟩

theorem call_at {P:Program}{f:FuncId}{as0:List Value}{p:SH}{R:Value→SH→Prop}(hr:SRun P f as0 p R){H H':Heap}{n:Nat}(i:Inv ⟨H,p⟩ p H){k:Nat}{V:List Nat→Value}{G:List Nat→SH}
  (hfun:∀r q,R r q→∃ns,ns.length=k∧r=V ns∧Take q (G ns)) (hkeys:∀ns,ns.length=k→((G ns).map (·.1)).Perm (ns++p.map (·.1)))
  (hpar:∀(ns ms:List Nat) (ρ:Nat→Nat) (D:Nat→Prop),ns.length=k→ms.length=k→ms.map ρ=ns→(∀y∈p,ρ y.1=y.1)→(∀A∈ms,D A)→(∀y∈p,D y.1)→VR ρ D (V ms) (V ns)∧SHR ρ D p (G ms) (G ns))
  (hfree:∀A,n≤A→A<n+k→∀g,H[A]?≠some (some g)) (hin:∀x∈G (List.range' n k),H'[x.1]?=some (some x.2)) (hoth:∀A,(∀x∈G (List.range' n k),x.1≠A)→∀g,H'[A]?=some (some g)↔H[A]?=some (some g))
  {B0:Nat} {w0 w:World} {φ:Nat→Loc} {vs:Array Value} (hrel:Rel B0 w0 φ H w) (hvs:VRel φ (lens H) as0 vs) :
  Calls P f vs w fun e w'=>∃φ' v',Ext φ (lens H) φ' (lens H')∧Rel B0 w0 φ' H' w'∧e=.returned v'∧Val φ' (lens H') (V (List.range' n k)) v':=by
 unfold SRun at hr
 have h1:=hr H i
 unfold Run at h1
 refine(h1 B0 w0 φ (lens H) φ w vs (.refl _ _) hrel hvs).mono ?_
 rintro e w' ⟨φ2,r,H2,v,hext,hrel2,rfl,hv,q,hR,i2⟩
 obtain⟨ns,hk,rfl,ht⟩:=hfun r q hR
 have i3:=i2.le ht.le
 generalize hms:List.range' n k=ms at hin hoth ⊢
 have hmk:ms.length=k:=by rw[←hms,List.length_range']
 have hmem:∀A,A∈ms↔n≤A∧A<n+k:=fun A=>by rw[←hms,List.mem_range'_1]
 
 have hpk:=hkeys ns hk
 have hpm:=hkeys ms hmk
 obtain⟨hdis,hnd⟩:=perm_disj hpk i3.nd
 have hpold:∀y∈p,y.1<H.length:=fun y hy=>(List.getElem?_eq_some_iff.1 (i.sat y hy)).1
 have hpms:∀y∈p,y.1 ∉ ms:=fun y hy h=>hfree y.1 ((hmem _).1 h).1 ((hmem _).1 h).2 y.2 (i.sat y hy)
 have hns:∀x∈ns,H.length≤x:=by
  intro x hx
  rcases Nat.lt_or_ge x H.length with hlt|hge
  ·obtain⟨b,hb,e⟩:=List.mem_map.1 (hpk.mem_iff.2 (List.mem_append_left _ hx))
   obtain⟨y,hy,e2⟩:=i3.own b hb (by simp only;omega)
   exact absurd (List.mem_map.2 ⟨y,hy,by omega⟩) (hdis x hx)
  ·exact hge
 let ρ:Nat→Nat:=fun A=>if n≤A∧A<n+k then ns.getD (A-n) 0 else A
 have hρo:∀A,A ∉ ms→ρ A=A:=fun A h=>if_neg (fun k=>h ((hmem A).2 k))
 have hρe:∀A,A∈ms→ρ A=ns.getD (A-n) 0:=fun A h=>if_pos ((hmem A).1 h)
 have hρn:∀A,A∈ms→ρ A∈ns:=fun A h=>by
  obtain⟨g1,g2⟩:=(hmem A).1 h
  rw[hρe A h,List.getD_eq_getElem?_getD,List.getElem?_eq_getElem (by omega)]
  exact List.getElem_mem _
 have hmap:ms.map ρ=ns:=by
  apply List.ext_getElem?
  intro j
  rw[List.getElem?_map]
  rcases Nat.lt_or_ge j k with hj|hj
  ·have e1:ms[j]?=some (n+j):=by rw[←hms,List.getElem?_range' hj,Nat.one_mul]
   rw[e1,Option.map_some,hρe _ ((hmem _).2 ⟨by omega,by omega⟩),Nat.add_sub_cancel_left,List.getD_eq_getElem?_getD,List.getElem?_eq_getElem (by omega)];rfl
  ·rw[List.getElem?_eq_none (by omega),List.getElem?_eq_none (by omega)];rfl
 have hρinj:∀A A',(A∈ms∨A<H.length)→(A'∈ms∨A'<H.length)→ρ A=ρ A'→A=A':=by
  intro A A' hA hA' he
  by_cases h1:A∈ms <;> by_cases h2:A'∈ms
  ·rw[hρe A h1,hρe A' h2]at he
   obtain⟨a1,a2⟩:=(hmem A).1 h1
   obtain⟨b1,b2⟩:=(hmem A').1 h2
   rw[List.getD_eq_getElem?_getD,List.getD_eq_getElem?_getD,List.getElem?_eq_getElem (by omega),List.getElem?_eq_getElem (by omega)]at he
   have he':ns[A-n]'(by omega)=ns[A'-n]'(by omega):=he
   have hpw:=List.pairwise_iff_getElem.1 hnd
   rcases Nat.lt_trichotomy (A-n) (A'-n)with h|h|h
   ·exact absurd he' (hpw _ _ (by omega) (by omega) h)
   ·omega
   ·exact absurd he'.symm (hpw _ _ (by omega) (by omega) h)
  ·rw[hρo A' h2]at he
   have:=hns _ (hρn A h1)
   rcases hA' with h|h
   ·exact absurd h h2
   ·omega
  ·rw[hρo A h1]at he
   have:=hns _ (hρn A' h2)
   rcases hA with h|h
   ·exact absurd h h1
   ·omega
  ·rw[hρo A h1,hρo A' h2]at he;exact he
 obtain⟨hV,hG⟩:=hpar ns ms ρ (fun A=>A∈ms∨A∈p.map (·.1)) hk hmk hmap (fun y hy=>hρo _ (hpms y hy)) (fun A h=>.inl h) (fun y hy=>.inr (List.mem_map.2 ⟨y,hy,rfl⟩))
 
 have hkeyG:∀A,(A∈ms∨A∈p.map (·.1))→∃b,(A,b)∈G ms:=by
  intro A hA
  obtain⟨b,hb,e⟩:=List.mem_map.1 (hpm.mem_iff.2 (by rcases hA with h|h;exact List.mem_append_left _ h;exact List.mem_append_right _ h))
  exact⟨b.2,by rw[←e];exact hb⟩
 have hget:∀A g,H'[A]?=some (some g)→(A∈ms∨A<H.length)∧((H2[ρ A]?=some (some g)∧H[A]?=some (some g)∧A ∉ ms)∨∃c',H2[ρ A]?=some (some ⟨c',g.ro⟩)∧VRs ρ (fun A=>A∈ms∨A∈p.map (·.1)) g.cells c'):=by
  intro A g hA
  by_cases hx:∃b,(A,b)∈G ms
  ·obtain⟨b,hb⟩:=hx
   have:=hin _ hb
   rw[hA]at this
   simp only[Option.some.injEq]at this
   subst this
   have hdom:A∈ms∨A<H.length:=by
    rcases List.mem_append.1 (hpm.mem_iff.1 (List.mem_map.2 ⟨_,hb,rfl⟩))with h|h
    ·exact .inl h
    ·obtain⟨y,hy,e⟩:=List.mem_map.1 h
     have:=hpold y hy
     exact .inr (by simp only at e;omega)
   refine⟨hdom,?_⟩
   rcases hG.get (fun y hy=>hρo _ (hpms y hy)) _ hb with⟨g1,g2⟩|⟨c',g1,g2⟩
   ·exact .inl ⟨by rw[hρo A (hpms _ g1)];exact i3.sat _ g2,i.sat _ g1,hpms _ g1⟩
   ·exact .inr ⟨c',i3.sat _ g1,g2⟩
  ·have hno:∀x∈G ms,x.1≠A:=fun x hxm e=>hx ⟨x.2,by rw[←e];exact hxm⟩
   have hA2:=(hoth A hno g).1 hA
   have hl:=(List.getElem?_eq_some_iff.1 hA2).1
   have hnm:A ∉ ms:=fun h=>hx (hkeyG A (.inl h))
   refine⟨.inr hl,.inl ⟨?_,hA2,hnm⟩⟩
   rw[hρo A hnm,i3.keep A hl fun y hy e=>hx (hkeyG A (.inr (List.mem_map.2 ⟨y,hy,e⟩)))]
   exact hA2
 have hlen:∀A g,H'[A]?=some (some g)→lens H' A=lens H2 (ρ A):=by
  intro A g hA
  rw[lens_of hA]
  rcases(hget A g hA).2 with⟨g1,_⟩|⟨c',g1,g2⟩
  ·rw[lens_of g1]
  ·rw[lens_of g1,g2.len]
 have hlenD:∀A,(A∈ms∨A∈p.map (·.1))→lens H' A=lens H2 (ρ A):=fun A h=>by
  obtain⟨b,hb⟩:=hkeyG A h
  exact hlen A b (hin _ hb)
 
 have hlive:∀A m,lens H A=some m→A ∉ ms∧∃g,H'[A]?=some (some g):=by
  intro A m hA
  obtain⟨g,h1,_⟩:=lens_live hA
  have hnm:A ∉ ms:=fun h=>hfree A ((hmem _).1 h).1 ((hmem _).1 h).2 g h1
  refine⟨hnm,?_⟩
  by_cases hx:∃b,(A,b)∈G ms
  ·obtain⟨b,hb⟩:=hx;exact⟨b,hin _ hb⟩
  ·exact⟨g,(hoth A (fun x hxm e=>hx ⟨x.2,by rw[←e];exact hxm⟩) g).2 h1⟩
 have hold:∀A,(∃m,lens H A=some m)→φ2 (ρ A)=φ2 A∧lens H' A=lens H2 A:=by
  rintro A ⟨m,hA⟩
  obtain⟨h1,g,h2⟩:=hlive A m hA
  exact⟨by rw[hρo A h1],by rw[hlen A g h2,hρo A h1]⟩
 refine⟨fun A=>φ2 (ρ A),v,fun A n hA=>?_,⟨hrel2.below,hrel2.b0,fun A g hA=>?_,fun A g hA hro=>?_,fun A A' g g' hA hro hA' he=>?_⟩,rfl,hV.val hlenD hv⟩
 ·obtain⟨n',g1,g2⟩:=hext A n hA
  obtain⟨q1,q2⟩:=hold A ⟨n,hA⟩
  refine⟨n',by rw[q2];exact g1,?_⟩
  show(n'=n∧φ2 (ρ A)=φ A)∨(n<n'∧((φ A).mp=true→φ2 (ρ A)=φ A))
  rw[q1];exact g2
 ·obtain⟨hlt,hc⟩:=hget A g hA
  rcases hc with⟨g1,g2,g3⟩|⟨c',g1,g2⟩
  ·obtain⟨o,c,k1,k2,k3,k5⟩:=(hrel2.blk _ _ g1).any
   obtain⟨o0,c0,_,_,_,j5⟩:=(hrel.blk _ _ g2).any
   refine⟨o,c,k1,k2,k3,fun j x hx=>?_⟩
   obtain⟨x',m1,m2⟩:=k5 j x hx
   obtain⟨x0,_,m3⟩:=j5 j x hx
   exact⟨x',m1,old_val (D:=fun B=>∃m,lens H B=some m) (fun B m h=>⟨m,h⟩) hold m2 m3⟩
  ·obtain⟨o,c,k1,k2,k3,k5⟩:=(hrel2.blk _ _ g1).any
   refine⟨o,c,k1,?_,by rw[g2.len];exact k3,fun j x hx=>?_⟩
   ·cases k2 with
    |cells hm hs hf=>exact .cells hm hs hf
    |map hm hb hl=>exact .map hm hb (by rw[g2.len];exact hl)
   obtain⟨y,m1,m2⟩:=g2.get hx
   obtain⟨x',m3,m4⟩:=k5 j y m1
   exact⟨x',m3,m2.val hlenD m4⟩
 ·rcases(hget A g hA).2 with⟨g1,_⟩|⟨c',g1,_⟩
  ·exact hrel2.own _ _ g1 hro
  ·exact hrel2.own _ _ g1 hro
 ·obtain⟨d1,hc⟩:=hget A g hA
  obtain⟨d2,hc'⟩:=hget A' g' hA'
  obtain⟨y,hy⟩:∃y,H2[ρ A']?=some (some y):=by rcases hc' with⟨g1,_⟩|⟨c',g1,_⟩ <;> exact⟨_,g1⟩
  refine hρinj A' A d2 d1 ?_
  rcases hc with⟨g1,_⟩|⟨c',g1,_⟩
  ·exact hrel2.inj _ _ _ _ g1 hro hy he
  ·exact hrel2.inj _ _ _ _ g1 hro hy he
theorem canon_in {p:SH}{H:Heap}(i:Inv ⟨H,p⟩ p H){k:Nat}{G:List Nat→SH}(hkeys:∀ns,ns.length=k→((G ns).map (·.1)).Perm (ns++p.map (·.1))) :
  (∀x∈G (List.range' H.length k),(canon H (G (List.range' H.length k)) k)[x.1]?=some (some x.2))∧((G (List.range' H.length k)).map (·.1)).Nodup∧(∀x∈G (List.range' H.length k),x.1<H.length+k)∧∀x∈G (List.range' H.length k),x.1<H.length→∃y∈p,y.1=x.1:=by
 generalize hms:List.range' H.length k=ms
 have hmk:ms.length=k:=by rw[←hms,List.length_range']
 have hmem:∀A,A∈ms↔H.length≤A∧A<H.length+k:=fun A=>by rw[←hms,List.mem_range'_1]
 have hpm:=hkeys ms hmk
 have hpold:∀y∈p,y.1<H.length:=fun y hy=>(List.getElem?_eq_some_iff.1 (i.sat y hy)).1
 have hmnd:((G ms).map (·.1)).Nodup:=by
  refine hpm.nodup_iff.2 (List.nodup_append.2 ⟨by rw[←hms];exact List.nodup_range',i.nd,?_⟩)
  rintro a ha b hb rfl
  obtain⟨y,hy,rfl⟩:=List.mem_map.1 hb
  have:=hpold y hy
  have:=(hmem _).1 ha
  omega
 have hall:∀x∈G ms,x.1<H.length+k:=by
  intro x hx
  rcases List.mem_append.1 (hpm.mem_iff.1 (List.mem_map.2 ⟨x,hx,rfl⟩))with h|h
  ·exact((hmem _).1 h).2
  ·obtain⟨y,hy,e⟩:=List.mem_map.1 h;have:=hpold y hy;omega
 refine⟨fun x hx=>?_,hmnd,hall,fun x hx hlt=>?_⟩
 ·rw[canon_get (hall x hx),look_of hmnd (show(x.1,x.2)∈G ms from hx)]
 ·rcases List.mem_append.1 (hpm.mem_iff.1 (List.mem_map.2 ⟨x,hx,rfl⟩))with h|h
  ·have:=((hmem _).1 h).1;omega
  ·obtain⟨y,hy,e⟩:=List.mem_map.1 h;exact⟨y,hy,e⟩
theorem canon_inv {E:Ent}{h p:SH}{H:Heap}(i0:Inv E h H)(ht:Take h p){k:Nat}{G:List Nat→SH}(hkeys:∀ns,ns.length=k→((G ns).map (·.1)).Perm (ns++p.map (·.1))) :
  Inv E (G (List.range' H.length k)) (canon H (G (List.range' H.length k)) k):=by
 have i:=i0.le ht.le
 obtain⟨h1,h2,h3,h4⟩:=canon_in i.refl hkeys
 refine⟨h1,h2,fun x hx hlt=>?_,by rw[canon_len];have:=i.len;omega,fun A hA hne=>?_⟩
 ·obtain⟨y,hy,e⟩:=h4 x hx (by have:=i.len;omega)
  obtain⟨z,hz,e2⟩:=i.own y hy (by omega)
  exact⟨z,hz,by omega⟩
 ·have hAl:A<H.length:=by have:=i.len;omega
  rw[canon_get (by omega)]
  cases hl:look (G (List.range' H.length k)) A with
  |some b =>
   obtain⟨y,hy,e⟩:=h4 _ (look_mem hl) hAl
   obtain⟨z,hz,e2⟩:=i.own y hy (by simp only at e;omega)
   exact absurd (by simp only at e;omega) (hne z hz)
  |none =>
   show some (H.getD A none)=_
   rw[List.getD_eq_getElem?_getD,List.getElem?_eq_getElem hAl,Option.getD_some,←List.getElem?_eq_getElem hAl]
   exact i.keep A hA hne
theorem rho_pick {p p1:SH}{ρ:Nat→Nat}{A:Nat}{b:Blk}(hρ:∀y∈p,ρ y.1=y.1)(h:Pick p A b p1):ρ A=A:=hρ _ h.mem
theorem dom_pick {p p1:SH}{D:Nat→Prop}{A:Nat}{b:Blk}(hD:∀y∈p,D y.1)(h:Pick p A b p1):D A:=hD _ h.mem
theorem VR.slc' {ρ:Nat→Nat}{D:Nat→Prop}{A A' o n len fl:Nat}(e:ρ A=A')(h:D A):VR ρ D (gsl A o n len fl) (gsl A' o n len fl):=by subst e;exact .slc h
theorem bytesV_const (l:List UInt8):∀v∈bytesV l,yJ v=true:=by
 intro v hv;unfold bytesV at hv;obtain⟨_,_,rfl⟩:=List.mem_map.1 hv;rfl
theorem map_const {α:Type}{f:α→Value}{l:List α}(h:∀x,yJ (f x)=true):∀v∈l.map f,yJ v=true:=by
 intro v hv;obtain⟨_,_,rfl⟩:=List.mem_map.1 hv;exact h _
theorem recs_const {α:Type}{f:α→List Value}{l:List α}(h:∀x,∀v∈f x,yJ v=true):∀v∈recs f l,yJ v=true:=by
 induction l with
 |nil=>intro v hv;cases hv
 |cons x r ih =>
  intro v hv
  rcases List.mem_append.1 hv with hv|hv
  ·exact h x v hv
  ·exact ih v hv

section
variable {P:Program} {sz:Nat} {ops:Array Oper} {Q:SPost} {rest:List Oper} {a:AF} {h:SH} {t:Nat} {ty:TypeId} {pos:String} {aft:Array Edge}
theorem yV {x:Operand}{xs:List Operand}{ts:Array TypeId}{f:FuncId}{first captured:Array Value}{as0:List Value}{R:Value→SH→Prop}{i0:Nat}{last:SPast}{cl:SCl}{k:Nat}{V:List Nat→Value}{G:List Nat→SH}{p:SH}
  (hx:ev a x=some (.func (.func f) first captured)) (hxs:evs a xs=some as0) (hf:enters P f=true) (hN:Nat.blt t sz=true) (hr:SRun P f (first.toList++as0++captured.toList) p R) (ht:Take h p)
  (hfun:∀r q,R r q→∃ns,ns.length=k∧r=V ns∧Take q (G ns)) (hkeys:∀ns,ns.length=k→((G ns).map (·.1)).Perm (ns++p.map (·.1)))
  (hpar:∀(ns ms:List Nat) (ρ:Nat→Nat) (D:Nat→Prop),ns.length=k→ms.length=k→ms.map ρ=ns→(∀y∈p,ρ y.1=y.1)→(∀A∈ms,D A)→(∀y∈p,D y.1)→VR ρ D (V ms) (V ns)∧SHR ρ D p (G ms) (G ns))
  (hok:∀ms,ms.length=k→(Mode.draw i0 last cl).efOk ops (G ms)) (kk:∀ms,ms.length=k→GO ((Mode.draw i0 last cl).ef h) P sz ops Q rest ((t,V ms)::a) (G ms)) :
  GO (.draw i0 last cl) P sz ops Q (⟨some t,.call { callee:=.value x,args:=xs.toArray,argTypes:=ts },ty,pos,aft,none⟩::rest) a h:=by
 unfold GO
 intro E H n0 pH i ip
 have hk:(List.range' H.length k).length=k:=List.length_range'
 have kk':=kk _ hk
 unfold GO at kk'
 obtain⟨_,g⟩:=kk' E _ n0 ((true,i0,H,canon H (G (List.range' H.length k)) k)::pH) (canon_inv i ht hkeys) ⟨⟨rfl,rfl,i,fun h=>by cases h⟩,ip⟩
 refine⟨_,.eff k hN trivial canon_len (fun X a' hag hX=>⟨fun B0 w0 φ w ac hrel hfr=>?_⟩) (efOk_l ip (hok _ hk)) (efOk_cl (canon_inv i ht hkeys) (hok _ hk)) g⟩
 have hx':ev a' x=some (.func (.func f) first captured):=(hag.ev (by simp[Op.operands,Call.operands])).trans hx
 have hxs':evs a' xs=some as0:=(evs_congr fun y hy=>hag.ev (by simp[Op.operands,Call.operands,hy])).trans hxs
 have e1:=zW hfr hx'
 have e2:=evs_rel hfr hxs'
 refine .inr ?_
 generalize hu:ac.eval x=u at e1
 cases e1 with
 |func _ _ b _ d q1 q2 q3 q4 =>
  have hvr:=((VRel.of_arrays q1 q2).append e2).append (VRel.of_arrays q3 q4)
  obtain⟨c1,c2,c3,c4⟩:=canon_in (i.le ht.le).refl hkeys
  refine⟨f,b++(xs.map ac.eval).toArray++d,?_,call_at hr ((i.app X).le ht.le).refl hfun hkeys hpar (fun A h1 h2 g hg=>?_) (fun x hx=>?_) (fun A hA g=>?_) hrel hvr⟩
  rotate_left
  ·have:=hX (A-H.length) (by omega)
   rw[List.getElem?_append_right h1,this]at hg;cases hg
  ·rw[List.getElem?_append_left (by rw[canon_len];exact c3 x hx)];exact c1 x hx
  ·rcases Nat.lt_or_ge A (H.length+k)with hl|hl
   ·rw[List.getElem?_append_left (by rw[canon_len];exact hl),canon_get hl]
    have hlk:look (G (List.range' H.length k)) A=none:=by
     cases hq:look (G (List.range' H.length k)) A with
     |none=>rfl
     |some b=>exact absurd rfl (hA _ (look_mem hq))
    rw[hlk]
    rcases Nat.lt_or_ge A H.length with hl2|hl2
    ·rw[List.getElem?_append_left hl2]
     show some (H.getD A none)=_↔_
     rw[List.getD_eq_getElem?_getD,List.getElem?_eq_getElem hl2];rfl
    ·rw[List.getElem?_append_right hl2,hX (A-H.length) (by omega)]
     show some (H.getD A none)=_↔_
     rw[List.getD_eq_getElem?_getD,List.getElem?_eq_none hl2];rfl
   ·rw[List.getElem?_append_right (by rw[canon_len];exact hl),canon_len,List.getElem?_drop,List.getElem?_append_right (by omega),show k+(A-(H.length+k))=A-H.length by omega]
  unfold execOp
  simp only[resolve,List.map_toArray,hu,Deferred.ofValue,Sem.run_bind,Sem.run_pure,Result.andThen_ok,invoke]
  exact run_callFunc_enters hf _ w
theorem o_callE0 {x:Operand}{xs:List Operand}{ts:Array TypeId}{f:FuncId}{first captured:Array Value}{as0:List Value}{v:Value}{g:SH}{i0:Nat}{last:SPast}{cl:SCl}{p:SH}
  (hx:ev a x=some (.func (.func f) first captured)) (hxs:evs a xs=some as0) (hf:enters P f=true) (hN:Nat.blt t sz=true) (hr:SRun P f (first.toList++as0++captured.toList) p (fun r q=>r=v∧q=g)∧Take h p)
  (hkeys:(g.map (·.1)).Perm (p.map (·.1))) (hpar:∀(ρ:Nat→Nat) (D:Nat→Prop),(∀y∈p,ρ y.1=y.1)→(∀y∈p,D y.1)→VR ρ D v v∧SHR ρ D p g g)
  (hok:(Mode.draw i0 last cl).efOk ops g) (kk:GO ((Mode.draw i0 last cl).ef h) P sz ops Q rest ((t,v)::a) g) :
  GO (.draw i0 last cl) P sz ops Q (⟨some t,.call { callee:=.value x,args:=xs.toArray,argTypes:=ts },ty,pos,aft,none⟩::rest) a h :=
 yV (k:=0) (V:=fun _=>v) (G:=fun _=>g) hx hxs hf hN hr.1 hr.2 (fun r q ⟨h1,h2⟩=>⟨[],rfl,h1,h2▸.nil⟩) (fun ns h=>by rw[List.length_eq_zero_iff.1 h];exact hkeys)
  (fun _ _ ρ D _ _ _ h1 _ h2=>hpar ρ D h1 h2) (fun _ _=>hok) (fun _ _=>kk)
theorem yU {x:Operand}{xs:List Operand}{ts:Array TypeId}{f:FuncId}{first captured:Array Value}{as0:List Value}{v:Nat→Value}{g:Nat→SH}{i0:Nat}{last:SPast}{cl:SCl}{p:SH}
  (hx:ev a x=some (.func (.func f) first captured)) (hxs:evs a xs=some as0) (hf:enters P f=true) (hN:Nat.blt t sz=true) (hr:SRun P f (first.toList++as0++captured.toList) p (fun r q=>∃A,r=v A∧q=g A)∧Take h p)
  (hkeys:∀A,((g A).map (·.1)).Perm (A::p.map (·.1))) (hpar:∀(A A':Nat) (ρ:Nat→Nat) (D:Nat→Prop),ρ A=A'→D A→(∀y∈p,ρ y.1=y.1)→(∀y∈p,D y.1)→VR ρ D (v A) (v A')∧SHR ρ D p (g A) (g A'))
  (hok:∀A,(Mode.draw i0 last cl).efOk ops (g A)) (kk:∀A,GO ((Mode.draw i0 last cl).ef h) P sz ops Q rest ((t,v A)::a) (g A)) :
  GO (.draw i0 last cl) P sz ops Q (⟨some t,.call { callee:=.value x,args:=xs.toArray,argTypes:=ts },ty,pos,aft,none⟩::rest) a h:=by
 have one:∀{ns:List Nat},ns.length=1→∃A,ns=[A]:=fun {ns} h=>by
  match ns,h with
  |[A],_=>exact⟨A,rfl⟩
 refine yV (k:=1) (V:=fun ns=>v ns.head!) (G:=fun ns=>g ns.head!) hx hxs hf hN hr.1 hr.2 (fun r q ⟨A,h1,h2⟩=>⟨[A],rfl,h1,h2▸.nil⟩) (fun ns h=>?_) (fun ns ms ρ D h1 h2 h3 h4 h5 h6=>?_) (fun ms h=>?_) (fun ms h=>?_)
 ·obtain⟨A,rfl⟩:=one h;exact hkeys A
 ·obtain⟨A,rfl⟩:=one h1;obtain⟨B,rfl⟩:=one h2
  simp only[List.map_cons,List.map_nil,List.cons.injEq,and_true]at h3
  exact hpar B A ρ D h3 (h5 B (by simp)) h4 h6
 ·obtain⟨A,rfl⟩:=one h;exact hok A
 ·obtain⟨A,rfl⟩:=one h;exact kk A
end

theorem two_pow_le {k n:Nat}(h:k≤n):(2:Int)^k≤2^n:=by
 have:=Nat.pow_le_pow_right (n:=2) (by decide) h
 exact_mod_cast this
theorem two_pow_pos (k:Nat):(0:Int)<2^k:=Int.pow_pos (by decide)
theorem ofInt_toNat64 (v:Int):((BitVec.ofInt 64 v).toNat:Int)=v%18446744073709551616:=by
 rw[BitVec.toNat_ofInt]
 omega
theorem w_mask (v:Int){k:Nat}(h:k≤62):IntKind.i64.wrap ((BitVec.ofInt IntKind.i64.bits v&&&BitVec.ofInt IntKind.i64.bits (2^k-1)).toNat:Int)=v%2^k:=by
 have h1:=two_pow_le (k:=k) (n:=62) h
 have h2:=two_pow_pos k
 rw[show(2:Int)^62=4611686018427387904 from rfl]at h1
 have h3:=Int.emod_nonneg v (show(2:Int)^k≠0 by omega)
 have h4:=Int.emod_lt_of_pos v h2
 have hn:(BitVec.ofInt 64 ((2:Int)^k-1)).toNat=2^k-1:=by
  have e:((2:Int)^k-1)=((2^k-1:Nat):Int):=by
   have:0<2^k:=Nat.two_pow_pos k
   rw[Int.ofNat_sub (by omega)];norm_cast
  have hle:2^k≤2^62:=Nat.pow_le_pow_right (by decide) h
  rw[e,BitVec.ofInt_natCast,BitVec.toNat_ofNat,Nat.mod_eq_of_lt]
  have:(2:Nat)^62<2^64:=by decide
  omega
 rw[show IntKind.i64.bits=64 from rfl,BitVec.toNat_and,hn,Nat.and_two_pow_sub_one_eq_mod]
 have e:(((BitVec.ofInt 64 v).toNat%2^k:Nat):Int)=v%2^k:=by
  rw[Int.natCast_emod,ofInt_toNat64]
  have:((2^k:Nat):Int)=2^k:=by norm_cast
  rw[this,Int.emod_emod_of_dvd]
  rw[show(18446744073709551616:Int)=2^k*2^(64-k)by rw[←Int.pow_add,show k+(64-k)=64 by omega];rfl]
  exact Int.dvd_mul_right _ _
 rw[e,IntWalk.i64_in _ (by omega)]
end Go.Gh
end
