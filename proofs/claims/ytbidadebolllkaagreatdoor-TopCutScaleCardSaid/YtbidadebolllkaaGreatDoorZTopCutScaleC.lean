/- Part 3 of the proof of the law TopCutScale: texts merged. No condition. -/
import Derived.Test.YtbidadebolllkaaGreatDoorZTopCutScaleB
import Derived.Test.YtbidadebolllkaaGreatDoorProg
import Derived.KernelRfl
set_option linter.unusedSimpArgs false
set_option linter.unusedVariables false
section
set_option maxRecDepth 4000
namespace Go.Gh
open Go.RowKit

abbrev SH :=List (Nat × Blk)
structure Ent where
 H0:zI
 p:SH
structure Inv (E:Ent)(h:SH)(H:zI):Prop where
 sat:∀x∈h,H[x.1]?=some x.2
 nd:(h.map (·.1)).Nodup
 own:∀x∈h,x.1<E.H0.length->∃y∈E.p,y.1=x.1
 len:E.H0.length<=H.length
 keep:∀A,A<E.H0.length->(∀y∈E.p,y.1≠A)->H[A]?=E.H0[A]?

structure Le (h h1:SH):Prop where
 mem:∀x∈h1,x∈h
 nd:(h.map (·.1)).Nodup->(h1.map (·.1)).Nodup

theorem Le.refl (h:SH):Le h h:=⟨λ_ hx=>hx,λhn=>hn⟩
theorem Le.trans {h h1 h2:SH}(a:Le h h1)(b:Le h1 h2):Le h h2:=⟨λx hx=>a.mem x (b.mem x hx),λhn=>b.nd (a.nd hn)⟩
theorem Inv.le {E:Ent}{h h1:SH}{H:zI}(i:Inv E h H)(l:Le h h1):Inv E h1 H :=
 ⟨λx hx=>i.sat x (l.mem x hx),l.nd i.nd,λx hx=>i.own x (l.mem x hx),i.len,i.keep⟩

class inductive Pick:SH->Nat->outParam Blk->outParam SH->Prop
 |head {A b h}:Pick ((A,b)::h) A b h
 |tail {A b x h h1}:Pick h A b h1->Pick (x::h) A b (x::h1)
instance Pick.t {A:Nat}{b:Blk}{x:Nat × Blk}{h h1:SH}[p:Pick h A b h1]:Pick (x::h) A b (x::h1):=.tail p
attribute [instance] Pick.head
theorem pk {h h1:SH}{A:Nat}{b:Blk}[p:Pick h A b h1]:Pick h A b h1:=p
theorem Pick.mem {h h1:SH}{A:Nat}{b:Blk}(p:Pick h A b h1):(A,b)∈h:=by
 induction p with
 |head=>exact List.mem_cons_self
 |tail _ ih=>exact List.mem_cons_of_mem _ ih
theorem Pick.perm {h h1:SH}{A:Nat}{b:Blk}(p:Pick h A b h1):List.Perm h ((A,b)::h1):=by
 induction p with
 |head=>exact .refl _
 |@tail A b x h h1 _ ih=>exact(List.Perm.cons x ih).trans (.swap _ _ _)
theorem Pick.le {h h1:SH}{A:Nat}{b:Blk}(p:Pick h A b h1):Le h ((A,b)::h1) :=
 ⟨λx hx=>p.perm.mem_iff.2 hx,λhn=>(p.perm.map (·.1)).nodup_iff.1 hn⟩

inductive zA :SH->SH->Prop
 |nil {h}:zA h h
 |cons {h A b h1 r}:Pick h A b h1->zA h1 r->zA h ((A,b)::r)
 |consE {h A b b' h1 r}:Pick h A b h1->b=b'->zA h1 r->zA h ((A,b')::r)
 |drop {x h r}:zA h r->zA (x::h) r
theorem zA.c {h h1 r:SH}{A:Nat}{b:Blk}[p:Pick h A b h1](t:zA h1 r):zA h ((A,b)::r):=.cons p t
theorem zA.cE {h h1 r:SH}{A:Nat}{b b':Blk}[p:Pick h A b h1](e:b=b')(t:zA h1 r):zA h ((A,b')::r):=.consE p e t
theorem zPx {h h1:SH}{A:Nat}{b:Blk}(l:Le h h1):Le ((A,b)::h) ((A,b)::h1):=by
 refine⟨λx hx=>?_,λhn=>?_⟩
 ·rcases List.mem_cons.1 hx with rfl|hx
  ·exact List.mem_cons_self
  ·exact List.mem_cons_of_mem _ (l.mem x hx)
 ·simp only[List.map_cons,List.nodup_cons]at hn ⊢
  refine⟨λhm=>hn.1 ?_,l.nd hn.2⟩;obtain⟨x,hx,e⟩:=List.mem_map.1 hm;exact List.mem_map.2 ⟨x,l.mem x hx,e⟩
theorem zA.le {h h1:SH}(t:zA h h1):Le h h1:=by
 induction t with
 |nil=>exact .refl _
 |cons p _ ih=>exact p.le.trans (zPx ih)
 |consE p e _ ih=>subst e;exact p.le.trans (zPx ih)
 |drop _ ih=>exact⟨λx hx=>List.mem_cons_of_mem _ (ih.mem x hx),λhn=>ih.nd (List.nodup_cons.1 hn).2⟩

class inductive Upd:SH->Nat->outParam Blk->Blk->outParam SH->Prop
 |head {A b b' h}:Upd ((A,b)::h) A b b' ((A,b')::h)
 |tail {A b b' x h h'}:Upd h A b b' h'->Upd (x::h) A b b' (x::h')
instance Upd.t {A:Nat}{b b':Blk}{x:Nat × Blk}{h h':SH}[p:Upd h A b b' h']:Upd (x::h) A b b' (x::h'):=.tail p
attribute [instance] Upd.head
theorem up {h h':SH}{A:Nat}{b b':Blk}[p:Upd h A b b' h']:Upd h A b b' h':=p
theorem Upd.mem {h h':SH}{A:Nat}{b b':Blk}(p:Upd h A b b' h'):(A,b)∈h:=by
 induction p with
 |head=>exact List.mem_cons_self
 |tail _ ih=>exact List.mem_cons_of_mem _ ih
theorem Upd.keys {h h':SH}{A:Nat}{b b':Blk}(p:Upd h A b b' h'):h'.map (·.1)=h.map (·.1):=by
 induction p with
 |head=>rfl
 |tail _ ih=>simp only[List.map_cons,ih]
theorem Upd.get {h h':SH}{A:Nat}{b b':Blk}(p:Upd h A b b' h')(hn:(h.map (·.1)).Nodup):∀x∈h',x=(A,b')\/(x.1≠A/\x∈h):=by
 induction p with
 |@head A b b' h =>
  intro x hx;simp only[List.map_cons,List.nodup_cons]at hn;rcases List.mem_cons.1 hx with rfl|hx
  ·exact .inl rfl
  ·exact .inr ⟨λe=>hn.1 (List.mem_map.2 ⟨x,hx,e⟩),List.mem_cons_of_mem _ hx⟩
 |@tail A b b' y h h' p ih =>
  intro x hx;simp only[List.map_cons,List.nodup_cons]at hn;rcases List.mem_cons.1 hx with rfl|hx
  ·refine .inr ⟨λe=>hn.1 (List.mem_map.2 ⟨_,p.mem,e.symm⟩),List.mem_cons_self⟩
  ·rcases ih hn.2 x hx with h1|⟨h1,h2⟩
   ·exact .inl h1
   ·exact .inr ⟨h1,List.mem_cons_of_mem _ h2⟩

theorem Inv.look {E:Ent}{h:SH}{H:zI}(i:Inv E h H){A:Nat}{b:Blk}{h1:SH}(p:Pick h A b h1):H[A]?=some (some b):=i.sat _ p.mem

theorem Inv.upd {E:Ent}{h h':SH}{H:zI}(i:Inv E h H){A:Nat}{b b':Blk}(p:Upd h A b b' h'):Inv E h' (H.set A (some b')):=by
 have hA:A<H.length:=(List.getElem?_eq_some_iff.1 (i.sat _ p.mem)).1;refine⟨λx hx=>?_,by rw[p.keys];exact i.nd,λx hx hlt=>?_,by simp[i.len],λB hB hne=>?_⟩
 ·rcases p.get i.nd x hx with rfl|⟨hne,hx⟩
  ·simp[hA]
  ·rw[List.getElem?_set_ne (λe=>hne e.symm)];exact i.sat x hx
 ·rcases p.get i.nd x hx with rfl|⟨hne,hx⟩
  ·exact i.own (A,b) p.mem hlt
  ·exact i.own x hx hlt
 ·rw[List.getElem?_set_ne (λe=>?_)]
  ·exact i.keep B hB hne
  ·subst e
   obtain⟨y,hy,e⟩:=i.own _ p.mem hB;exact hne y hy e

theorem Inv.new {E:Ent}{h:SH}{H:zI}(i:Inv E h H)(b:Blk):Inv E ((H.length,b)::h) (H++[some b]):=by
 refine⟨λx hx=>?_,?_,λx hx hlt=>?_,by simp;have:=i.len;omega,λB hB hne=>?_⟩
 ·rcases List.mem_cons.1 hx with rfl|hx
  ·simp
  ·have:=i.sat x hx
   rw[List.getElem?_append_left (List.getElem?_eq_some_iff.1 this).1];exact this
 ·simp only[List.map_cons,List.nodup_cons]
  refine⟨λhm=>?_,i.nd⟩;obtain⟨x,hx,e⟩:=List.mem_map.1 hm;have:=(List.getElem?_eq_some_iff.1 (i.sat x hx)).1;omega
 ·rcases List.mem_cons.1 hx with rfl|hx
  ·have:=i.len;simp only at hlt;omega
  ·exact i.own x hx hlt
 ·rw[List.getElem?_append_left (by have:=i.len;omega)]
  exact i.keep B hB hne

theorem Inv.comp {E:Ent}{h q:SH}{H H':zI}(i:Inv E h H)(j:Inv ⟨H,h⟩ q H'):Inv E q H':=by
 refine⟨j.sat,j.nd,λx hx hlt=>?_,Nat.le_trans i.len j.len,λA hA hne=>?_⟩
 ·obtain⟨y,hy,e⟩:=j.own x hx (by have:=i.len;simp only;omega)
  obtain⟨z,hz,e2⟩:=i.own y hy (by omega);exact⟨z,hz,by omega⟩
 ·rw[j.keep A (by have:=i.len;simp only;omega) λy hy e=>?_]
  ·exact i.keep A hA hne
  ·obtain⟨z,hz,e2⟩:=i.own y hy (by omega)
   exact hne z hz (by omega)
theorem Inv.start {h:SH}{H:zI}(hs:∀x∈h,H[x.1]?=some x.2)(hn:(h.map (·.1)).Nodup):Inv ⟨H,h⟩ h H :=
 ⟨hs,hn,λx hx _=>⟨x,hx,rfl⟩,Nat.le_refl _,λ_ _ _=>rfl⟩
theorem Inv.refl {E:Ent}{h:SH}{H:zI}(i:Inv E h H):Inv ⟨H,h⟩ h H:=.start i.sat i.nd

theorem Inv.app {E:Ent}{h:SH}{H:zI}(i:Inv E h H)(X:zI):Inv E h (H++X):=by
 refine⟨λx hx=>?_,i.nd,i.own,by simp;have:=i.len;omega,λA hA hne=>?_⟩
 ·have:=i.sat x hx
  rw[List.getElem?_append_left (List.getElem?_eq_some_iff.1 this).1];exact this
 ·rw[List.getElem?_append_left (by have:=i.len;omega)]
  exact i.keep A hA hne

abbrev wA :=Exit->AF->SH->Prop
def SQ (E:Ent)(Q:wA):xR:=λe a H=>∃h,Q e a h/\Inv E h H

def zH (P:Program)(f:FuncId)(as0:List Value)(p:SH)(R:Value->SH->Prop):Prop :=
 ∀H,Inv ⟨H,p⟩ p H->Run P f as0 H λr H'=>∃q,R r q/\Inv ⟨H,p⟩ q H'

def SWp (P:Program)(sz:Nat)(c:Code)(Q:wA)(a:AF)(h:SH):Prop :=
 ∀E H n0,Inv E h H->AWp P ⟨sz,n0⟩ c (SQ E Q) a H

abbrev SCl :=List (Nat × (SH->Prop))
abbrev qP :=List (Bool × Nat × SH × Option (Nat × Blk))
inductive Mode |seq|draw (i:Nat) (last:qP) (cl:SCl)
def Mode.next :Mode->Mode
 |.seq=>.seq
 |.draw i l c=>.draw (i+1) l c
def Mode.rd (m:Mode)(c:SH->Prop):Mode:=match m with
 |.seq=>.seq
 |.draw i l cl=>.draw (i+1) l ((i,c)::cl)
def Mode.ef (m:Mode)(h:SH):Mode:=match m with
 |.seq=>.seq
 |.draw i l cl=>.draw (i+1) ((true,i,h,none)::l) cl
def Mode.nw (m:Mode)(h:SH)(x:Nat × Blk):Mode:=match m with
 |.seq=>.seq
 |.draw i l cl=>.draw (i+1) ((false,i,h,some x)::l) cl
def cL (ops:Array Oper)(i:Nat)(c:SH->Prop):qP->Prop
 |[]=>True
 |(true,j,h,_)::r=>wt ops i j=true\/(c h/\cL ops i c r)
 |(false,j,h,_)::r=>(wt ops i j=true\/c h)/\cL ops i c r
def Mode.rdOk (ops:Array Oper)(c:SH->Prop):Mode->Prop
 |.seq=>True
 |.draw i l _=>cL ops i c l
def zAx (ops:Array Oper)(i:Nat):qP->Prop
 |[]=>True
 |(true,j,_)::_=>wt ops i j=true
 |(false,j,_)::r=>wt ops i j=true/\zAx ops i r
def lL (ops:Array Oper)(i:Nat)(h':SH):SCl->Prop
 |[]=>True
 |x::r=>(wt ops i x.1=true\/x.2 h')/\lL ops i h' r
def Mode.efOk (ops:Array Oper)(h':SH):Mode->Prop
 |.seq=>True
 |.draw i l cl=>zAx ops i l/\lL ops i h' cl
theorem lL.mem {ops:Array Oper}{i:Nat}{h':SH}:∀{cl:SCl},lL ops i h' cl->∀x∈cl,wt ops i x.1=true\/x.2 h'
 |[],_,x,hx=>by cases hx
 |y::r,h,x,hx=>by
  rcases List.mem_cons.1 hx with rfl|hx
  ·exact h.1
  ·exact lL.mem h.2 x hx
def zLa (E:Ent)(x:Nat × (SH->Prop)):Nat × (zI->Prop):=(x.1,λH'=>∃h',Inv E h' H'/\x.2 h')

def dW (E:Ent):qP->rG->Prop
 |[],[]=>True
 |x::r,y::s=>(x.1=y.1/\x.2.1=y.2.1/\Inv E x.2.2.1 y.2.2.1/\(x.1=false->∃b,y.2.2.2=y.2.2.1++[some b]/\x.2.2.2=some (y.2.2.1.length,b)))/\dW E r s
 |_,_=>False
theorem fK {E:Ent}{ops:Array Oper}{i:Nat}{c:SH->Prop}{G:zI->Prop}:∀{l:qP} {pH:rG},dW E l pH->cL ops i c l->rL ops i (λH'=>∃h',Inv E h' H'/\c h') G pH
 |[],[],_,_=>trivial
 |[],_::_,h,_=>h.elim
 |_::_,[],h,_=>h.elim
 |(b,j,x,_)::r,(b',j',y,_)::s,h,k=>by
  obtain⟨⟨rfl,rfl,h1,_⟩,h2⟩:=h;cases b with
  |true =>
   rcases k with k|k
   ·exact .inl k
   ·exact .inr ⟨⟨_,h1,k.1⟩,fK h2 k.2⟩
  |false=>exact⟨k.1.imp id λh=>.inl ⟨_,h1,h⟩,fK h2 k.2⟩
theorem Inv.early {E:Ent}{h:SH}{K:zI}(i:Inv E h K){p:Nat}{b:Blk}{X:zI}(hl:K.length<=p)(hx:X[p-K.length]?=some (some b)):Inv E ((p,b)::h) (K++X):=by
 have i2:=i.app X;have hlt:∀x∈h,x.1<K.length:=λx hx=>(List.getElem?_eq_some_iff.1 (i.sat x hx)).1;refine⟨λx hm=>?_,?_,λx hm hE=>?_,i2.len,i2.keep⟩
 ·rcases List.mem_cons.1 hm with rfl|hm
  ·show(K++X)[p]?=some (some b)
   rw[List.getElem?_append_right hl];exact hx
  ·exact i2.sat x hm
 ·rw[List.map_cons,List.nodup_cons]
  refine⟨λhm=>?_,i.nd⟩;obtain⟨x,h1,h2⟩:=List.mem_map.1 hm;have:=hlt x h1;have h2:x.1=p:=h2;omega
 ·rcases List.mem_cons.1 hm with rfl|hm
  ·have:=i.len
   have hE:p<E.H0.length:=hE;omega
  ·exact i.own x hm hE
theorem zLp {E:Ent}{ops:Array Oper}{i:Nat}:∀{l:qP} {pH:rG},dW E l pH->zAx ops i l->oG ops i pH
 |[],[],_,_=>trivial
 |[],_::_,h,_=>h.elim
 |_::_,[],h,_=>h.elim
 |(b,j,x,_)::r,(b',j',y,_)::s,h,k=>by
  obtain⟨⟨rfl,rfl,h1,_⟩,h2⟩:=h;cases b with
  |true=>exact k
  |false=>exact⟨k.1,zLp h2 k.2⟩
theorem yOh {H X:zI}{b:Blk}(h:gZ 1 X):Place (H++X) H.length ((H++[some b])++X.drop 1) b:=by
 have h0:=h 0 (by omega);cases X with
 |nil=>simp at h0
 |cons x X =>
  simp only[List.getElem?_cons_zero,Option.some.injEq]at h0;subst h0;have e:(H++[some b])++(none::X).drop 1=(H++none::X).set H.length (some b):=by
   rw[List.set_append_right _ _ (Nat.le_refl _)];simp
  rw[e];exact Place.hole (by rw[List.getElem?_append_right (Nat.le_refl _)];simp) b
def GO (m:Mode)(P:Program)(sz:Nat)(ops:Array Oper)(Q:wA)(l:List Oper)(a:AF)(h:SH):Prop :=
 match m with
 |.seq=>∀E H n0,Inv E h H->wC P ⟨sz,n0⟩ ops (SQ E Q) l a H
 |.draw i last cl=>∀E H n0 pH,Inv E h H->dW E last pH->∃tr,GD P ⟨sz,n0⟩ ops (λa' H'=>SQ E Q .normal a' H') l i a H pH (cl.map (zLa E)) tr

theorem zH.mono {P:Program}{f:FuncId}{as0:List Value}{p:SH}{R R':Value->SH->Prop}(h:zH P f as0 p R)(hr:∀r q,R r q->R' r q):zH P f as0 p R' :=
 λH i=>(h H i).mono λ_ _ ⟨q,h1,h2⟩=>⟨q,hr _ _ h1,h2⟩

section
variable {P:Program} {sz:Nat} {ops:Array Oper} {Q:wA} {l rest:List Oper} {a:AF} {h:SH}

theorem SWp.mono {c:Code}{Q':wA}(k:SWp P sz c Q a h)(hq:∀e a h,Q e a h->Q' e a h):SWp P sz c Q' a h :=
 λE H n0 i=>(k E H n0 i).mono λ_ _ _ ⟨h',h1,h2⟩=>⟨h',hq _ _ _ h1,h2⟩
theorem SWp.take {c:Code}{b:AF}{h1:SH}(s:Sub b a)(t:zA h h1)(k:SWp P sz c Q b h1):SWp P sz c Q a h :=
 λE H n0 i=>(k E H n0 (i.le t.le)).sub s

def sO (K:AF->SH->Prop)(Q:wA):wA
 |.normal,a,h=>K a h
 |e,a,h=>Q e a h
def uR (id:Nat)(Q:wA):wA
 |.exit id',a,h=>if id'=id then Q .normal a h else Q (.exit id') a h
 |e,a,h=>Q e a h
def yKa (Q:wA):wA
 |.goto _,_,_=>False
 |e,a,h=>Q e a h

theorem zL (k:Q .normal a h):SWp P sz .skip Q a h:=λ_ _ _ i=>zHt ⟨h,k,i⟩
theorem zJ (k:Q .ret a h):SWp P sz .ret Q a h:=λ_ _ _ i=>bN ⟨h,k,i⟩
theorem zU {id:Nat}(k:Q (.exit id) a h):SWp P sz (.exit id) Q a h:=λ_ _ _ i=>zQn ⟨h,k,i⟩
theorem zE {x y:Code}(k:SWp P sz x (sO (λa h=>SWp P sz y Q a h) Q) a h):SWp P sz (.seq x y) Q a h :=
 λE H n0 i=>oB ((k E H n0 i).mono λe a' H' ⟨h',h1,h2⟩=>by
  cases e with
  |normal=>exact h1 E H' n0 h2
  |_=>exact⟨h',h1,h2⟩)
theorem zM {id:Nat}{c:Code}(k:SWp P sz c (uR id Q) a h):SWp P sz (.block id c) Q a h :=
 λE H n0 i=>zFa ((k E H n0 i).mono λe a' H' ⟨h',h1,h2⟩=>by
  cases e with
  |exit id' =>
   by_cases hid:id'=id
   ·simp only[uR,mL,hid,if_true]at h1 ⊢;exact⟨h',h1,h2⟩
   ·simp only[uR,mL,hid,if_false]at h1 ⊢;exact⟨h',h1,h2⟩
  |_=>exact⟨h',h1,h2⟩)
theorem yO {c:Operand}{x y:Code}(hc:ev a c=some (.bool true))(k:SWp P sz x Q a h):SWp P sz (.cond c x y) Q a h :=
 λE H n0 i=>zVk hc rfl (k E H n0 i)
theorem zX {c:Operand}{x y:Code}(hc:ev a c=some (.bool false))(k:SWp P sz y Q a h):SWp P sz (.cond c x y) Q a h :=
 λE H n0 i=>zJy hc rfl (k E H n0 i)
theorem tC {c:Operand}{x y:Code}{p:Prop}{_:Decidable (p)}(hc:ev a c=some (.bool (decide p)))(hp:p)(k:SWp P sz x Q a h):SWp P sz (.cond c x y) Q a h :=
 λE H n0 i=>zVk hc (decide_eq_true hp) (k E H n0 i)
theorem pT {c:Operand}{x y:Code}{p:Prop}{_:Decidable (p)}(hc:ev a c=some (.bool (decide p)))(hp:¬p)(k:SWp P sz y Q a h):SWp P sz (.cond c x y) Q a h :=
 λE H n0 i=>zJy hc (decide_eq_false hp) (k E H n0 i)
theorem vA {c:Operand}{x y:Code}{p:Prop}{_:Decidable (p)}(hc:ev a c=some (.bool (decide p)))(h1:p->SWp P sz x Q a h)(h2:¬p->SWp P sz y Q a h):SWp P sz (.cond c x y) Q a h :=
 λE H n0 i=>zXy hc (λhp=>h1 hp E H n0 i) (λhp=>h2 hp E H n0 i)
theorem uO {c:Operand}{x y:Code}{t:Bool}(hc:ev a c=some (.bool t))(h1:t=true->SWp P sz x Q a h)(h2:t=false->SWp P sz y Q a h):SWp P sz (.cond c x y) Q a h :=
 λE H n0 i=>eA hc (λhp=>h1 hp E H n0 i) (λhp=>h2 hp E H n0 i)

theorem zB {K:AF->SH->Prop}(k:K a h):sO K Q .normal a h:=k
theorem zV {K:AF->SH->Prop}(k:Q .ret a h):sO K Q .ret a h:=k
theorem zW {K:AF->SH->Prop}{i:Nat}(k:Q (.exit i) a h):sO K Q (.exit i) a h:=k
theorem zQ {id:Nat}(k:Q .normal a h):uR id Q .normal a h:=k
theorem xM {id:Nat}(k:Q .ret a h):uR id Q .ret a h:=k
theorem zT {id:Nat}(k:Q .normal a h):uR id Q (.exit id) a h:=by simp only[uR,if_true];exact k
theorem yH {S:Type}{c:Code}(A:S->AF)(G:S->SH)(I:S->Prop)(μ:S->Nat)(s0:S)(h0:I s0)(hs:Sub (A s0) a)(ht:zA h (G s0))
  (round:∀s,I s->SWp P sz c (sO (λa' h'=>∃s',I s'/\μ s'<μ s/\Sub (A s') a'/\zA h' (G s')) Q) (A s) (G s)):SWp P sz (.loop c) Q a h:=by
 intro E H n0 i;refine AWp.sub ?_ hs;refine zRw (S:={x:S × zI // I x.1/\Inv E (G x.1) x.2}) (λx=>A x.1.1) (λx=>x.1.2) (λ_=>True) (λx=>μ x.1.1) ⟨(s0,H),h0,i.le ht.le⟩ trivial gD ?_;rintro⟨⟨s,H1⟩,h1,h2⟩ -;refine(round s h1 E H1 n0 h2).mono ?_;rintro e a' H' ⟨h',k1,k2⟩;cases e with
 |normal =>
  obtain⟨s',g1,g2,g3,g4⟩:=k1;exact⟨⟨(s',H'),g1,k2.le g4.le⟩,trivial,g2,zQp g3⟩
 |_=>exact⟨h',k1,k2⟩

theorem yHc {S:Type}{c:Code}{K:AF->SH->Prop}(A:S->AF)(G:S->SH)(I:S->Prop)
  (k1:SWp P sz c (sO (λa' h'=>∃s,I s/\Sub (A s) a'/\zA h' (G s)) Q) a h) (k2:∀s,I s->∀a' h',Sub (A s) a'->zA h' (G s)->K a' h'):SWp P sz c (sO K Q) a h :=
 k1.mono λe a' h' hq=>by
  cases e with
  |normal=>obtain⟨s,g1,g2,g3⟩:=hq;exact k2 s g1 a' h' g2 g3
  |_=>exact hq

theorem zD {id:Nat}(k:GO .seq P sz ops Q ops.toList a h):SWp P sz (.region id ops false) Q a h:=λE H n0 i=>kP (k E H n0 i)
theorem yEv {id:Nat}(hm:P.follows .mixedOrders=true)(hB:tH ops=true)(k:GO (.draw 0 [] []) P sz ops Q ops.toList a h):SWp P sz (.region id ops true) Q a h :=
 λE H n0 i=>let ⟨_,g⟩:=k E H n0 [] i trivial;zTd hm hB g
theorem zC {m:Mode}(k:Q .normal a h):GO m P sz ops Q [] a h:=by
 cases m with
 |seq=>exact λE H n0 i=>kY ⟨h,k,i⟩
 |draw=>exact λE H n0 _ i _=>⟨_,.nil ⟨h,k,i⟩⟩

theorem yGg {N:Fr}{H:zI}{Q:xR}{dst:Option Tmp}{op:Op}{ty:TypeId}{pos:String}{aft:Array Edge}{j:Nat}{want:Bool}{d:Nat}{b:Bool}
  (hd:(ops[j]?).bind (·.dst)=some d) (hb:get a d=some (.bool b)) (e:b=want) (k:wC P N ops Q (⟨dst,op,ty,pos,aft,none⟩::rest) a H):wC P N ops Q (⟨dst,op,ty,pos,aft,some (j,want)⟩::rest) a H:=by
 unfold wC at k ⊢;intro B0 w0 φs Ls φ w ac hdm he hr hf;have:=k B0 w0 φs Ls φ w ac hdm he hr hf;unfold wpListIn at this ⊢;rw[if_pos (by simp[Region.wanted])]at this;rw[if_pos (by simp only[Region.wanted];rw[zCa hf hd hb,e];simp)];exact this
theorem zYj {N:Fr}{Q:AF->zI->Prop}{dst:Option Tmp}{op:Op}{ty:TypeId}{pos:String}{aft:Array Edge}{j:Nat}{want:Bool}{d:Nat}(hd:(ops[j]?).bind (·.dst)=some d) :
  ∀{l:List Oper} {i:Nat} {a:AF} {H:zI} {last:rG} {cl:Cl} {tr:List St},GD P N ops Q l i a H last cl tr->l=⟨dst,op,ty,pos,aft,none⟩::rest->get a d=some (.bool want) ->
   ∃tr',GD P N ops Q (⟨dst,op,ty,pos,aft,some (j,want)⟩::rest) i a H last cl tr':=by
 intro l i a H last cl tr g
 induction g with
 |nil=>intro h;cases h
 |@again l i a H last cl tr d' u hb k ih =>
  intro h hb2;obtain⟨tr',g'⟩:=ih h (by
   have:=sC (a:=a) (dst:=some d') (v:=u) d;simp only[put,Option.some.injEq]at this;rw[this];split
   ·rename_i e;rw[<-e,hb]at hb2;exact hb2
   ·exact hb2)
  exact⟨_,.again hb g'⟩
 |skip hN hw k _=>intro h _;cases h;exact hw.elim
 |ind hN hw hv k _=>intro h hb;cases h;exact⟨_,.ind hN ⟨d,hd,hb⟩ (λH' a' hag=>⟨(hv H' a' hag).go⟩) k⟩
 |pure C hN hw hc hm hv hl k _=>intro h hb;cases h;exact⟨_,.pure C hN ⟨d,hd,hb⟩ hc hm (λH' a' hC hag=>⟨(hv H' a' hC hag).go⟩) hl k⟩
 |eff kk hN hw hlen hv hl hc k _=>intro h hb;cases h;exact⟨_,.eff kk hN ⟨d,hd,hb⟩ hlen (λX a' hag hX hn=>⟨(hv X a' hag hX hn).go⟩) hl hc k⟩
 |new hN hw hv k _=>intro h hb;cases h;exact⟨_,.new hN ⟨d,hd,hb⟩ (λH1 H1' a' hag hpl=>⟨(hv H1 H1' a' hag hpl).go⟩) k⟩

variable {m:Mode} {t:Nat} {op:Op} {dst:Option Tmp} {ty:TypeId} {pos:String} {aft:Array Edge} {j d:Nat} {want:Bool}
theorem lO (hd:(ops[j]?).bind (·.dst)=some d)(hb:get a d=some (.bool want))(k:GO m P sz ops Q (⟨dst,op,ty,pos,aft,none⟩::rest) a h) :
  GO m P sz ops Q (⟨dst,op,ty,pos,aft,some (j,want)⟩::rest) a h:=by
 cases m with
 |seq=>exact λE H n0 i=>yGg hd hb rfl (k E H n0 i)
 |draw=>exact λE H n0 pH i ip=>let ⟨_,g⟩:=k E H n0 pH i ip;zYj hd g rfl hb
theorem lJ {b:Bool}(hd:(ops[j]?).bind (·.dst)=some d)(hb:get a d=some (.bool b))(e:b=!want)(hN:Nat.blt t sz=true)(k:GO m.next P sz ops Q rest ((t,undef)::a) h) :
  GO m P sz ops Q (⟨some t,op,ty,pos,aft,some (j,want)⟩::rest) a h:=by
 subst e;cases m with
 |seq=>exact λE H n0 i=>zRm rfl hd hb rfl hN (k E H n0 i)
 |draw=>exact λE H n0 pH i ip=>let ⟨_,g⟩:=k E H n0 pH i ip;⟨_,.skip hN ⟨d,hd,.inl hb⟩ g⟩
theorem eF (hd:(ops[j]?).bind (·.dst)=some d)(hb:get a d=some undef)(hN:Nat.blt t sz=true)(k:GO m.next P sz ops Q rest ((t,undef)::a) h) :
  GO m P sz ops Q (⟨some t,op,ty,pos,aft,some (j,want)⟩::rest) a h:=by
 cases m with
 |seq=>exact λE H n0 i=>zMo rfl hd hb hN (k E H n0 i)
 |draw=>exact λE H n0 pH i ip=>let ⟨_,g⟩:=k E H n0 pH i ip;⟨_,.skip hN ⟨d,hd,.inr hb⟩ g⟩
theorem yHw {φ:Fi}{L:zP}{N:Fr}{ac:Act}{u:Value}(hb:get a d=some u)(hf:xA φ L N a ac):xA φ L N ((d,u)::a) ac :=
 ⟨hf.size,λt v ht=>by
  rcases mF ht with⟨rfl,rfl⟩|⟨_,ht⟩
  ·exact hf.slot _ _ hb
  ·exact hf.slot t v ht⟩
theorem uN {u:Value}(hb:get a d=some u)(k:GO m P sz ops Q l ((d,u)::a) h):GO m P sz ops Q l a h:=by
 cases m with
 |seq =>
  intro E H n0 i;have:=k E H n0 i;unfold wC at this ⊢;exact λB0 w0 φs Ls φ w ac hdm he hr hf=>this B0 w0 φs Ls φ w ac hdm he hr (yHw hb hf)
 |draw=>exact λE H n0 pH i ip=>let ⟨_,g⟩:=k E H n0 pH i ip;⟨_,.again hb g⟩
theorem rX {p:Prop}{_:Decidable (p)}(hd:(ops[j]?).bind (·.dst)=some d)(hb:get a d=some (.bool (decide p)))(hN:Nat.blt t sz=true)
  (h1:p->GO m P sz ops Q (⟨some t,op,ty,pos,aft,none⟩::rest) ((d,.bool true)::a) h) (h2:¬p->GO m.next P sz ops Q rest ((t,undef)::(d,.bool false)::a) h) :
  GO m P sz ops Q (⟨some t,op,ty,pos,aft,some (j,true)⟩::rest) a h:=by
 have hg:∀u,get ((d,u)::a) d=some u:=λu=>by unfold get;rw[show Nat.beq d d=true from Nat.beq_refl d];rfl
 by_cases hp:p
 ·rw[decide_eq_true hp]at hb
  exact uN hb (lO hd (hg _) (h1 hp))
 ·rw[decide_eq_false hp]at hb
  exact uN hb (lJ hd (hg _) rfl hN (h2 hp))
theorem vJ {p:Prop}{_:Decidable (p)}(hd:(ops[j]?).bind (·.dst)=some d)(hb:get a d=some (.bool (decide p)))(hN:Nat.blt t sz=true)
  (h1:¬p->GO m P sz ops Q (⟨some t,op,ty,pos,aft,none⟩::rest) ((d,.bool false)::a) h) (h2:p->GO m.next P sz ops Q rest ((t,undef)::(d,.bool true)::a) h) :
  GO m P sz ops Q (⟨some t,op,ty,pos,aft,some (j,false)⟩::rest) a h:=by
 have hg:∀u,get ((d,u)::a) d=some u:=λu=>by unfold get;rw[show Nat.beq d d=true from Nat.beq_refl d];rfl
 by_cases hp:p
 ·rw[decide_eq_true hp]at hb
  exact uN hb (lJ hd (hg _) rfl hN (h2 hp))
 ·rw[decide_eq_false hp]at hb
  exact uN hb (lO hd (hg _) (h1 hp))
theorem zOk {b:Bool}(hd:(ops[j]?).bind (·.dst)=some d)(hb:get a d=some (.bool b))(hN:Nat.blt t sz=true)
  (h1:b=want->GO m P sz ops Q (⟨some t,op,ty,pos,aft,none⟩::rest) ((d,.bool want)::a) h) (h2:b=!want->GO m.next P sz ops Q rest ((t,undef)::(d,.bool (!want))::a) h) :
  GO m P sz ops Q (⟨some t,op,ty,pos,aft,some (j,want)⟩::rest) a h:=by
 have hg:∀u,get ((d,u)::a) d=some u:=λu=>by unfold get;rw[show Nat.beq d d=true from Nat.beq_refl d];rfl
 by_cases hp:b=want
 ·subst hp
  exact uN hb (lO hd (hg _) (h1 rfl))
 ·have hp2:b=!want:=by cases b <;> cases want <;> simp_all
  subst hp2;exact uN hb (lJ hd (hg _) rfl hN (h2 rfl))

theorem qL {v:Value}(hv:∀N H a',Ag ⟨some t,op,ty,pos,aft,none⟩ a a'->zR P N ⟨some t,op,ty,pos,aft,none⟩ a' H v)(hN:Nat.blt t sz=true)(k:GO m.next P sz ops Q rest ((t,v)::a) h) :
  GO m P sz ops Q (⟨some t,op,ty,pos,aft,none⟩::rest) a h:=by
 cases m with
 |seq=>exact λE H n0 i=>rA rfl (iT (hv _ H a (.refl _ _)) hN (k E H n0 i))
 |draw=>exact λE H n0 pH i ip=>let ⟨_,g⟩:=k E H n0 pH i ip;⟨_,.ind hN trivial (λH' a' hag=>(hv _ H' a' hag).pcall) g⟩
theorem tZ {v:Value}(c:SH->Prop)(hc:c h)(hv:∀N E H h' a',Inv E h' H->c h'->Ag ⟨some t,op,ty,pos,aft,none⟩ a a'->zR P N ⟨some t,op,ty,pos,aft,none⟩ a' H v)(hN:Nat.blt t sz=true)(hok:m.rdOk ops c)
  (k:GO (m.rd c) P sz ops Q rest ((t,v)::a) h):GO m P sz ops Q (⟨some t,op,ty,pos,aft,none⟩::rest) a h:=by
 cases m with
 |seq=>exact λE H n0 i=>rA rfl (iT (hv _ E H h a i hc (.refl _ _)) hN (k E H n0 i))
 |draw x l cl =>
  intro E H n0 pH i ip;obtain⟨_,g⟩:=k E H n0 pH i ip;exact⟨_,.pure (λH'=>∃h',Inv E h' H'/\c h') hN trivial ⟨h,i,hc⟩ (λH X ⟨h',i',hc'⟩=>⟨h',i'.app X,hc'⟩) (λH' a' ⟨h',i',hc'⟩ hag=>(hv _ E H' h' a' i' hc' hag).pcall) (fK ip hok) g⟩
theorem zAd {E:Ent}{H':zI}{h':SH}{x:Nat}{l:qP}{cl:SCl}(i':Inv E h' H')(hok:Mode.efOk ops h' (.draw x l cl)):∀y∈cl.map (zLa E),wt ops x y.1=true\/y.2 H':=by
 intro y hy;obtain⟨z,hz,rfl⟩:=List.mem_map.1 hy;exact(lL.mem hok.2 z hz).imp id λh=>⟨h',i',h⟩
theorem cI {E:Ent}{h':SH}{x:Nat}{l:qP}{pH:rG}{cl:SCl}(ip:dW E l pH)(hok:Mode.efOk ops h' (.draw x l cl)):oG ops x pH:=zLp ip hok.1
theorem mH {b:Blk}{v:Nat->Value}(hN:Nat.blt t sz=true)(hv:∀n0 A H H' a',Place H A H' b->Ag ⟨some t,op,ty,pos,aft,none⟩ a a'->xG P ⟨sz,n0⟩ ⟨some t,op,ty,pos,aft,none⟩ a' H (v A) H')
  (k:∀A,GO (m.nw h (A,b)) P sz ops Q rest ((t,v A)::a) ((A,b)::h)):GO m P sz ops Q (⟨some t,op,ty,pos,aft,none⟩::rest) a h:=by
 cases m with
 |seq=>exact λE H n0 i=>rA rfl (lI (hv n0 H.length H _ a (.app H b) (.refl _ _)) hN (k H.length E _ n0 (i.new b)))
 |draw x l cl =>
  intro E H n0 pH i ip;obtain⟨_,g⟩:=k H.length E _ n0 ((false,x,H,H++[some b])::pH) (i.new b) ⟨⟨rfl,rfl,i,λ_=>⟨b,rfl,rfl⟩⟩,ip⟩;exact⟨_,.new hN trivial (λH1 H1' a' hag hpl=>(hv n0 H.length H1 H1' a' hpl hag).ceff) g⟩
theorem zWv {A2:Nat}{b g2:Blk}{h1:SH}{v:Nat->Value}(hN:Nat.blt t sz=true)(hp:Pick h A2 g2 h1)(hv:∀n0 A H H' a',H[A2]?=some (some g2)->Place H A H' b->Ag ⟨some t,op,ty,pos,aft,none⟩ a a'->xG P ⟨sz,n0⟩ ⟨some t,op,ty,pos,aft,none⟩ a' H (v A) H')
  (hok:∀A,m.efOk ops ((A,b)::h)) (k:∀A,GO (m.ef h) P sz ops Q rest ((t,v A)::a) ((A,b)::h)):GO m P sz ops Q (⟨some t,op,ty,pos,aft,none⟩::rest) a h:=by
 cases m with
 |seq=>exact λE H n0 i=>rA rfl (lI (hv n0 H.length H _ a (i.look hp) (.app H b) (.refl _ _)) hN (k H.length E _ n0 (i.new b)))
 |draw x l cl =>
  intro E H n0 pH i ip;obtain⟨_,g⟩:=k H.length E _ n0 ((true,x,H,H++[some b])::pH) (i.new b) ⟨⟨rfl,rfl,i,λh=>by cases h⟩,ip⟩;exact⟨_,.eff 1 hN trivial (by simp) (λX a' hag hX _=>(hv n0 H.length (H++X) _ a' ((i.app X).look hp) (yOh hX) hag).ceff) (cI ip (hok H.length)) (zAd (i.new b) (hok H.length)) g⟩
theorem zSr {H X:zI}{A:Nat}{b b':Blk}(h:H[A]?=some (some b)):(H++X).set A (some b')=H.set A (some b')++X:=List.set_append_left _ _ (List.getElem?_eq_some_iff.1 h).1
theorem nN {A:Nat}{b b':Blk}{h':SH}{v:Value}(hN:wK ⟨dst,op,ty,pos,aft,none⟩ ⟨sz,⟨0,none⟩⟩=true)(hu:Upd h A b b' h')(hv:∀n0 H a',H[A]?=some (some b)->Ag ⟨dst,op,ty,pos,aft,none⟩ a a'->xG P ⟨sz,n0⟩ ⟨dst,op,ty,pos,aft,none⟩ a' H v (H.set A (some b')))
  (hok:m.efOk ops h') (k:GO (m.ef h) P sz ops Q rest (put a dst v) h'):GO m P sz ops Q (⟨dst,op,ty,pos,aft,none⟩::rest) a h:=by
 cases m with
 |seq=>exact λE H n0 i=>rA rfl (lI (hv n0 H a (i.sat _ hu.mem) (.refl _ _)) hN (k E _ n0 (i.upd hu)))
 |draw x l cl =>
  intro E H n0 pH i ip;obtain⟨_,g⟩:=k E _ n0 ((true,x,H,H.set A (some b'))::pH) (i.upd hu) ⟨⟨rfl,rfl,i,λh=>by cases h⟩,ip⟩;exact⟨_,.eff 0 hN trivial (by simp) (λX a' hag _ _=>by rw[List.drop_zero,<-zSr (i.sat _ hu.mem)];exact(hv n0 _ a' ((i.app X).sat _ hu.mem) hag).ceff) (cI ip hok) (zAd (i.upd hu) hok) g⟩
theorem yLx {A A2:Nat}{b b' g2:Blk}{h' h1:SH}{v:Value}(hN:wK ⟨dst,op,ty,pos,aft,none⟩ ⟨sz,⟨0,none⟩⟩=true)(hu:Upd h A b b' h')(hp:Pick h A2 g2 h1)(hv:∀n0 H a',H[A]?=some (some b)->H[A2]?=some (some g2)->Ag ⟨dst,op,ty,pos,aft,none⟩ a a'->xG P ⟨sz,n0⟩ ⟨dst,op,ty,pos,aft,none⟩ a' H v (H.set A (some b')))
  (hok:m.efOk ops h') (k:GO (m.ef h) P sz ops Q rest (put a dst v) h'):GO m P sz ops Q (⟨dst,op,ty,pos,aft,none⟩::rest) a h:=by
 cases m with
 |seq=>exact λE H n0 i=>rA rfl (lI (hv n0 H a (i.sat _ hu.mem) (i.look hp) (.refl _ _)) hN (k E _ n0 (i.upd hu)))
 |draw x l cl =>
  intro E H n0 pH i ip;obtain⟨_,g⟩:=k E _ n0 ((true,x,H,H.set A (some b'))::pH) (i.upd hu) ⟨⟨rfl,rfl,i,λh=>by cases h⟩,ip⟩;exact⟨_,.eff 0 hN trivial (by simp) (λX a' hag _ _=>by rw[List.drop_zero,<-zSr (i.sat _ hu.mem)];exact(hv n0 _ a' ((i.app X).sat _ hu.mem) ((i.app X).look hp) hag).ceff) (cI ip hok) (zAd (i.upd hu) hok) g⟩

def rN (h:SH):SH:=h.map λx=>(x.1,x.2.lock)
theorem Inv.lock {E:Ent}{h:SH}{H:zI}(i:Inv E h H):Inv ⟨_root_.Go.Gh.lock H,rN h⟩ (rN h) (_root_.Go.Gh.lock H):=by
 refine .start (λx hx=>?_) ?_
 ·obtain⟨y,hy,rfl⟩:=List.mem_map.1 hx
  exact zYx (i.sat y hy)
 ·have:(rN h).map (·.1)=h.map (·.1):=by unfold rN;rw[List.map_map];rfl
  rw[this];exact i.nd

theorem zZ {x:Operand}{xs:List Operand}{ts:Array TypeId}{f:FuncId}{first captured:Array Value}{as0:List Value}{R:Value->SH->Prop}(hx:ev a x=some (.func (.func f) first captured))(hxs:evs a xs=some as0)
  (hf:xL P f=true) (hN:Nat.blt t sz=true) (hrt:∃h1,zH P f (first.toList++as0++captured.toList) h1 R/\zA h h1) (k:∀r q,R r q->GO .seq P sz ops Q rest ((t,r)::a) q) :
  GO .seq P sz ops Q (⟨some t,.call { callee:=.value x,args:=xs.toArray,argTypes:=ts },ty,pos,aft,none⟩::rest) a h :=
 let ⟨_,hr,ht⟩:=hrt
 λE H n0 i=>rA rfl (yGw x xs ts rfl hx hxs hf hN (hr H (i.le ht.le).refl) λr H' ⟨q,hq,i'⟩=>k r q hq E H' n0 ((i.le ht.le).comp i'))
structure Rd (p:Prop):Prop where
 h:p
structure xV (v:Value):Prop where
 const:∀φ L,Val φ L v v
 det:∀φ L v',Val φ L v v'->v'=v
theorem xV.c {v:Value}(h:yB v=true):xV v:=⟨λ_ _=>Val.const h,λ_ _ _ k=>Val.det h k⟩
inductive lX :List Value->Prop
 |nil:lX []
 |cons {v l} (h:xV v) (k:lX l):lX (v::l)
theorem lX.at {l:List Value}(h:lX l):∀{i:Nat} (hi:i<l.length),xV l[i]:=by
 induction h with
 |nil=>intro i hi;simp at hi
 |cons h _ ih =>
  intro i hi;cases i with
  |zero=>exact h
  |succ i=>exact ih (by simpa using hi)
theorem wP {x:Operand}{xs:List Operand}{ts:Array TypeId}{f:FuncId}{first captured:Array Value}{as0:List Value}{R:Value->SH->Prop}{v:Value}{i0:Nat}{last:qP}{cl:SCl}(hx:ev a x=some (.func (.func f) first captured))(hxs:evs a xs=some as0)
  (hf:xL P f=true) (hN:Nat.blt t sz=true) (hrt:∃h1,zH P f (first.toList++as0++captured.toList) h1 R/\zA (rN h) h1) (hv:∀r q,R r q->r=v) (hc:xV v) (hok:(Mode.draw i0 last cl).rdOk ops λh'=>Rd (∃h1,zH P f (first.toList++as0++captured.toList) h1 R/\zA (rN h') h1))
  (k:GO ((Mode.draw i0 last cl).rd λh'=>Rd (∃h1,zH P f (first.toList++as0++captured.toList) h1 R/\zA (rN h') h1)) P sz ops Q rest ((t,v)::a) h) :
  GO (.draw i0 last cl) P sz ops Q (⟨some t,.call { callee:=.value x,args:=xs.toArray,argTypes:=ts },ty,pos,aft,none⟩::rest) a h:=by
 intro E H n0 pH i ip;obtain⟨_,g⟩:=k E H n0 pH i ip;refine⟨_,.pure (λH'=>∃h',Inv E h' H'/\Rd (∃h1,zH P f (first.toList++as0++captured.toList) h1 R/\zA (rN h') h1)) hN trivial ⟨h,i,⟨hrt⟩⟩ (λH X ⟨h',i',hc'⟩=>⟨h',i'.app X,hc'⟩) (λH' a' ⟨h',i',⟨h1,hr,ht⟩⟩ hag=>?_) (fK ip hok) g⟩
 ·have hx':ev a' x=some (.func (.func f) first captured):=(hag.ev (by simp[Op.operands,Call.operands])).trans hx
  have hxs':evs a' xs=some as0:=by
   rw[<-hxs];have:∀ys:List Operand,(∀y∈ys,ev a' y=ev a y)->evs a' ys=evs a ys:=by
    intro ys
    induction ys with
    |nil=>intro _;rfl
    |cons y ys ih=>intro hy;simp only[evs,hy y List.mem_cons_self,ih λz hz=>hy z (List.mem_cons_of_mem _ hz)]
   exact this xs λy hy=>hag.ev (by simp[Op.operands,Call.operands,hy])
  have hrun:=(hr (lock H') (i'.lock.le ht.le).refl).mono (R':=λr _=>r=v) λr _ ⟨q,hq,_⟩=>hv r q hq;refine⟨λB0 w0 φ w ac hrel hfr=>?_⟩;have e1:=zN hfr hx';have e2:=pD hfr hxs';refine⟨v,hc.const _ _,.inr ?_⟩;generalize hu:ac.eval x=u at e1;cases e1 with
  |func _ _ b _ d q1 q2 q3 q4 =>
   have hvr:=((yM.of_arrays q1 q2).append e2).append (yM.of_arrays q3 q4);refine⟨f,b++(xs.map ac.eval).toArray++d,?_,?_⟩
   ·unfold execOp
    simp only[resolve,List.map_toArray,hu,Deferred.ofValue,Sem.run_bind,Sem.run_pure,Result.andThen_ok,invoke];exact uU hf _ w
   ·unfold Run at hrun
    refine(hrun _ _ φ.bare (lens (lock H')) φ.bare w _ (.refl _ _) hrel.locked (by rw[kC];exact hvr.bare)).mono ?_;rintro e w' ⟨φ',r,H2,v',g1,g2,rfl,g4,rfl⟩;exact⟨by rw[hc.det _ _ _ g4],g2.below⟩

def zO (P:Program)(a:AF)(h:SH):List ResultVar->List Value->Prop
 |[],[]=>True
 |.tmp t::r,v::vs=>get a t=some v/\zO P a h r vs
 |.cell b T::r,v::vs=>(∃A off n g h1,get a b=some (zG A off n)/\Pick h A g h1/\g.cells.length=n /\
   ((∃z s by',vM P T=some true/\yC P T=some (z,s,by')/\off+s<=g.cells.length/\v=.agg ((g.cells.drop off).take s).toArray) \/
    (vM P T=some false/\g.cells[off]?=some v)))/\zO P a h r vs
 |_,_=>False
theorem zO.res {E:Ent}{H:zI}(i:Inv E h H):∀{l:List ResultVar} {vs:List Value},zO P a h l vs->oD P a H l vs:=by
 intro l
 induction l with
 |nil=>intro vs k;cases vs with|nil=>trivial|cons v vs=>exact k.elim
 |cons x l ih =>
  intro vs k;cases vs with
  |nil=>cases x <;> exact k.elim
  |cons v vs =>
   cases x with
   |tmp t=>exact⟨k.1,ih k.2⟩
   |cell b T =>
    obtain⟨⟨A,off,n,g,h1,e1,e2,e3,e4⟩,k2⟩:=k;exact⟨⟨A,off,n,g,e1,i.look e2,e3,e4⟩,ih k2⟩
def qM (P:Program)(fn:Func)(R:Value->SH->Prop):wA
 |.normal,a,h|.ret,a,h=>∃vs q,zO P a h fn.results.toList vs/\R (tF vs) q/\zA h q
 |_,_,_=>False
theorem lU {f:FuncId}{fn:Func}{c:Code}{as0:List Value}{R:Value->SH->Prop}(hf:P.funcs[f]?=some fn)(hb:fn.body=some c)
  (hN:Nat.ble as0.length fn.ntmps=true) (k:SWp P fn.ntmps c (qM P fn R) (vY 0 as0) h):zH P f as0 h R:=by
 intro H i;refine eL hf hb hN λ_=>(k ⟨H,h⟩ H ⟨H.length,none⟩ i).mono ?_;rintro e a' H' ⟨h',k1,k2⟩;have fin:qM P fn R .ret a' h'->bT P ⟨fn.ntmps,⟨H.length,none⟩⟩ fn (λr H'=>∃q,R r q/\Inv ⟨H,h⟩ q H') .ret a' H' :=
  λ⟨vs,q,g1,g2,g3⟩=>⟨vs,zO.res k2 g1,vs,H',gD,rfl,q,g2,k2.le g3.le⟩
 cases e with
 |normal=>exact fin k1
 |ret=>exact fin k1
 |_=>exact k1.elim
end
theorem yA {P:Program}{a:AF}{h q:SH}{fn:Func}{R:Value->SH->Prop}{vs:List Value}(hr:zO P a h fn.results.toList vs)(hR:R (tF vs) q)(ht:zA h q):qM P fn R .ret a h:=⟨vs,q,hr,hR,ht⟩
theorem qQ {P:Program}{a:AF}{h q:SH}{fn:Func}{R:Value->SH->Prop}{vs:List Value}(hr:zO P a h fn.results.toList vs)(hR:R (tF vs) q)(ht:zA h q):qM P fn R .normal a h:=⟨vs,q,hr,hR,ht⟩
attribute [irreducible] SWp GO zH sO uR yKa qM

inductive TK |bool|int (k:IntKind)|str|slice (E:Nat)|ptr (E:Nat)|arr (n E:Nat)|st (fs:List (Nat × Nat))|other
structure TE where
 k:TK
 sz:Nat
 by':Nat
 z:Option Value
inductive TT |leaf|node (l:TT) (t:Nat) (e:TE) (r:TT)
def TT.get :TT->Nat->Option TE
 |.leaf,_=>none
 |.node l t e r,n=>bif Nat.blt n t then l.get n else bif Nat.beq n t then some e else r.get n
def zGp :TypeDesc->TK
 |.bool=>.bool
 |.int k=>.int k
 |.string=>.str
 |.slice E=>.slice E
 |.pointer E=>.ptr E
 |.array n E=>.arr n E
 |.struct fs=>.st (fs.toList.map λf=>(f.type,f.offset))
 |_=>.other
def rF (P:Program)(t:Nat):Option TE:=match P.underlying t,P.info? t with
 |some d,some i=>some ⟨zGp d,i.size,i.bytes,bif Nat.ble i.size 300 then i.zero else none⟩
 |_,_=>none
def TT.Ok (P:Program):TT->Prop
 |.leaf=>True
 |.node l t e r=>l.Ok P/\rF P t=some e/\r.Ok P
theorem TT.get_ok {P:Program}:∀{tt:TT} {t:Nat} {e:TE},tt.Ok P->tt.get t=some e->rF P t=some e
 |.leaf,_,_,_,h=>by cases h
 |.node l s e' r,t,e,k,h=>by
  unfold TT.get at h;cases hb:Nat.blt t s with
  |true=>rw[hb]at h;exact TT.get_ok k.1 h
  |false =>
   rw[hb]at h;cases hc:Nat.beq t s with
   |true =>
    rw[hc]at h;simp only[cond_false,cond_true,Option.some.injEq]at h;rw[Nat.eq_of_beq_eq_true hc,<-h];exact k.2.1
   |false=>rw[hc]at h;exact TT.get_ok k.2.2 h
section
variable {P:Program} {t:Nat} {e:TE}
theorem pB (h:rF P t=some e):∃d,P.underlying t=some d/\zGp d=e.k:=by
 unfold rF at h;split at h
 ·rename_i d i h1 h2;simp only[Option.some.injEq]at h;subst h;exact⟨d,h1,rfl⟩
 ·cases h
theorem xQ (h:rF P t=some e):∃z,yC P t=some (z,e.sz,e.by')/\(∀v,e.z=some v->z=some v):=by
 unfold rF at h;split at h
 ·rename_i d i h1 h2
  simp only[Option.some.injEq]at h;subst h;refine⟨i.zero,by simp[yC,h2],λv hv=>?_⟩;simp only at hv;cases hb:Nat.ble i.size 300 with
  |true=>rw[hb]at hv;exact hv
  |false=>rw[hb]at hv;cases hv
 ·cases h
theorem yAt (h:rF P t=some e)(hk:e.k=.bool):P.underlying t=some .bool:=by
 obtain⟨d,h1,h2⟩:=pB h;rw[hk]at h2;cases d <;> first|(cases h2;done)|exact h1
theorem zHd {k:IntKind}(h:rF P t=some e)(hk:e.k=.int k):P.underlying t=some (.int k):=by
 obtain⟨d,h1,h2⟩:=pB h;rw[hk]at h2;cases d <;> first|(cases h2;done)|(cases h2;exact h1)
theorem mC (h:rF P t=some e)(hk:e.k=.str):P.underlying t=some .string:=by
 obtain⟨d,h1,h2⟩:=pB h;rw[hk]at h2;cases d <;> first|(cases h2;done)|exact h1
theorem vP {E:Nat}(h:rF P t=some e)(hk:e.k=.slice E):P.underlying t=some (.slice E):=by
 obtain⟨d,h1,h2⟩:=pB h;rw[hk]at h2;cases d <;> first|(cases h2;done)|(cases h2;exact h1)
theorem yKx {E:Nat}(h:rF P t=some e)(hk:e.k=.ptr E):P.underlying t=some (.pointer E):=by
 obtain⟨d,h1,h2⟩:=pB h;rw[hk]at h2;cases d <;> first|(cases h2;done)|(cases h2;exact h1)
theorem eJ {n E:Nat}(h:rF P t=some e)(hk:e.k=.arr n E):P.underlying t=some (.array n E):=by
 obtain⟨d,h1,h2⟩:=pB h;rw[hk]at h2;cases d <;> first|(cases h2;done)|(cases h2;exact h1)
theorem yMi {fs:List (Nat × Nat)}(h:rF P t=some e)(hk:e.k=.st fs):∃fl:Array Field,P.underlying t=some (.struct fl)/\fl.toList.map (λf=>(f.type,f.offset))=fs:=by
 obtain⟨d,h1,h2⟩:=pB h;rw[hk]at h2;cases d <;> first|(cases h2;done)|(rename_i fl;refine⟨fl,h1,?_⟩;simp only[zGp]at h2;exact TK.st.inj h2)
theorem zSa {fs:List (Nat × Nat)}{f F fo:Nat}(h:rF P t=some e)(hk:e.k=.st fs)(hf:fs[f]?=some (F,fo)):rQ P t f=some (F,fo):=by
 obtain⟨fl,h1,h2⟩:=yMi h hk;unfold rQ;rw[h1];simp only;rw[<-h2,List.getElem?_map,Array.getElem?_toList]at hf;exact hf
def TK.agg :TK->Bool
 |.st _|.arr _ _=>true
 |_=>false
theorem eO (h:rF P t=some e):vM P t=some e.k.agg:=by
 obtain⟨d,h1,h2⟩:=pB h;unfold vM;rw[h1,<-h2];cases d <;> rfl
end

def ikn :IntKind->Nat
 |.i8=>0|.i16=>1|.i32=>2|.i64=>3|.u8=>4|.u16=>5|.u32=>6|.u64=>7
def ikb (k k':IntKind):Bool:=Nat.beq (ikn k) (ikn k')
theorem zPf {k k':IntKind}(h:ikb k k'=true):k=k':=by
 cases k <;> cases k' <;> first|rfl|(cases h)

abbrev PV :=Option (Prop × Value)
def pv (v:Value):PV:=some (True,v)
def zBn (tt:TT)(T:Nat)(op:BinOp):Value->Value->PV
 |.int k m,.int k' n=>bif ikb k k' then(match op with
  |.lss=>pv (.bool (decide (m<n)))|.leq=>pv (.bool (decide (m<=n)))|.gtr=>pv (.bool (decide (n<m)))|.geq=>pv (.bool (decide (n<=m)))
  |.eql=>pv (.bool (decide (m=n)))|.neq=>pv (.bool (decide (m≠n)))|_=>none)else none
 |.string ⟨⟨l⟩⟩,.string ⟨⟨m⟩⟩=>match op with
  |.add=>some (l.length+m.length<=9223372036854775807,S (l++m))|.eql=>pv (.bool (decide (l=m)))|.neq=>pv (.bool (decide (l≠m)))
  |.lss=>pv (.bool (Op.bytesLess l m))|.gtr=>pv (.bool (!(Op.bytesLess l m || (l == m))))|_=>none
 |.bool m,.bool n=>match tt.get T with
  |some ⟨.bool,_,_,_⟩=>(match op with|.eql=>pv (.bool (decide (m=n)))|.neq=>pv (.bool (decide (m≠n)))|_=>none)
  |_=>none
 |.pointer ad,.pointer none=>match tt.get T with
  |some ⟨.ptr _,_,_,_⟩=>(match op with|.eql=>pv (.bool ad.isNone)|.neq=>pv (.bool ad.isSome)|_=>none)
  |_=>none
 |_,_=>none
def glen (tt:TT)(T:Nat):Value->PV
 |.string ⟨⟨l⟩⟩=>(match tt.get T with|some ⟨.str,_,_,_⟩=>pv (I l.length)|_=>none)
 |.slice _ n _=>(match tt.get T with|some ⟨.slice _,_,_,_⟩=>pv (I n)|_=>none)
 |_=>none
def zBs (tt:TT)(T:Nat):Value->Option Value->Option Value->PV
 |.string ⟨⟨l⟩⟩,some (.int _ i),some (.int _ n)=>(match tt.get T with|some ⟨.str,_,_,_⟩=>some (0<=i/\i<=n/\n<=l.length,S ((l.take n.toNat).drop i.toNat))|_=>none)
 |.string ⟨⟨l⟩⟩,some (.int _ i),none=>(match tt.get T with|some ⟨.str,_,_,_⟩=>some (0<=i/\i<=l.length,S (l.drop i.toNat))|_=>none)
 |.string ⟨⟨l⟩⟩,none,some (.int _ n)=>(match tt.get T with|some ⟨.str,_,_,_⟩=>some (0<=n/\n<=l.length,S (l.take n.toNat))|_=>none)
 |.slice (some ⟨A,off,some n⟩) len _,some (.int _ i),some (.int _ h)=>(match tt.get T with
  |some ⟨.slice E,_,_,_⟩=>(match tt.get E with|some ⟨_,s,_,_⟩=>some ((0<=i/\i<=h/\h<=len)/\(i<h\/i=0),gsl A (off+i.toNat*s) n (h-i).toNat 0)|none=>none)|_=>none)
 |.slice (some ⟨A,off,some n⟩) len _,some (.int _ i),none=>(match tt.get T with
  |some ⟨.slice E,_,_,_⟩=>(match tt.get E with|some ⟨_,s,_,_⟩=>some ((0<=i/\i<=len)/\(i<len\/i=0),gsl A (off+i.toNat*s) n (len-i.toNat) 0)|none=>none)|_=>none)
 |.slice (some ⟨A,off,some n⟩) len _,none,some (.int _ h)=>(match tt.get T with
  |some ⟨.slice E,_,_,_⟩=>(match tt.get E with|some _=>some (0<=h/\h<=len,gsl A off n h.toNat 0)|none=>none)|_=>none)
 |.pointer (some ⟨A,off,some n⟩),none,none=>(match tt.get T with
  |some ⟨.arr len E,_,_,_⟩=>(match tt.get E with|some _=>some (len<=maxLen,gsl A off n len 0)|none=>none)|_=>none)
 |.pointer (some ⟨A,off,some n⟩),none,some (.int _ h)=>(match tt.get T with
  |some ⟨.arr len E,_,_,_⟩=>(match tt.get E with|some _=>some ((0<=h/\h<=len)/\len<=maxLen,gsl A off n h.toNat 0)|none=>none)|_=>none)
 |_,_,_=>none
def gidx (tt:TT)(T:Nat):Value->Value->PV
 |.string ⟨⟨l⟩⟩,.int _ i=>(match tt.get T with|some ⟨.str,_,_,_⟩=>some (0<=i/\i<l.length,.int .u8 (bat l i))|_=>none)
 |.agg ⟨vs⟩,.int _ i=>(match tt.get T with
  |some ⟨.arr len E,_,_,_⟩=>(match tt.get E with
   |some ⟨k,1,_,_⟩=>(match k.agg,Nat.ble len vs.length with|false,true=>some (0<=i/\i<len,vs.getD i.toNat (.bool false))|_,_=>none)
   |_=>none)
  |_=>none)
 |_,_=>none
def zLj (tt:TT)(T:Nat):Value->Value->PV
 |.slice (some ⟨A,off,some n⟩) len _,.int _ i=>(match tt.get T with
  |some ⟨.slice E,_,_,_⟩=>(match tt.get E with|some ⟨_,s,_,_⟩=>some (0<=i/\i<len,zG A (off+i.toNat*s) n)|none=>none)|_=>none)
 |.pointer (some ⟨A,off,some n⟩),.int _ i=>(match tt.get T with
  |some ⟨.arr len E,_,_,_⟩=>(match tt.get E with|some ⟨_,s,_,_⟩=>some (0<=i/\i<len,zG A (off+i.toNat*s) n)|none=>none)|_=>none)
 |_,_=>none
def zOg (tt:TT)(T f:Nat):Value->PV
 |.pointer (some ⟨A,off,some n⟩)=>(match tt.get T with
  |some ⟨.st fs,_,_,_⟩=>(match fs[f]? with
   |some (F,fo)=>(match tt.get F with|some ⟨_,s+1,_,_⟩=>pv (zG A (off+fo) n)|_=>none)
   |none=>none)
  |_=>none)
 |_=>none
def gfld (tt:TT)(T f:Nat):Value->PV
 |.agg ⟨vs⟩=>(match tt.get T with
  |some ⟨.st fs,_,_,_⟩=>(match fs[f]? with
   |some (F,fo)=>(match tt.get F with
    |some e=>(match e.k.agg with|false=>(match vs[fo]? with|some v=>pv v|none=>none)|true=>none)
    |none=>none)
   |none=>none)
  |_=>none)
 |_=>none
def gext (i:Nat):Value->PV
 |.tuple ⟨vs⟩=>(match vs[i]? with|some v=>pv v|none=>none)
 |_=>none
def gnil :Value->PV
 |.pointer (some ad)=>pv (.pointer (some ad))
 |.func (.func f) us vs=>pv (.func (.func f) us vs)
 |_=>none
def ob {α β:Type}:Option α->(α->Option β)->Option β
 |some v,f=>f v
 |none,_=>none
theorem vU {α β:Type}{x:Option α}{f:α->Option β}{y:β}(h:ob x f=some y):∃v,x=some v/\f v=some y:=by
 cases x with
 |none=>cases h
 |some v=>exact⟨v,rfl,h⟩
def oo (a:AF):Option Operand->Option (Option Value)
 |none=>some none
 |some x=>match ev a x with|some v=>some (some v)|none=>none

def nY (tt:TT)(a:AF):Op->PV
 |.move x|.assign x=>(match ev a x with|some v=>pv v|none=>none)
 |.pick c x y=>(match ev a c with
  |some (.bool b)=>(match b with
   |true=>(match ev a x with|some v=>pv v|none=>none)
   |false=>(match ev a y with|some v=>pv v|none=>none))
  |_=>none)
 |.binOp op T x y _=>ob (ev a x) λu=>ob (ev a y) λv=>zBn tt T op u v
 |.index T x y=>ob (ev a x) λu=>ob (ev a y) λv=>gidx tt T u v
 |.indexAddr T x y=>ob (ev a x) λu=>ob (ev a y) λv=>zLj tt T u v
 |.fieldAddr T x f=>ob (ev a x) λu=>zOg tt T f u
 |.field T x f=>ob (ev a x) λu=>gfld tt T f u
 |.extract x i=>ob (ev a x) λu=>gext i u
 |.nilCheck x=>ob (ev a x) λu=>gnil u
 |.slice T x lo hi none=>ob (ev a x) λu=>ob (oo a lo) λl=>ob (oo a hi) λh=>zBs tt T u l h
 |.call ⟨.builtin .len,⟨[x]⟩,⟨[T]⟩⟩=>ob (ev a x) λu=>glen tt T u
 |_=>none
def zDf (op:BinOp):Value->Value->Option (Prop × IntKind × Int)
 |.int k m,.int k' n=>(match op with
   |.add=>bif ikb k k' then some (True,k,m+n)else none
   |.sub=>bif ikb k k' then some (True,k,m-n)else none
   |.mul=>bif ikb k k' then some (True,k,m*n)else none
   |.quo=>bif ikb k k' then some (n≠0,k,m.tdiv n)else none
   |.and=>bif ikb k k' then some (True,k,((BitVec.ofInt k.bits m&&&BitVec.ofInt k.bits n).toNat:Int))else none
   |.or=>bif ikb k k' then some (True,k,((BitVec.ofInt k.bits m ||| BitVec.ofInt k.bits n).toNat:Int))else none
   |.xor=>bif ikb k k' then some (True,k,((BitVec.ofInt k.bits m^^^BitVec.ofInt k.bits n).toNat:Int))else none
   |.shl=>some (0<=n,k,m*2^(min n.toNat k.bits))
   |_=>none)
 |_,_=>none
def gcon (tt:TT)(T U:Nat):Value->Option (Prop × IntKind × Int)
 |.int _ n=>(match tt.get T,tt.get U with|some _,some ⟨.int k,_,_,_⟩=>some (True,k,n)|_,_=>none)
 |_=>none
def gneg :Value->Option (Prop × IntKind × Int)
 |.int k n=>some (True,k,0-n)
 |_=>none
def nX (tt:TT)(a:AF):Op->Option (Prop × IntKind × Int)
 |.binOp op _ x y _=>ob (ev a x) λu=>ob (ev a y) λv=>zDf op u v
 |.unOp .neg _ x=>ob (ev a x) λu=>gneg u
 |.convert T U x=>ob (ev a x) λu=>gcon tt T U u
 |_=>none
def gex2 (op:BinOp):Value->Value->Option (Prop × IntKind × Int)
 |.int k m,.int k' n=>(match op with
   |.rem=>bif ikb k k' then some (n≠0,k,m.tmod n)else none
   |.shr=>some (0<=n,k,m/2^(min n.toNat k.bits))
   |_=>none)
 |_,_=>none
def iE (a:AF):Op->Option (Prop × IntKind × Int)
 |.binOp op _ x y _=>ob (ev a x) λu=>ob (ev a y) λv=>gex2 op u v
 |_=>none

section
variable {P:Program} {tt:TT} {N:Fr} {a:AF} {H:zI} {t:Nat} {op:Op} {ty:TypeId} {pos:String} {aft:Array Edge} {p:Prop} {v:Value}

theorem qA {u v:Value}{p:Prop}(h:pv u=some (p,v)):v=u:=by simp only[pv,Option.some.injEq,Prod.mk.injEq]at h;exact h.2.symm

theorem yBj (ht:tt.Ok P){o:BinOp}{T U:Nat}{x y:Operand}{u w:Value}(hx:ev a x=some u)(hy:ev a y=some w)(h:zBn tt T o u w=some (p,v))(hp:p) :
  zR P N ⟨some t,.binOp o T x y U,ty,pos,aft,none⟩ a H v:=by
 unfold zBn at h;split at h
 ·rename_i k m k' n
  cases hk:ikb k k' with
  |false=>rw[hk]at h;cases h
  |true =>
   rw[hk]at h;obtain rfl:=zPf hk;simp only[cond_true]at h;cases o <;> simp only[reduceCtorEq]at h <;> obtain rfl:=qA h
   ·exact zTh T U x y rfl hx hy
   ·exact zUt T U x y rfl hx hy
   ·exact zHu T U x y rfl hx hy
   ·exact zOi T U x y rfl hx hy
   ·exact zMg T U x y rfl hx hy
   ·exact zIf T U x y rfl hx hy
 ·cases o <;> simp only[reduceCtorEq]at h
  ·simp only[Option.some.injEq,Prod.mk.injEq]at h
   obtain⟨rfl,rfl⟩:=h;exact zSo T U x y rfl hx hy hp
  ·obtain rfl:=qA h;exact zMs T U x y rfl hx hy
  ·obtain rfl:=qA h;exact zTx T U x y rfl hx hy
  ·obtain rfl:=qA h;exact zPk T U x y rfl hx hy
  ·obtain rfl:=qA h;exact zTz T U x y rfl hx hy
 ·split at h
  ·rename_i h1
   have hb:=yAt (TT.get_ok ht h1) rfl;cases o <;> simp only[reduceCtorEq]at h <;> obtain rfl:=qA h
   ·exact zOd T U x y rfl hx hy hb
   ·exact zLg T U x y rfl hx hy hb
  ·cases h
 ·split at h
  ·rename_i h1
   have hb:=yKx (TT.get_ok ht h1) rfl;cases o <;> simp only[reduceCtorEq]at h <;> obtain rfl:=qA h
   ·exact zLr T U x y rfl hx hy hb
   ·exact zLx T U x y rfl hx hy hb
  ·cases h
 ·cases h

theorem oA {a:AF}{lo:Option Operand}(h:oo a lo=some none):lo=none:=by
 cases lo with
 |none=>rfl
 |some x=>simp only[oo]at h;split at h <;> cases h
theorem pV {a:AF}{lo:Option Operand}{v:Value}(h:oo a lo=some (some v)):∃x,lo=some x/\ev a x=some v:=by
 cases lo with
 |none=>cases h
 |some x =>
  simp only[oo]at h;split at h
  ·rename_i u hu;simp only[Option.some.injEq]at h;exact⟨x,rfl,by rw[hu,h]⟩
  ·cases h

theorem yBf (ht:tt.Ok P){T:Nat}{x:Operand}{lo hi:Option Operand}{u:Value}{ol oh:Option Value}(hx:ev a x=some u)(hl:oo a lo=some ol)(hh:oo a hi=some oh)(h:zBs tt T u ol oh=some (p,v))(hp:p) :
  zR P N ⟨some t,.slice T x lo hi none,ty,pos,aft,none⟩ a H v:=by
 unfold zBs at h;split at h
 ·obtain⟨xl,rfl,e1⟩:=pV hl
  obtain⟨xh,rfl,e2⟩:=pV hh;split at h
  ·rename_i h1
   simp only[Option.some.injEq,Prod.mk.injEq]at h;obtain⟨rfl,rfl⟩:=h;exact zUv T x xl xh rfl hx e1 e2 (mC (TT.get_ok ht h1) rfl) hp
  ·cases h
 ·obtain⟨xl,rfl,e1⟩:=pV hl
  obtain rfl:=oA hh;split at h
  ·rename_i h1
   simp only[Option.some.injEq,Prod.mk.injEq]at h;obtain⟨rfl,rfl⟩:=h;exact zRf T x xl rfl hx e1 (mC (TT.get_ok ht h1) rfl) hp
  ·cases h
 ·obtain rfl:=oA hl
  obtain⟨xh,rfl,e2⟩:=pV hh;split at h
  ·rename_i h1
   simp only[Option.some.injEq,Prod.mk.injEq]at h;obtain⟨rfl,rfl⟩:=h;exact zTf T x xh rfl hx e2 (mC (TT.get_ok ht h1) rfl) hp
  ·cases h
 ·obtain⟨xl,rfl,e1⟩:=pV hl
  obtain⟨xh,rfl,e2⟩:=pV hh;split at h
  ·rename_i h1
   split at h
   ·rename_i h2
    simp only[Option.some.injEq,Prod.mk.injEq]at h;obtain⟨rfl,rfl⟩:=h;obtain⟨z,hI,_⟩:=xQ (TT.get_ok ht h2);exact zKo T x xl xh rfl hx e1 e2 (vP (TT.get_ok ht h1) rfl) hI hp.1 hp.2
   ·cases h
  ·cases h
 ·obtain⟨xl,rfl,e1⟩:=pV hl
  obtain rfl:=oA hh;split at h
  ·rename_i h1
   split at h
   ·rename_i h2
    simp only[Option.some.injEq,Prod.mk.injEq]at h;obtain⟨rfl,rfl⟩:=h;obtain⟨z,hI,_⟩:=xQ (TT.get_ok ht h2);exact zLo T x xl rfl hx e1 (vP (TT.get_ok ht h1) rfl) hI hp.1 hp.2
   ·cases h
  ·cases h
 ·obtain rfl:=oA hl
  obtain⟨xh,rfl,e2⟩:=pV hh;split at h
  ·rename_i h1
   split at h
   ·rename_i h2
    simp only[Option.some.injEq,Prod.mk.injEq]at h;obtain⟨rfl,rfl⟩:=h;obtain⟨z,hI,_⟩:=xQ (TT.get_ok ht h2);exact zLy T x xh rfl hx e2 (vP (TT.get_ok ht h1) rfl) hI hp
   ·cases h
  ·cases h
 ·obtain rfl:=oA hl
  obtain rfl:=oA hh;split at h
  ·rename_i h1
   split at h
   ·rename_i h2
    simp only[Option.some.injEq,Prod.mk.injEq]at h;obtain⟨rfl,rfl⟩:=h;obtain⟨z,hI,_⟩:=xQ (TT.get_ok ht h2);exact yFx T x rfl hx (eJ (TT.get_ok ht h1) rfl) hI hp
   ·cases h
  ·cases h
 ·obtain rfl:=oA hl
  obtain⟨xh,rfl,e2⟩:=pV hh;split at h
  ·rename_i h1
   split at h
   ·rename_i h2
    simp only[Option.some.injEq,Prod.mk.injEq]at h;obtain⟨rfl,rfl⟩:=h;obtain⟨z,hI,_⟩:=xQ (TT.get_ok ht h2);exact yDm T x xh rfl hx e2 (eJ (TT.get_ok ht h1) rfl) hI hp.1 hp.2
   ·cases h
  ·cases h
 ·cases h

theorem zXc (ht:tt.Ok P)(h:nY tt a op=some (p,v))(hp:p):zR P N ⟨some t,op,ty,pos,aft,none⟩ a H v:=by
 unfold nY at h;split at h
 ·split at h
  ·rename_i hx;obtain rfl:=qA h;exact rP _ rfl hx
  ·cases h
 ·split at h
  ·rename_i hx;obtain rfl:=qA h;exact iP _ rfl hx
  ·cases h
 ·rename_i c x y
  split at h
  ·rename_i hc
   split at h
   ·split at h
    ·rename_i hx;obtain rfl:=qA h;exact zSi c x y rfl hc rfl hx
    ·cases h
   ·split at h
    ·rename_i hx;obtain rfl:=qA h;exact zVh c x y rfl hc rfl hx
    ·cases h
  ·cases h
 ·obtain⟨u,hx,h⟩:=vU h
  obtain⟨w,hy,h⟩:=vU h;exact yBj ht hx hy h hp
 ·obtain⟨u,hx,h⟩:=vU h
  obtain⟨w,hy,h⟩:=vU h;unfold gidx at h;split at h
  ·split at h
   ·rename_i h1
    simp only[Option.some.injEq,Prod.mk.injEq]at h;obtain⟨rfl,rfl⟩:=h;exact zPm _ _ _ rfl hx hy (mC (TT.get_ok ht h1) rfl) hp
   ·cases h
  ·split at h
   ·rename_i h1
    split at h
    ·rename_i h2
     split at h
     ·rename_i h3 h4
      simp only[Option.some.injEq,Prod.mk.injEq]at h;obtain⟨rfl,rfl⟩:=h;obtain⟨z,hI,_⟩:=xQ (TT.get_ok ht h2);have hlen:=Nat.le_of_ble_eq_true h4;refine zKm _ _ _ rfl hx hy (eJ (TT.get_ok ht h1) rfl) (by rw[eO (TT.get_ok ht h2)];exact congrArg some h3) hI hp ?_;rw[List.getD_eq_getElem?_getD,List.getElem?_eq_getElem (by omega)];rfl
     ·cases h
    ·cases h
   ·cases h
  ·cases h
 ·obtain⟨u,hx,h⟩:=vU h
  obtain⟨w,hy,h⟩:=vU h;unfold zLj at h;split at h
  ·split at h
   ·rename_i h1
    split at h
    ·rename_i h2
     simp only[Option.some.injEq,Prod.mk.injEq]at h;obtain⟨rfl,rfl⟩:=h;obtain⟨z,hI,_⟩:=xQ (TT.get_ok ht h2);exact zQt _ _ _ rfl hx hy (vP (TT.get_ok ht h1) rfl) hI hp
    ·cases h
   ·cases h
  ·split at h
   ·rename_i h1
    split at h
    ·rename_i h2
     simp only[Option.some.injEq,Prod.mk.injEq]at h;obtain⟨rfl,rfl⟩:=h;obtain⟨z,hI,_⟩:=xQ (TT.get_ok ht h2);exact zTk _ _ _ rfl hx hy (eJ (TT.get_ok ht h1) rfl) hI hp
    ·cases h
   ·cases h
  ·cases h
 ·obtain⟨u,hx,h⟩:=vU h
  unfold zOg at h;split at h
  ·split at h
   ·rename_i h1
    split at h
    ·rename_i h2
     split at h
     ·rename_i h3
      obtain rfl:=qA h;obtain⟨z,hI,_⟩:=xQ (TT.get_ok ht h3);exact nG _ _ _ rfl hx (zSa (TT.get_ok ht h1) rfl h2) hI (by simp)
     ·cases h
    ·cases h
   ·cases h
  ·cases h
 ·obtain⟨u,hx,h⟩:=vU h
  unfold gfld at h;split at h
  ·split at h
   ·rename_i h1
    split at h
    ·rename_i h2
     split at h
     ·rename_i h3
      split at h
      ·rename_i h4
       split at h
       ·rename_i h5
        obtain rfl:=qA h;exact zLq _ _ _ rfl hx (zSa (TT.get_ok ht h1) rfl h2) (by rw[eO (TT.get_ok ht h3),h4]) h5
       ·cases h
      ·cases h
     ·cases h
    ·cases h
   ·cases h
  ·cases h
 ·obtain⟨u,hx,h⟩:=vU h
  unfold gext at h;split at h
  ·split at h
   ·rename_i h1
    obtain rfl:=qA h;exact zLs _ _ rfl hx (by simpa using h1)
   ·cases h
  ·cases h
 ·obtain⟨u,hx,h⟩:=vU h
  unfold gnil at h;split at h
  ·obtain rfl:=qA h;exact dR _ rfl hx
  ·obtain rfl:=qA h;exact zTp _ rfl hx
  ·cases h
 ·obtain⟨u,hx,h⟩:=vU h
  obtain⟨l,hl,h⟩:=vU h;obtain⟨w,hw,h⟩:=vU h;exact yBf ht hx hl hw h hp
 ·obtain⟨u,hx,h⟩:=vU h
  unfold glen at h;split at h
  ·split at h
   ·rename_i h1
    obtain rfl:=qA h;exact zMx _ _ rfl hx (mC (TT.get_ok ht h1) rfl)
   ·cases h
  ·split at h
   ·rename_i h1
    obtain rfl:=qA h;exact zVu _ _ rfl hx (vP (TT.get_ok ht h1) rfl)
   ·cases h
  ·cases h
 ·cases h

variable {k:IntKind} {e r:Int}
theorem nL {k1 k2:IntKind}{q:Prop}{x:Int}(hq:(bif ikb k1 k2 then some (q,k1,x)else none)=some (p,k,e)):k1=k2/\q=p/\k1=k/\x=e:=by
 cases hb:ikb k1 k2 with
 |false=>rw[hb]at hq;cases hq
 |true=>rw[hb]at hq;simp only[cond_true,Option.some.injEq,Prod.mk.injEq]at hq;exact⟨zPf hb,hq.1,hq.2.1,hq.2.2⟩
theorem yQa {o:BinOp}{T U:Nat}{x y:Operand}{u w:Value}(hx:ev a x=some u)(hy:ev a y=some w)(h:zDf o u w=some (p,k,e))(hp:p)(hr:k.wrap e=r) :
  zR P N ⟨some t,.binOp o T x y U,ty,pos,aft,none⟩ a H (.int k r):=by
 unfold zDf at h;split at h
 ·cases o <;> simp only[reduceCtorEq]at h
  ·obtain⟨rfl,rfl,rfl,rfl⟩:=nL h;exact zQf _ _ _ _ rfl hx hy hr
  ·obtain⟨rfl,rfl,rfl,rfl⟩:=nL h;exact zJj _ _ _ _ rfl hx hy hr
  ·obtain⟨rfl,rfl,rfl,rfl⟩:=nL h;exact zHr _ _ _ _ rfl hx hy hr
  ·obtain⟨rfl,rfl,rfl,rfl⟩:=nL h;exact zQv _ _ _ _ rfl hx hy hp hr
  ·obtain⟨rfl,rfl,rfl,rfl⟩:=nL h;exact zKy _ _ _ _ rfl hx hy hr
  ·obtain⟨rfl,rfl,rfl,rfl⟩:=nL h;exact a_or _ _ _ _ rfl hx hy hr
  ·obtain⟨rfl,rfl,rfl,rfl⟩:=nL h;exact zPn _ _ _ _ rfl hx hy hr
  ·simp only[Option.some.injEq,Prod.mk.injEq]at h
   obtain⟨rfl,rfl,rfl⟩:=h;exact zMr _ _ _ _ rfl hx hy hp hr
 ·cases h
theorem yOt (ht:tt.Ok P)(h:nX tt a op=some (p,k,e))(hp:p)(hr:k.wrap e=r):zR P N ⟨some t,op,ty,pos,aft,none⟩ a H (.int k r):=by
 unfold nX at h;split at h
 ·obtain⟨u,hx,h⟩:=vU h
  obtain⟨w,hy,h⟩:=vU h;exact yQa hx hy h hp hr
 ·obtain⟨u,hx,h⟩:=vU h
  unfold gneg at h;split at h
  ·simp only[Option.some.injEq,Prod.mk.injEq]at h
   obtain⟨rfl,rfl,rfl⟩:=h;exact zNk _ _ rfl hx hr
  ·cases h
 ·obtain⟨u,hx,h⟩:=vU h
  unfold gcon at h;split at h
  ·split at h
   ·rename_i h1 h2
    simp only[Option.some.injEq,Prod.mk.injEq]at h;obtain⟨rfl,rfl,rfl⟩:=h;obtain⟨d,hd,_⟩:=pB (TT.get_ok ht h1);exact zJo _ _ _ rfl hx hd (zHd (TT.get_ok ht h2) rfl) hr
   ·cases h
  ·cases h
 ·cases h
theorem yNv (h:iE a op=some (p,k,e))(hp:p)(hr:e=r):zR P N ⟨some t,op,ty,pos,aft,none⟩ a H (.int k r):=by
 unfold iE at h;split at h
 ·obtain⟨u,hx,h⟩:=vU h
  obtain⟨w,hy,h⟩:=vU h;unfold gex2 at h;split at h
  ·rename_i o _ _ _ _ _ _ _ _ _ _ _ _
   cases o <;> simp only[reduceCtorEq]at h
   ·obtain⟨rfl,rfl,rfl,rfl⟩:=nL h;exact zTi _ _ _ _ rfl hx hy hp hr
   ·simp only[Option.some.injEq,Prod.mk.injEq]at h
    obtain⟨rfl,rfl,rfl⟩:=h;refine zOy _ _ _ _ rfl hx hy hp ?_;rw[<-hr];exact Int.fdiv_eq_ediv_of_nonneg _ (Int.pow_nonneg (by decide))
  ·cases h
 ·cases h
end
section
variable {tt:TT} {a a':AF} {op:Op}
theorem zNt {lo:Option Operand}(h:∀x∈lo.toArray,ev a' x=ev a x):oo a' lo=oo a lo:=by
 cases lo with
 |none=>rfl
 |some x=>simp only[oo,h x (by simp)]
theorem yDq (h:∀x∈op.operands,ev a' x=ev a x):nY tt a' op=nY tt a op:=by
 unfold nY;split
 ·rw[h _ (by simp[Op.operands])]
 ·rw[h _ (by simp[Op.operands])]
 ·rename_i c x y
  rw[h c (by simp[Op.operands]),h x (by simp[Op.operands]),h y (by simp[Op.operands])]
 ·rename_i o T x y U
  rw[h x (by simp[Op.operands]),h y (by simp[Op.operands])]
 ·rename_i T x y
  rw[h x (by simp[Op.operands]),h y (by simp[Op.operands])]
 ·rename_i T x y
  rw[h x (by simp[Op.operands]),h y (by simp[Op.operands])]
 ·rw[h _ (by simp[Op.operands])]
 ·rw[h _ (by simp[Op.operands])]
 ·rw[h _ (by simp[Op.operands])]
 ·rw[h _ (by simp[Op.operands])]
 ·rename_i T x lo hi
  rw[h x (by simp[Op.operands]),zNt (lo:=lo) (λy hy=>h y (by simp only[Op.operands,Array.mem_append];simp_all)),zNt (lo:=hi) (λy hy=>h y (by simp only[Op.operands,Array.mem_append];simp_all))]
 ·rename_i x T
  rw[h x (by simp[Op.operands,Call.operands])]
 ·rfl
theorem zXe (h:∀x∈op.operands,ev a' x=ev a x):nX tt a' op=nX tt a op:=by
 unfold nX;split
 ·rename_i o T x y U
  rw[h x (by simp[Op.operands]),h y (by simp[Op.operands])]
 ·rw[h _ (by simp[Op.operands])]
 ·rw[h _ (by simp[Op.operands])]
 ·rfl
theorem yAk (h:∀x∈op.operands,ev a' x=ev a x):iE a' op=iE a op:=by
 unfold iE;split
 ·rename_i o T x y U
  rw[h x (by simp[Op.operands]),h y (by simp[Op.operands])]
 ·rfl
theorem cM :∀{xs:List Operand},(∀x∈xs,ev a' x=ev a x)->evs a' xs=evs a xs
 |[],_=>rfl
 |y::ys,hy=>by simp only[evs,hy y List.mem_cons_self,cM λz hz=>hy z (List.mem_cons_of_mem _ hz)]
theorem bK :∀{ps:List (Nat × Operand)},(∀x∈ps,ev a' x.2=ev a x.2)->vG a' ps=vG a ps
 |[],_=>rfl
 |(n,y)::ys,hy=>by
  have e:ev a' y=ev a y:=hy (n,y) List.mem_cons_self;simp only[vG,e,bK λz hz=>hy z (List.mem_cons_of_mem _ hz)]
end

inductive yD :List Value->Nat->Value->List Value->Prop
 |zero {x v l}:yD (x::l) 0 v (v::l)
 |succ {x v l n l'}:yD l n v l'->yD (x::l) (n+1) v (x::l')
theorem yD.ok {l l':List Value}{n:Nat}{v:Value}(h:yD l n v l'):n<l.length/\l'=l.set n v:=by
 induction h with
 |zero=>simp
 |succ _ ih=>obtain⟨h1,rfl⟩:=ih;simp;omega
theorem yD.any {l:List Value}{n:Nat}{v:Value}(h:n<l.length):yD l n v (l.set n v):=by
 induction l generalizing n with
 |nil=>simp at h
 |cons x r ih =>
  cases n with
  |zero=>exact .zero
  |succ n=>exact .succ (ih (by simpa using h))
def rJ (l:List Value)(o:Nat)(vs l':List Value):Prop:=o+vs.length<=l.length/\l'=wO l o vs
theorem kE {l vs:List Value}(h:l.length=vs.length):rJ l 0 vs vs:=⟨by omega,by
 unfold wO;rw[List.drop_of_length_le (by omega)];simp⟩

theorem yDo {l l':List Value}{o:Nat}{v:Value}(h:yD l o v l'):rJ l o [v] l':=by
 obtain⟨h1,rfl⟩:=h.ok;refine⟨by simp;omega,?_⟩;simp only[wO,List.length_singleton];rw[List.set_eq_take_append_cons_drop,if_pos h1];simp

inductive yT (pl:List (Nat × Nat)):List Value->List (Nat × Value)->List Value->Prop
 |nil {zs}:yT pl zs [] zs
 |one {zs zs' i off v r out} (hp:pl[i]?=some (off,1)) (ho:Go.Gh.one v=true) (hs:yD zs off v zs') (k:yT pl zs' r out):yT pl zs ((i,v)::r) out
 |agg {zs zs' i off s vs r out} (hp:pl[i]?=some (off,s)) (ho:vs.length=s) (hs:rJ zs off vs zs') (k:yT pl zs' r out):yT pl zs ((i,.agg ⟨vs⟩)::r) out
theorem zIe {v:Value}(hv:one v=true):v.cells=#[v]:=by cases v <;> first|(simp[one]at hv;done)|rfl
theorem zCm {places:Nat->Option (Nat × Nat)}{cells:List Value}{i off size:Nat}{v:Value}{r:List (Nat × Value)}(hp:places i=some (off,size))(hs:v.cells.size=size)(hl:off+size<=cells.length) :
  wN places cells ((i,v)::r)=wN places (wO cells off v.cells.toList) r:=by
 simp only[wN,hp,wN.constOk1,hs,hl,decide_true,Bool.and_self,cond_true]
theorem yT.ok {pl:List (Nat × Nat)}{zs out:List Value}{vs:List (Nat × Value)}(h:yT pl zs vs out):wN (λi:Nat=>pl[i]?) zs vs=some out:=by
 induction h with
 |nil=>rfl
 |@one zs zs' i off v r out hp ho hs _ ih =>
  obtain⟨h1,h2⟩:=yDo hs;have e:=zIe ho;rw[zCm hp (by rw[e];rfl) h1,e];rw[<-ih,h2]
 |@agg zs zs' i off s vs r out hp ho hs _ ih =>
  obtain⟨h1,h2⟩:=hs;rw[zCm hp (by simpa[Value.cells]using ho) (by omega)];rw[<-ih,h2];rfl

inductive xE (s:Nat):Nat->List (Nat × Value)->List Value->Prop
 |nil {k}:xE s k [] []
 |one {k v r out} (hs:s=1) (ho:Go.Gh.one v=true) (h:xE s (k+1) r out):xE s k ((k,v)::r) (v::out)
 |agg {k vs r out} (ho:vs.length=s) (h:xE s (k+1) r out):xE s k ((k,.agg ⟨vs⟩)::r) (vs++out)
 |last {k vs} (ho:vs.length=s):xE s k [(k,.agg ⟨vs⟩)] vs
theorem xE.len {s k:Nat}{vs:List (Nat × Value)}{out:List Value}(h:xE s k vs out):out.length=vs.length*s:=by
 induction h with
 |nil=>simp
 |one hs _ _ ih=>subst hs;simp[ih]
 |agg ho _ ih=>simp only[List.length_append,List.length_cons,ho,ih,Nat.add_mul,Nat.one_mul];omega
 |last ho=>simp[ho]
theorem xE.ok {s k:Nat}{vs:List (Nat × Value)}{out:List Value}(h:xE s k vs out):∀pre zs:List Value,pre.length=k*s->zs.length=vs.length*s->wN (λi=>some (i*s,s)) (pre++zs) vs=some (pre++out):=by
 have step:∀(pre zs cs:List Value) (k m:Nat),pre.length=k*s->cs.length=s->zs.length=(m+1)*s->wO (pre++zs) (k*s) cs=(pre++cs)++zs.drop s:=by
  intro pre zs cs k m h1 h2 h3;unfold wO;rw[<-h1,h2,List.take_append_of_le_length (Nat.le_refl _),List.take_length,List.drop_append,List.drop_of_length_le (by omega),show pre.length+s-pre.length=s by omega,List.nil_append]
 have main:∀(k:Nat) (v:Value) (cs:List Value) (r:List (Nat × Value)) (out pre zs:List Value),v.cells.toList=cs->cs.length=s->pre.length=k*s->zs.length=(r.length+1)*s ->
   (∀pre zs:List Value,pre.length=(k+1)*s->zs.length=r.length*s->wN (λi=>some (i*s,s)) (pre++zs) r=some (pre++out)) ->
   wN (λi=>some (i*s,s)) (pre++zs) ((k,v)::r)=some (pre++(cs++out)):=by
  intro k v cs r out pre zs hv hc hp hz ih;have hsz:v.cells.size=s:=by rw[<-Array.length_toList,hv,hc]
  have hle:k*s+s<=(pre++zs).length:=by rw[List.length_append,hp,hz,Nat.add_mul];omega
  rw[zCm rfl hsz hle,hv,step pre zs cs k r.length hp hc hz,ih (pre++cs) (zs.drop s) (by simp[hp,hc,Nat.add_mul]) (by rw[List.length_drop,hz,Nat.add_mul];omega),List.append_assoc]
 induction h with
 |nil=>intro pre zs h1 h2;simp at h2;subst h2;rfl
 |@one k v r out hs ho h ih =>
  subst hs;intro pre zs h1 h2;exact main k v [v] r out pre zs (by rw[zIe ho]) rfl h1 h2 ih
 |@agg k vs r out ho h ih =>
  intro pre zs h1 h2;exact main k (.agg ⟨vs⟩) vs r out pre zs rfl ho h1 h2 ih
 |@last k vs ho =>
  intro pre zs h1 h2;have:=main k (.agg ⟨vs⟩) vs [] [] pre zs rfl ho h1 h2 (λpre zs _ h2=>by simp at h2;subst h2;rfl);rw[List.append_nil]at this;exact this

structure Sd (p:Prop):Prop where
 h:p
structure Ln (p:Prop):Prop where
 h:p
structure Wr (p:Prop):Prop where
 h:p
structure Ex (p:Prop):Prop where
 h:p
structure Ce (p:Prop):Prop where
 h:p
structure Rc (p:Prop):Prop where
 h:p
structure Su (p:Prop):Prop where
 h:p
structure Se (p:Prop):Prop where
 h:p
structure Pu (p:Prop):Prop where
 h:p

section
variable {P:Program} {tt:TT} {sz:Nat} {ops:Array Oper} {Q:wA} {rest:List Oper} {a:AF} {h h' h1:SH} {m:Mode} {t:Nat} {op:Op} {ty:TypeId} {pos:String} {aft:Array Edge} {p:Prop} {v:Value}

theorem o_g (ht:tt.Ok P)(hg:nY tt a op=some (p,v))(hN:Nat.blt t sz=true)(hp:Sd p)(k:GO m.next P sz ops Q rest ((t,v)::a) h):GO m P sz ops Q (⟨some t,op,ty,pos,aft,none⟩::rest) a h :=
 qL (λ_ _ _ hag=>zXc ht ((yDq λ_ hx=>hag.ev hx).trans hg) hp.1) hN k
theorem o_ar {kk:IntKind}{e r:Int}(ht:tt.Ok P)(hg:nX tt a op=some (p,kk,e))(hN:Nat.blt t sz=true)(hp:Sd p)(hr:Wr (kk.wrap e=r))(k:GO m.next P sz ops Q rest ((t,.int kk r)::a) h) :
  GO m P sz ops Q (⟨some t,op,ty,pos,aft,none⟩::rest) a h:=qL (λ_ _ _ hag=>yOt ht ((zXe λ_ hx=>hag.ev hx).trans hg) hp.1 hr.1) hN k
theorem uW {kk:IntKind}{e r:Int}(hg:iE a op=some (p,kk,e))(hN:Nat.blt t sz=true)(hp:Sd p)(hr:Ex (e=r))(k:GO m.next P sz ops Q rest ((t,.int kk r)::a) h) :
  GO m P sz ops Q (⟨some t,op,ty,pos,aft,none⟩::rest) a h:=qL (λ_ _ _ hag=>yNv ((yAk λ_ hx=>hag.ev hx).trans hg) hp.1 hr.1) hN k
theorem mU {T:Nat}{x:Operand}{q:Prop}{_:Decidable (q)}(hx:ev a x=some (.bool (decide q)))(hN:Nat.blt t sz=true)(k:GO m.next P sz ops Q rest ((t,.bool (decide (¬q)))::a) h) :
  GO m P sz ops Q (⟨some t,.unOp .not T x,ty,pos,aft,none⟩::rest) a h:=by
 refine qL (λ_ _ _ hag=>?_) hN k;rw[show decide (¬q)=!decide q from by simp];exact zCw _ _ rfl ((hag.ev (by simp[Op.operands,Call.operands])).trans hx)
theorem yS {T:Nat}{x:Operand}{b:Bool}(hx:ev a x=some (.bool b))(hN:Nat.blt t sz=true)(k:GO m.next P sz ops Q rest ((t,.bool (!b))::a) h) :
  GO m P sz ops Q (⟨some t,.unOp .not T x,ty,pos,aft,none⟩::rest) a h:=qL (λ_ _ _ hag=>zCw _ _ rfl ((hag.ev (by simp[Op.operands,Call.operands])).trans hx)) hN k
theorem pU {T U:Nat}{x y:Operand}{kk:IntKind}{i j:Int}(hx:ev a x=some (.int kk i))(hy:ev a y=some (.int kk j))(hN:Nat.blt t sz=true)(k:GO m.next P sz ops Q rest ((t,.int kk (min i j))::a) h) :
  GO m P sz ops Q (⟨some t,.call { callee:=.builtin .min,args:=#[x,y],argTypes:=#[T,U] },ty,pos,aft,none⟩::rest) a h:=qL (λ_ _ _ hag=>zJl T U x y rfl ((hag.ev (by simp[Op.operands,Call.operands])).trans hx) ((hag.ev (by simp[Op.operands,Call.operands])).trans hy)) hN k
theorem uQ {T U:Nat}{x y:Operand}{kk:IntKind}{i j:Int}(hx:ev a x=some (.int kk i))(hy:ev a y=some (.int kk j))(hN:Nat.blt t sz=true)(k:GO m.next P sz ops Q rest ((t,.int kk (max i j))::a) h) :
  GO m P sz ops Q (⟨some t,.call { callee:=.builtin .max,args:=#[x,y],argTypes:=#[T,U] },ty,pos,aft,none⟩::rest) a h:=qL (λ_ _ _ hag=>zKg T U x y rfl ((hag.ev (by simp[Op.operands,Call.operands])).trans hx) ((hag.ev (by simp[Op.operands,Call.operands])).trans hy)) hN k
theorem rK {fn:Fn}{xs ys:List Operand}{us vs:List Value}(hx:evs a xs=some us)(hy:evs a ys=some vs)(hN:Nat.blt t sz=true)(k:GO m.next P sz ops Q rest ((t,.func fn us.toArray vs.toArray)::a) h) :
  GO m P sz ops Q (⟨some t,.makeFunc fn xs.toArray ys.toArray,ty,pos,aft,none⟩::rest) a h:=qL (λ_ _ _ hag=>mM fn xs ys rfl ((cM λx hx=>hag.ev (by simp[Op.operands,hx])).trans hx) ((cM λx hx=>hag.ev (by simp[Op.operands,hx])).trans hy)) hN k
theorem bP {T:Nat}{x lo:Operand}{A off n len fl:Nat}{j:IntKind}{i:Int}{E s b:Nat}{z:Option Value}{e:TE}(ht:tt.Ok P)(hx:ev a x=some (gsl A off n len fl))(hlo:ev a lo=some (.int j i))(hT:tt.get T=some ⟨.slice E,s,b,z⟩)(hE:tt.get E=some e)(hi:i=len)
  (hN:Nat.blt t sz=true) (k:GO m.next P sz ops Q rest ((t,iL)::a) h):GO m P sz ops Q (⟨some t,.slice T x (some lo) none none,ty,pos,aft,none⟩::rest) a h :=
 qL (λ_ _ _ hag=>let ⟨_,hI,_⟩:=xQ (TT.get_ok ht hE);zMy T x lo rfl ((hag.ev (by simp[Op.operands,Call.operands])).trans hx) ((hag.ev (by simp[Op.operands,Call.operands])).trans hlo) (vP (TT.get_ok ht hT) rfl) hI hi) hN k
theorem bG {T U:Nat}{x y:Operand}{xs ys:List Value}{n:Nat}(hx:ev a x=some (.agg ⟨xs⟩))(hy:ev a y=some (.agg ⟨ys⟩))(hn:xs.length=n)(hT:sW P T n=true)(hm:ys.length=n)(hl:yW xs ys=true)(hk:uY P T xs=true)(hN:Nat.blt t sz=true)
  (k:GO m.next P sz ops Q rest ((t,.bool (decide (¬xI xs ys=true)))::a) h):GO m P sz ops Q (⟨some t,.binOp .neq T x y U,ty,pos,aft,none⟩::rest) a h:=qL (λ_ _ _ hag=>zKv T U x y rfl ((hag.ev (by simp[Op.operands,Call.operands])).trans hx) ((hag.ev (by simp[Op.operands,Call.operands])).trans hy) hT hn hm hl hk) hN k
theorem xZ {T:Nat}{ps:List (Nat × Operand)}{fs:List (Nat × Nat)}{pl:List (Nat × Nat)}{zs out:List Value}{s b:Nat}{vs:List (Nat × Value)}(ht:tt.Ok P)(hT:tt.get T=some ⟨.st fs,s,b,some (.agg ⟨zs⟩)⟩)(hv:vG a ps=some vs)(hp:sH P T=some pl)
  (hz:yB (.agg ⟨zs⟩)=true) (hb:yT pl zs vs out) (hN:Nat.blt t sz=true) (k:GO m.next P sz ops Q rest ((t,.agg ⟨out⟩)::a) h):GO m P sz ops Q (⟨some t,.build T ps.toArray,ty,pos,aft,none⟩::rest) a h :=
 qL (λ_ _ _ hag=>let ⟨_,hI,hz'⟩:=xQ (TT.get_ok ht hT);zMh T ps rfl ((bK λx hx=>hag.ev (by simp only[Op.operands];exact List.mem_toArray.2 (List.mem_map.2 ⟨x,by simpa using hx,rfl⟩))).trans hv) hp (hz' _ rfl▸hI) hz hb.ok) hN k

theorem yMl {T n E:Nat}{ps:List (Nat × Operand)}{zs out:List Value}{s b:Nat}{e:TE}{vs:List (Nat × Value)}(ht:tt.Ok P)(hT:tt.get T=some ⟨.arr n E,s,b,some (.agg ⟨zs⟩)⟩)(hE:tt.get E=some e)(hv:vG a ps=some vs)
  (hz:yB (.agg ⟨zs⟩)=true) (hb:yT (fL n e.sz) zs vs out) (hN:Nat.blt t sz=true) (k:GO m.next P sz ops Q rest ((t,.agg ⟨out⟩)::a) h):GO m P sz ops Q (⟨some t,.build T ps.toArray,ty,pos,aft,none⟩::rest) a h :=
 qL (λ_ _ _ hag=>let ⟨_,hI,hz'⟩:=xQ (TT.get_ok ht hT);let ⟨_,hI2,_⟩:=xQ (TT.get_ok ht hE);zNf T ps rfl ((bK λx hx=>hag.ev (by simp only[Op.operands];exact List.mem_toArray.2 (List.mem_map.2 ⟨x,by simpa using hx,rfl⟩))).trans hv) (eJ (TT.get_ok ht hT) rfl) hI2 (hz' _ rfl▸hI) hz hb.ok) hN k

theorem yJe {T:Nat}{x:Operand}{A off n:Nat}{g:Blk}{e:TE}(ht:tt.Ok P)(hx:ev a x=some (zG A off n))(hT:tt.get T=some e)(hk:e.k.agg=false)(hp:Pick h A g h1)(hN:Nat.blt t sz=true)(hn:Ln (g.cells.length=n))(hc:Ce (g.cells[off]?=some v))
  (hok:m.rdOk ops λh'=>Rc (∃g h1,Pick h' A g h1/\Ln (g.cells.length=n)/\Ce (g.cells[off]?=some v))) (k:GO (m.rd λh'=>Rc (∃g h1,Pick h' A g h1/\Ln (g.cells.length=n)/\Ce (g.cells[off]?=some v))) P sz ops Q rest ((t,v)::a) h):GO m P sz ops Q (⟨some t,.load T x,ty,pos,aft,none⟩::rest) a h :=
 tZ (λh'=>Rc (∃g h1,Pick h' A g h1/\Ln (g.cells.length=n)/\Ce (g.cells[off]?=some v))) ⟨_,_,hp,hn,hc⟩ (λ_ _ _ _ _ i ⟨_,_,hp,⟨hn⟩,⟨hc⟩⟩ hag=>zJa T x rfl ((hag.ev (by simp[Op.operands,Call.operands])).trans hx) (by rw[eO (TT.get_ok ht hT),hk]) (i.look hp) hn hc) hN hok k
def xF (l:List Value)(o:Nat)(vs:List Value):Prop:=∀(i:Nat) v,vs[i]?=some v->l[o+i]?=some v
theorem xY {l:List Value}:xF l 0 l:=λi v h=>by rw[Nat.zero_add];exact h
theorem zHs {l:List Value}{o n:Nat}(h:o+n<=l.length):xF l o ((l.drop o).take n):=λi v hi=>by
 rw[List.getElem?_take]at hi;split at hi
 ·rwa [List.getElem?_drop]at hi
 ·cases hi
theorem yDu {T:Nat}{x:Operand}{A off n:Nat}{g:Blk}{e:TE}{vs:List Value}(ht:tt.Ok P)(hx:ev a x=some (zG A off n))(hT:tt.get T=some e)(hk:e.k.agg=true)(hp:Pick h A g h1)(hN:Nat.blt t sz=true)(hn:Ln (g.cells.length=n))(hc:Su (xF g.cells off vs))(hs:Ln (vs.length=e.sz))
  (hok:m.rdOk ops λh'=>Rc (∃g h1,Pick h' A g h1/\Ln (g.cells.length=n)/\Su (xF g.cells off vs))) (k:GO (m.rd λh'=>Rc (∃g h1,Pick h' A g h1/\Ln (g.cells.length=n)/\Su (xF g.cells off vs))) P sz ops Q rest ((t,.agg ⟨vs⟩)::a) h):GO m P sz ops Q (⟨some t,.load T x,ty,pos,aft,none⟩::rest) a h :=
 tZ (λh'=>Rc (∃g h1,Pick h' A g h1/\Ln (g.cells.length=n)/\Su (xF g.cells off vs))) ⟨_,_,hp,hn,hc⟩ (λ_ _ _ _ _ i ⟨_,_,hp,⟨hn⟩,⟨hc⟩⟩ hag=>let ⟨_,hI,_⟩:=xQ (TT.get_ok ht hT);zVn T x rfl ((hag.ev (by simp[Op.operands,Call.operands])).trans hx) (by rw[eO (TT.get_ok ht hT),hk]) hI (i.look hp) hn hs.1 hc) hN hok k
theorem dS {T U:Nat}{x:Operand}{A off n len fl E s b:Nat}{z:Option Value}{e1 e2:TE}{g:Blk}{l:List UInt8}(ht:tt.Ok P)(hx:ev a x=some (gsl A off n len fl))(hT:tt.get T=some ⟨.slice E,s,b,z⟩)(hE:tt.get E=some e1)(hU:tt.get U=some e2)
  (k1:e1.k=.int .u8) (k2:e2.k=.str) (hp:Pick h A g h1) (hN:Nat.blt t sz=true) (hn:Ln (g.cells.length=n)) (hc:Su (xF g.cells off (zS l))) (hl:Ln (l.length=len)) (hok:m.rdOk ops λh'=>Rc (∃g h1,Pick h' A g h1/\Ln (g.cells.length=n)/\Su (xF g.cells off (zS l)))) (k:GO (m.rd λh'=>Rc (∃g h1,Pick h' A g h1/\Ln (g.cells.length=n)/\Su (xF g.cells off (zS l)))) P sz ops Q rest ((t,S l)::a) h) :
  GO m P sz ops Q (⟨some t,.convert T U x,ty,pos,aft,none⟩::rest) a h :=
 tZ (λh'=>Rc (∃g h1,Pick h' A g h1/\Ln (g.cells.length=n)/\Su (xF g.cells off (zS l)))) ⟨_,_,hp,hn,hc⟩ (λ_ _ _ _ _ i ⟨_,_,hp,⟨hn⟩,⟨hc⟩⟩ hag=>zSk T U x rfl ((hag.ev (by simp[Op.operands,Call.operands])).trans hx) (vP (TT.get_ok ht hT) rfl) (zHd (TT.get_ok ht hE) k1) (mC (TT.get_ok ht hU) k2) (i.look hp) hn hl.1 hc) hN hok k
def mG :Value->List Value
 |.agg ⟨vs⟩=>vs
 |v=>[v]
theorem lT (v:Value):v.cells.toList=mG v:=by cases v <;> rfl
def vcl (v:Value):Option (List Value):=match v with
 |.agg ⟨vs⟩=>some vs
 |v=>some [v]
theorem zUz {v:Value}{c:List Value}(hv:vcl v=some c):v.cells.toList=c:=by
 cases v <;> (simp only[vcl,Option.some.injEq]at hv;subst hv;rfl)
theorem yGk {T s b:Nat}{tk:TK}{z:Value}{c:List Value}(ht:tt.Ok P)(hT:tt.get T=some ⟨tk,s,b,some z⟩)(hc:vcl z=some c)(hz:yB z=true)(hs:c.length=s)(hN:Nat.blt t sz=true)
  (k:∀A,GO (m.nw h (A,⟨c,false⟩)) P sz ops Q rest ((t,zG A 0 s)::a) ((A,⟨c,false⟩)::h)):GO m P sz ops Q (⟨some t,.alloc T,ty,pos,aft,none⟩::rest) a h:=by
 have hc':=zUz hc;have hs':z.cells.size=s:=by rw[<-Array.length_toList,hc',hs]
 subst hc' hs';obtain⟨_,hI,hz'⟩:=xQ (TT.get_ok ht hT);exact mH (v:=λA=>zG A 0 _) hN (λ_ _ _ _ _ hpl _=>yNo T rfl (hz' _ rfl▸hI) hz hpl) k
theorem yMc {T:Nat}{x:Operand}{s b:Nat}{tk:TK}{z:Option Value}{c:List Value}(_hT:tt.get T=some ⟨tk,s,b,z⟩)(hx:ev a x=some v)(hc:vcl v=some c)(hs:c.length=s)(hN:Nat.blt t sz=true)
  (k:∀A,GO (m.nw h (A,⟨c,false⟩)) P sz ops Q rest ((t,zG A 0 s)::a) ((A,⟨c,false⟩)::h)):GO m P sz ops Q (⟨some t,.box T x,ty,pos,aft,none⟩::rest) a h:=by
 have hc':=zUz hc;have hs':v.cells.size=s:=by rw[<-Array.length_toList,hc',hs]
 subst hc' hs';exact mH (v:=λA=>zG A 0 _) hN (λ_ _ _ _ _ hpl hag=>yIt T x rfl ((hag.ev (by simp[Op.operands,Call.operands])).trans hx) hpl) k
theorem xT {T n:Nat}{ps:List (Nat × Operand)}{E s1 b1 s b:Nat}{tk:TK}{z1:Option Value}{z:Value}{vs:List (Nat × Value)}{out:List Value}(ht:tt.Ok P)(hT:tt.get T=some ⟨.slice E,s1,b1,z1⟩)(hE:tt.get E=some ⟨tk,s,b,some z⟩)(hz:yB z=true)(hzs:(mG z).length=s)
  (hv:vG a ps=some vs) (hs:0<s) (hn:vs.length=n) (hle:n*s<=16777216) (hc:xE s 0 vs out) (hN:Nat.blt t sz=true) (k:∀A,GO (m.nw h (A,⟨out,false⟩)) P sz ops Q rest ((t,gsl A 0 (n*s) n s)::a) ((A,⟨out,false⟩)::h)) :
  GO m P sz ops Q (⟨some t,.buildSlice T n ps.toArray,ty,pos,aft,none⟩::rest) a h:=by
 obtain⟨_,hI,hz'⟩:=xQ (TT.get_ok ht hE);have hzs':z.cells.size=s:=by rw[<-Array.length_toList,lT,hzs]
 have h0:=hc.ok [] (qE z (n*s)) (by simp) (by rw[hn];simp[qE]);exact mH (v:=λA=>gsl A 0 _ _ _) hN (λ_ _ _ _ _ hpl hag=>zNv T n ps rfl ((bK λx hx=>hag.ev (by simp only[Op.operands];exact List.mem_toArray.2 (List.mem_map.2 ⟨x,by simpa using hx,rfl⟩))).trans hv) (vP (TT.get_ok ht hT) rfl) (hz' _ rfl▸hI) hz hzs' hs hle h0 hpl) k
theorem yMo {T:Nat}{x y:Operand}{E s1 b1 s b:Nat}{tk:TK}{z1:Option Value}{z:Value}{j kk:IntKind}{n c:Int}{cells:List Value}(ht:tt.Ok P)(hx:ev a x=some (.int j n))(hy:ev a y=some (.int kk c))(hT:tt.get T=some ⟨.slice E,s1,b1,z1⟩)(hE:tt.get E=some ⟨tk,s,b,some z⟩)(hz:yB z=true)
  (hzs:(mG z).length=s) (hs:0<s) (hn:0<=n/\n<=c/\(b:Int)*c<=281474976710656/\c<=9223372036854775807) (hc:qE z (n.toNat*s)=cells) (hN:Nat.blt t sz=true)
  (k:∀A,GO (m.nw h (A,⟨cells,false⟩)) P sz ops Q rest ((t,gsl A 0 (n.toNat*s) n.toNat s)::a) ((A,⟨cells,false⟩)::h)):GO m P sz ops Q (⟨some t,.makeSlice T x y,ty,pos,aft,none⟩::rest) a h:=by
 obtain⟨_,hI,hz'⟩:=xQ (TT.get_ok ht hE);have hzs':z.cells.size=s:=by rw[<-Array.length_toList,lT,hzs]
 subst hc;exact mH (v:=λA=>gsl A 0 _ _ _) hN (λ_ _ _ _ _ hpl hag=>zVt T x y rfl ((hag.ev (by simp[Op.operands,Call.operands])).trans hx) ((hag.ev (by simp[Op.operands,Call.operands])).trans hy) (vP (TT.get_ok ht hT) rfl) (hz' _ rfl▸hI) hz hzs' hs hn hpl) k
theorem zPw {T U:Nat}{x:Operand}{l:List UInt8}{E s b:Nat}{z:Option Value}{e1 e2:TE}(ht:tt.Ok P)(hx:ev a x=some (S l))(hT:tt.get T=some e1)(hU:tt.get U=some ⟨.slice E,s,b,z⟩)(hE:tt.get E=some e2)(k1:e1.k=.str)(k2:e2.k=.int .u8)(hN:Nat.blt t sz=true)(hl:Sd (l.length<=maxLen))
  (k:∀A,GO (m.nw h (A,⟨zS l,false⟩)) P sz ops Q rest ((t,gsl A 0 l.length l.length 1)::a) ((A,⟨zS l,false⟩)::h)):GO m P sz ops Q (⟨some t,.convert T U x,ty,pos,aft,none⟩::rest) a h :=
 mH (v:=λA=>gsl A 0 _ _ _) hN (λ_ _ _ _ _ hpl hag=>zNh T U x rfl ((hag.ev (by simp[Op.operands,Call.operands])).trans hx) (mC (TT.get_ok ht hT) k1) (vP (TT.get_ok ht hU) rfl) (zHd (TT.get_ok ht hE) k2) hl.1 hpl) k

theorem yV {T:Nat}{x y:Operand}{A off n b:Nat}{tk:TK}{z:Option Value}{cells cells':List Value}(ht:tt.Ok P)(hx:ev a x=some (zG A off n))(hy:ev a y=some v)(h1:one v=true)(hT:tt.get T=some ⟨tk,1,b,z⟩)(hu:Upd h A ⟨cells,false⟩ ⟨cells',false⟩ h')(hn:Ln (cells.length=n))(hs:Se (yD cells off v cells'))
  (hok:m.efOk ops h') (k:GO (m.ef h) P sz ops Q rest a h'):GO m P sz ops Q (⟨none,.store T x y,ty,pos,aft,none⟩::rest) a h:=by
 obtain⟨h2,rfl⟩:=hs.1.ok;have hn1:=hn.1;obtain⟨_,hI,_⟩:=xQ (TT.get_ok ht hT);exact nN rfl hu (λ_ _ _ hA hag=>zVr T x y rfl ((hag.ev (by simp[Op.operands,Call.operands])).trans hx) ((hag.ev (by simp[Op.operands,Call.operands])).trans hy) h1 hI hA hn.1 (Nat.ble_eq_true_of_le (by omega))) hok k
theorem zYt {T:Nat}{x y:Operand}{A off n:Nat}{e:TE}{cells cells' vs:List Value}(ht:tt.Ok P)(hx:ev a x=some (zG A off n))(hy:ev a y=some (.agg ⟨vs⟩))(h1:vs.all one=true)(hT:tt.get T=some e)(hs:Ln (vs.length=e.sz))(hu:Upd h A ⟨cells,false⟩ ⟨cells',false⟩ h')(hn:Ln (cells.length=n))(hc:Pu (rJ cells off vs cells'))
  (hok:m.efOk ops h') (k:GO (m.ef h) P sz ops Q rest a h'):GO m P sz ops Q (⟨none,.store T x y,ty,pos,aft,none⟩::rest) a h:=by
 obtain⟨⟨h2,rfl⟩⟩:=hc;have hn1:=hn.1;have hs1:=hs.1;obtain⟨_,hI,_⟩:=xQ (TT.get_ok ht hT);exact nN rfl hu (λ_ _ _ hA hag=>zUu T x y rfl ((hag.ev (by simp[Op.operands,Call.operands])).trans hx) ((hag.ev (by simp[Op.operands,Call.operands])).trans hy) h1 hI hs.1 hA hn.1 (Nat.ble_eq_true_of_le (by omega))) hok k
theorem qK {T:Nat}{x y:Operand}{A n len A2 off2 n2 mm fl2 E s1 b1 s b:Nat}{tk:TK}{z1:Option Value}{z:Value}{cells news:List Value}{g2:Blk}(ht:tt.Ok P)(hx:ev a x=some (gsl A 0 n len s))(hy:ev a y=some (gsl A2 off2 n2 mm fl2))(hT:tt.get T=some ⟨.slice E,s1,b1,z1⟩)(hE:tt.get E=some ⟨tk,s,b,some z⟩)
  (hzs:(mG z).length=s) (hs:Sd (0<s)) (hu:Upd h A ⟨cells,false⟩ ⟨cells++news,false⟩ h') (hp:Pick h A2 g2 h1) (hn:Ln (cells.length=n)) (hfull:Ln (len*s=n)) (hn2:Ln (g2.cells.length=n2)) (hc:Su (xF g2.cells off2 news)) (hl:Ln (news.length=mm*s)) (ho:news.all one=true) (hN:Nat.blt t sz=true)
  (hb:Sd ((len+mm)*b<=140737488355328/\len+mm<=maxLen)) (hok:m.efOk ops h') (k:GO (m.ef h) P sz ops Q rest ((t,gsl A 0 (n+mm*s) (len+mm) s)::a) h') :
  GO m P sz ops Q (⟨some t,.call { callee:=.builtin .append,args:=#[x,y],argTypes:=#[T,T] },ty,pos,aft,none⟩::rest) a h:=by
 obtain⟨_,hI,hz'⟩:=xQ (TT.get_ok ht hE);have hzs':z.cells.size=s:=by rw[<-Array.length_toList,lT,hzs]
 exact yLx hN hu hp (λ_ _ _ hA hA2 hag=>zUb T x y rfl ((hag.ev (by simp[Op.operands,Call.operands])).trans hx) ((hag.ev (by simp[Op.operands,Call.operands])).trans hy) (vP (TT.get_ok ht hT) rfl) (hz' _ rfl▸hI) hzs' hs.1 hA hn.1 hfull.1 hA2 hn2.1 hl.1 hc.1 ho hb.1.1 hb.1.2) hok k
theorem qD {T:Nat}{x y:Operand}{A2 off2 n2 mm fl2 E s1 b1 s b:Nat}{tk:TK}{z1:Option Value}{z:Value}{news:List Value}{g2:Blk}(ht:tt.Ok P)(hx:ev a x=some (.slice none 0 0))(hy:ev a y=some (gsl A2 off2 n2 mm fl2))(hT:tt.get T=some ⟨.slice E,s1,b1,z1⟩)(hE:tt.get E=some ⟨tk,s,b,some z⟩)
  (hzs:(mG z).length=s) (hs:Sd (0<s)) (hp:Pick h A2 g2 h1) (hn2:Ln (g2.cells.length=n2)) (hc:Su (xF g2.cells off2 news)) (hl:Ln (news.length=mm*s)) (hN:Nat.blt t sz=true)
  (hb:Sd (0<mm/\mm*b<=281474976710656/\mm<=maxLen)) (hok:∀A,m.efOk ops ((A,⟨news,false⟩)::h)) (k:∀A,GO (m.ef h) P sz ops Q rest ((t,gsl A 0 (mm*s) mm s)::a) ((A,⟨news,false⟩)::h)) :
  GO m P sz ops Q (⟨some t,.call { callee:=.builtin .append,args:=#[x,y],argTypes:=#[T,T] },ty,pos,aft,none⟩::rest) a h:=by
 obtain⟨_,hI,hz'⟩:=xQ (TT.get_ok ht hE);have hzs':z.cells.size=s:=by rw[<-Array.length_toList,lT,hzs]
 exact zWv (v:=λA=>gsl A 0 _ _ _) hN hp (λ_ _ _ _ _ hA2 hpl hag=>zLe T x y rfl ((hag.ev (by simp[Op.operands,Call.operands])).trans hx) ((hag.ev (by simp[Op.operands,Call.operands])).trans hy) (vP (TT.get_ok ht hT) rfl) (hz' _ rfl▸hI) hzs' hs.1 hA2 hn2.1 hl.1 hc.1 hb.1.1 hb.1.2.1 hb.1.2.2 hpl) hok k
end
end Go.Gh
end
section
namespace Go.Proofs.YtbidadebolllkaaGreatDoor
open Go.Gh
theorem rfk {α:Type}{a b:α}(h:a=b:=by kernel_rfl):a=b:=h
def tyT :TT:=(.node (.node (.node (.node (.node (.node (.node (.node .leaf 0 ⟨.other,1,0,some (.tuple ⟨[]⟩)⟩ .leaf) 1 ⟨.other,1,8,some (.nilFunc)⟩ .leaf) 2 ⟨.int .i64,1,8,some (.int .i64 0)⟩ (.node (.node .leaf 3 ⟨.int .i64,1,8,some (.int .i64 0)⟩ .leaf) 4 ⟨.bool,1,1,some (.bool false)⟩ .leaf)) 5 ⟨.int .u8,1,1,some (.int .u8 0)⟩ (.node (.node (.node .leaf 6 ⟨.int .u8,1,1,some (.int .u8 0)⟩ .leaf) 7 ⟨.st [(2,0),(3,1),(4,2),(6,3)],4,24,some (.agg ⟨[.int .i64 0,.int .i64 0,.bool false,.int .u8 0]⟩)⟩ .leaf) 8 ⟨.st [(2,0),(3,1),(4,2),(6,3)],4,24,some (.agg ⟨[.int .i64 0,.int .i64 0,.bool false,.int .u8 0]⟩)⟩ (.node (.node .leaf 9 ⟨.str,1,16,some (.string ⟨⟨[]⟩⟩)⟩ .leaf) 10 ⟨.str,1,16,some (.string ⟨⟨[]⟩⟩)⟩ .leaf))) 11 ⟨.str,1,16,some (.string ⟨⟨[]⟩⟩)⟩ (.node (.node (.node (.node .leaf 12 ⟨.int .u64,1,8,some (.int .u64 0)⟩ .leaf) 13 ⟨.st [(9,0),(12,1)],2,24,some (.agg ⟨[.string ⟨⟨[]⟩⟩,.int .u64 0]⟩)⟩ .leaf) 14 ⟨.st [(9,0),(12,1)],2,24,some (.agg ⟨[.string ⟨⟨[]⟩⟩,.int .u64 0]⟩)⟩ (.node (.node .leaf 15 ⟨.ptr 416,1,8,some (.pointer none)⟩ .leaf) 16 ⟨.ptr 419,1,8,some (.pointer none)⟩ .leaf)) 17 ⟨.ptr 426,1,8,some (.pointer none)⟩ (.node (.node (.node .leaf 18 ⟨.st [(17,0)],1,8,some (.agg ⟨[.pointer none]⟩)⟩ .leaf) 19 ⟨.st [(17,0)],1,8,some (.agg ⟨[.pointer none]⟩)⟩ .leaf) 20 ⟨.other,1,16,some (.nilIface)⟩ (.node (.node .leaf 21 ⟨.int .i32,1,4,some (.int .i32 0)⟩ .leaf) 22 ⟨.slice 66,1,24,some (.slice none 0 0)⟩ .leaf)))) 23 ⟨.slice 69,1,24,some (.slice none 0 0)⟩ (.node (.node (.node (.node (.node .leaf 24 ⟨.slice 49,1,24,some (.slice none 0 0)⟩ .leaf) 25 ⟨.slice 61,1,24,some (.slice none 0 0)⟩ .leaf) 26 ⟨.st [(3,0),(9,1),(9,2),(9,3),(22,4),(23,5),(24,6),(25,7),(3,8)],9,160,some (.agg ⟨[.int .i64 0,.string ⟨⟨[]⟩⟩,.string ⟨⟨[]⟩⟩,.string ⟨⟨[]⟩⟩,.slice none 0 0,.slice none 0 0,.slice none 0 0,.slice none 0 0,.int .i64 0]⟩)⟩ (.node (.node .leaf 27 ⟨.st [(3,0),(9,1),(9,2),(9,3),(22,4),(23,5),(24,6),(25,7),(3,8)],9,160,some (.agg ⟨[.int .i64 0,.string ⟨⟨[]⟩⟩,.string ⟨⟨[]⟩⟩,.string ⟨⟨[]⟩⟩,.slice none 0 0,.slice none 0 0,.slice none 0 0,.slice none 0 0,.int .i64 0]⟩)⟩ .leaf) 28 ⟨.other,1,8,some (.nilFunc)⟩ .leaf)) 29 ⟨.other,1,8,some (.nilFunc)⟩ (.node (.node (.node .leaf 30 ⟨.int .i64,1,8,some (.int .i64 0)⟩ .leaf) 31 ⟨.other,1,0,some (.tuple ⟨[.agg ⟨[.int .i64 0,.string ⟨⟨[]⟩⟩,.string ⟨⟨[]⟩⟩,.string ⟨⟨[]⟩⟩,.slice none 0 0,.slice none 0 0,.slice none 0 0,.slice none 0 0,.int .i64 0]⟩,.int .i64 0]⟩)⟩ .leaf) 32 ⟨.other,1,8,some (.nilFunc)⟩ (.node (.node .leaf 33 ⟨.other,1,8,some (.nilFunc)⟩ .leaf) 34 ⟨.other,1,0,some (.tuple ⟨[.int .i64 0,.int .i64 0]⟩)⟩ .leaf))) 35 ⟨.other,1,8,some (.nilFunc)⟩ (.node (.node (.node (.node .leaf 36 ⟨.other,1,8,some (.nilFunc)⟩ .leaf) 37 ⟨.other,1,8,some (.nilFunc)⟩ .leaf) 38 ⟨.slice 222,1,24,some (.slice none 0 0)⟩ (.node (.node .leaf 40 ⟨.other,1,8,some (.nilFunc)⟩ .leaf) 41 ⟨.other,1,0,some (.tuple ⟨[.string ⟨⟨[]⟩⟩,.int .i64 0]⟩)⟩ .leaf)) 43 ⟨.other,1,8,some (.nilFunc)⟩ (.node (.node (.node .leaf 45 ⟨.other,1,8,some (.nilFunc)⟩ .leaf) 46 ⟨.other,1,8,some (.nilFunc)⟩ .leaf) 47 ⟨.slice 104,1,24,some (.slice none 0 0)⟩ (.node .leaf 48 ⟨.st [(3,0),(3,1),(47,2)],3,40,some (.agg ⟨[.int .i64 0,.int .i64 0,.slice none 0 0]⟩)⟩ .leaf))))) 49 ⟨.st [(3,0),(3,1),(47,2)],3,40,some (.agg ⟨[.int .i64 0,.int .i64 0,.slice none 0 0]⟩)⟩ (.node (.node (.node (.node (.node (.node .leaf 50 ⟨.other,1,8,some (.nilFunc)⟩ .leaf) 51 ⟨.other,1,8,some (.nilFunc)⟩ .leaf) 52 ⟨.other,1,8,some (.nilFunc)⟩ (.node (.node .leaf 53 ⟨.other,1,8,some (.nilFunc)⟩ .leaf) 54 ⟨.other,1,8,some (.nilFunc)⟩ .leaf)) 55 ⟨.other,1,8,some (.nilFunc)⟩ (.node (.node (.node .leaf 56 ⟨.other,1,0,some (.tuple ⟨[.agg ⟨[.int .i64 0,.int .i64 0,.slice none 0 0]⟩,.int .i64 0]⟩)⟩ .leaf) 57 ⟨.other,1,8,some (.nilFunc)⟩ .leaf) 58 ⟨.other,1,8,some (.nilFunc)⟩ (.node (.node .leaf 60 ⟨.st [(3,0),(3,1)],2,16,some (.agg ⟨[.int .i64 0,.int .i64 0]⟩)⟩ .leaf) 61 ⟨.st [(3,0),(3,1)],2,16,some (.agg ⟨[.int .i64 0,.int .i64 0]⟩)⟩ .leaf))) 63 ⟨.other,1,8,some (.nilFunc)⟩ (.node (.node (.node (.node .leaf 64 ⟨.other,1,8,some (.nilFunc)⟩ .leaf) 65 ⟨.st [(9,0),(3,1),(3,2)],3,32,some (.agg ⟨[.string ⟨⟨[]⟩⟩,.int .i64 0,.int .i64 0]⟩)⟩ .leaf) 66 ⟨.st [(9,0),(3,1),(3,2)],3,32,some (.agg ⟨[.string ⟨⟨[]⟩⟩,.int .i64 0,.int .i64 0]⟩)⟩ (.node (.node .leaf 67 ⟨.other,1,8,some (.nilFunc)⟩ .leaf) 69 ⟨.st [(9,0),(3,1),(3,2),(3,3),(4,4),(3,5),(3,6)],7,64,some (.agg ⟨[.string ⟨⟨[]⟩⟩,.int .i64 0,.int .i64 0,.int .i64 0,.bool false,.int .i64 0,.int .i64 0]⟩)⟩ .leaf)) 70 ⟨.other,1,8,some (.nilFunc)⟩ (.node (.node (.node .leaf 72 ⟨.other,1,8,some (.nilFunc)⟩ .leaf) 73 ⟨.slice 130,1,24,some (.slice none 0 0)⟩ .leaf) 76 ⟨.slice 157,1,24,some (.slice none 0 0)⟩ (.node .leaf 77 ⟨.st [(3,0),(9,1),(9,2),(9,3),(22,4),(76,5)],6,104,some (.agg ⟨[.int .i64 0,.string ⟨⟨[]⟩⟩,.string ⟨⟨[]⟩⟩,.string ⟨⟨[]⟩⟩,.slice none 0 0,.slice none 0 0]⟩)⟩ .leaf)))) 78 ⟨.st [(3,0),(9,1),(9,2),(9,3),(22,4),(76,5)],6,104,some (.agg ⟨[.int .i64 0,.string ⟨⟨[]⟩⟩,.string ⟨⟨[]⟩⟩,.string ⟨⟨[]⟩⟩,.slice none 0 0,.slice none 0 0]⟩)⟩ (.node (.node (.node (.node (.node .leaf 81 ⟨.slice 161,1,24,some (.slice none 0 0)⟩ .leaf) 82 ⟨.other,1,0,some (.tuple ⟨[.slice none 0 0,.slice none 0 0]⟩)⟩ .leaf) 83 ⟨.other,1,8,some (.nilFunc)⟩ (.node (.node .leaf 85 ⟨.other,1,8,some (.nilFunc)⟩ .leaf) 88 ⟨.other,1,8,some (.nilFunc)⟩ .leaf)) 89 ⟨.slice 9,1,24,some (.slice none 0 0)⟩ (.node (.node (.node .leaf 90 ⟨.other,1,8,some (.nilFunc)⟩ .leaf) 92 ⟨.slice 3,1,24,some (.slice none 0 0)⟩ .leaf) 94 ⟨.other,1,8,some (.map none)⟩ (.node (.node .leaf 95 ⟨.other,1,8,some (.nilFunc)⟩ .leaf) 97 ⟨.other,1,8,some (.map none)⟩ .leaf))) 98 ⟨.other,1,0,some (.tuple ⟨[.int .i64 0,.bool false]⟩)⟩ (.node (.node (.node (.node .leaf 99 ⟨.ptr 9,1,8,some (.pointer none)⟩ .leaf) 100 ⟨.st [(99,0),(9,1)],2,24,some (.agg ⟨[.pointer none,.string ⟨⟨[]⟩⟩]⟩)⟩ .leaf) 101 ⟨.slice 100,1,24,some (.slice none 0 0)⟩ (.node (.node .leaf 102 ⟨.other,1,8,some (.nilFunc)⟩ .leaf) 104 ⟨.st [(3,0),(9,1)],2,24,some (.agg ⟨[.int .i64 0,.string ⟨⟨[]⟩⟩]⟩)⟩ .leaf)) 108 ⟨.other,1,8,some (.nilFunc)⟩ (.node (.node (.node .leaf 109 ⟨.other,1,8,some (.nilFunc)⟩ .leaf) 111 ⟨.other,1,8,some (.nilFunc)⟩ .leaf) 114 ⟨.other,1,8,some (.nilFunc)⟩ (.node .leaf 115 ⟨.other,1,8,some (.nilFunc)⟩ .leaf)))))) 116 ⟨.other,1,8,some (.nilFunc)⟩ (.node (.node (.node (.node (.node (.node (.node .leaf 120 ⟨.other,1,8,some (.nilFunc)⟩ .leaf) 122 ⟨.other,1,8,some (.nilFunc)⟩ .leaf) 125 ⟨.st [(3,0),(3,1),(3,2)],3,24,some (.agg ⟨[.int .i64 0,.int .i64 0,.int .i64 0]⟩)⟩ (.node (.node .leaf 126 ⟨.st [(125,0),(5,3)],4,32,some (.agg ⟨[.int .i64 0,.int .i64 0,.int .i64 0,.int .u8 0]⟩)⟩ .leaf) 127 ⟨.st [(125,0),(5,3)],4,32,some (.agg ⟨[.int .i64 0,.int .i64 0,.int .i64 0,.int .u8 0]⟩)⟩ .leaf)) 128 ⟨.other,1,8,some (.nilFunc)⟩ (.node (.node (.node .leaf 130 ⟨.st [(9,0),(3,1),(3,2),(3,3)],4,40,some (.agg ⟨[.string ⟨⟨[]⟩⟩,.int .i64 0,.int .i64 0,.int .i64 0]⟩)⟩ .leaf) 132 ⟨.ptr 136,1,8,some (.pointer none)⟩ .leaf) 133 ⟨.other,1,8,some (.map none)⟩ (.node (.node .leaf 134 ⟨.other,1,8,some (.map none)⟩ .leaf) 136 ⟨.st [(78,0),(133,6),(4,7),(3,8),(3,9),(134,10),(4,11),(38,12)],13,176,some (.agg ⟨[.int .i64 0,.string ⟨⟨[]⟩⟩,.string ⟨⟨[]⟩⟩,.string ⟨⟨[]⟩⟩,.slice none 0 0,.slice none 0 0,.map none,.bool false,.int .i64 0,.int .i64 0,.map none,.bool false,.slice none 0 0]⟩)⟩ .leaf))) 137 ⟨.other,1,8,some (.map none)⟩ (.node (.node (.node (.node .leaf 140 ⟨.other,1,8,some (.nilFunc)⟩ .leaf) 149 ⟨.st [(73,0),(3,1),(134,2),(3,3),(4,4),(4,5),(4,6),(81,7),(38,8)],9,104,some (.agg ⟨[.slice none 0 0,.int .i64 0,.map none,.int .i64 0,.bool false,.bool false,.bool false,.slice none 0 0,.slice none 0 0]⟩)⟩ .leaf) 150 ⟨.other,1,8,some (.map none)⟩ (.node (.node .leaf 153 ⟨.ptr 155,1,8,some (.pointer none)⟩ .leaf) 155 ⟨.st [(27,0),(94,9),(3,10),(4,11),(92,12)],13,208,some (.agg ⟨[.int .i64 0,.string ⟨⟨[]⟩⟩,.string ⟨⟨[]⟩⟩,.string ⟨⟨[]⟩⟩,.slice none 0 0,.slice none 0 0,.slice none 0 0,.slice none 0 0,.int .i64 0,.map none,.int .i64 0,.bool false,.slice none 0 0]⟩)⟩ .leaf)) 157 ⟨.st [(69,0),(9,7),(3,8),(3,9)],10,96,some (.agg ⟨[.string ⟨⟨[]⟩⟩,.int .i64 0,.int .i64 0,.int .i64 0,.bool false,.int .i64 0,.int .i64 0,.string ⟨⟨[]⟩⟩,.int .i64 0,.int .i64 0]⟩)⟩ (.node (.node (.node .leaf 158 ⟨.other,1,8,some (.map none)⟩ .leaf) 161 ⟨.st [(3,0),(3,1),(9,2),(9,3)],4,48,some (.agg ⟨[.int .i64 0,.int .i64 0,.string ⟨⟨[]⟩⟩,.string ⟨⟨[]⟩⟩]⟩)⟩ .leaf) 165 ⟨.other,1,8,some (.nilFunc)⟩ (.node .leaf 167 ⟨.ptr 173,1,8,some (.pointer none)⟩ .leaf)))) 168 ⟨.ptr 171,1,8,some (.pointer none)⟩ (.node (.node (.node (.node (.node .leaf 169 ⟨.slice 5,1,24,some (.slice none 0 0)⟩ .leaf) 170 ⟨.st [(168,0),(169,1)],2,32,some (.agg ⟨[.pointer none,.slice none 0 0]⟩)⟩ .leaf) 171 ⟨.st [(168,0),(169,1)],2,32,some (.agg ⟨[.pointer none,.slice none 0 0]⟩)⟩ (.node (.node .leaf 173 ⟨.st [(78,0),(171,6)],8,136,some (.agg ⟨[.int .i64 0,.string ⟨⟨[]⟩⟩,.string ⟨⟨[]⟩⟩,.string ⟨⟨[]⟩⟩,.slice none 0 0,.slice none 0 0,.pointer none,.slice none 0 0]⟩)⟩ .leaf) 174 ⟨.arr 2 9,2,32,some (.agg ⟨[.string ⟨⟨[]⟩⟩,.string ⟨⟨[]⟩⟩]⟩)⟩ .leaf)) 175 ⟨.slice 174,1,24,some (.slice none 0 0)⟩ (.node (.node (.node .leaf 180 ⟨.other,1,16,some (.nilIface)⟩ .leaf) 185 ⟨.other,1,8,some (.nilFunc)⟩ .leaf) 191 ⟨.other,1,8,some (.nilFunc)⟩ (.node (.node .leaf 192 ⟨.other,1,8,some (.nilFunc)⟩ .leaf) 193 ⟨.other,1,8,some (.nilFunc)⟩ .leaf))) 200 ⟨.other,1,0,some (.tuple ⟨[.slice none 0 0,.slice none 0 0,.slice none 0 0,.int .i64 0]⟩)⟩ (.node (.node (.node (.node .leaf 205 ⟨.st [(27,0),(27,9)],18,320,some (.agg ⟨[.int .i64 0,.string ⟨⟨[]⟩⟩,.string ⟨⟨[]⟩⟩,.string ⟨⟨[]⟩⟩,.slice none 0 0,.slice none 0 0,.slice none 0 0,.slice none 0 0,.int .i64 0,.int .i64 0,.string ⟨⟨[]⟩⟩,.string ⟨⟨[]⟩⟩,.string ⟨⟨[]⟩⟩,.slice none 0 0,.slice none 0 0,.slice none 0 0,.slice none 0 0,.int .i64 0]⟩)⟩ .leaf) 206 ⟨.st [(27,0),(27,9)],18,320,some (.agg ⟨[.int .i64 0,.string ⟨⟨[]⟩⟩,.string ⟨⟨[]⟩⟩,.string ⟨⟨[]⟩⟩,.slice none 0 0,.slice none 0 0,.slice none 0 0,.slice none 0 0,.int .i64 0,.int .i64 0,.string ⟨⟨[]⟩⟩,.string ⟨⟨[]⟩⟩,.string ⟨⟨[]⟩⟩,.slice none 0 0,.slice none 0 0,.slice none 0 0,.slice none 0 0,.int .i64 0]⟩)⟩ .leaf) 208 ⟨.other,1,8,some (.nilFunc)⟩ (.node (.node .leaf 209 ⟨.other,1,8,some (.nilFunc)⟩ .leaf) 222 ⟨.st [(30,0),(3,1),(3,2),(3,3)],4,32,some (.agg ⟨[.int .i64 0,.int .i64 0,.int .i64 0,.int .i64 0]⟩)⟩ .leaf)) 229 ⟨.ptr 5,1,8,some (.pointer none)⟩ (.node (.node (.node .leaf 230 ⟨.arr 2 3,2,16,some (.agg ⟨[.int .i64 0,.int .i64 0]⟩)⟩ .leaf) 231 ⟨.other,1,8,some (.nilFunc)⟩ .leaf) 232 ⟨.other,1,8,some (.nilFunc)⟩ (.node .leaf 233 ⟨.other,1,8,some (.nilFunc)⟩ .leaf))))) 235 ⟨.st [(230,0),(231,2),(165,3),(232,4),(233,5),(9,6)],7,64,some (.agg ⟨[.int .i64 0,.int .i64 0,.nilFunc,.nilFunc,.nilFunc,.nilFunc,.string ⟨⟨[]⟩⟩]⟩)⟩ (.node (.node (.node (.node (.node (.node .leaf 240 ⟨.other,1,8,some (.nilFunc)⟩ .leaf) 242 ⟨.other,1,8,some (.nilFunc)⟩ .leaf) 243 ⟨.other,1,8,some (.map none)⟩ (.node (.node .leaf 244 ⟨.other,1,8,some (.nilFunc)⟩ .leaf) 256 ⟨.slice 208,1,24,some (.slice none 0 0)⟩ .leaf)) 259 ⟨.int .u64,1,8,some (.int .u64 0)⟩ (.node (.node (.node .leaf 268 ⟨.st [(9,0),(3,1)],2,24,some (.agg ⟨[.string ⟨⟨[]⟩⟩,.int .i64 0]⟩)⟩ .leaf) 271 ⟨.other,1,8,some (.pointer none)⟩ .leaf) 274 ⟨.slice 235,1,24,some (.slice none 0 0)⟩ (.node (.node .leaf 284 ⟨.arr 256 4,256,256,some (.agg ⟨List.replicate 256 (.bool false)⟩)⟩ .leaf) 291 ⟨.st [(3,0),(9,1)],2,24,some (.agg ⟨[.int .i64 0,.string ⟨⟨[]⟩⟩]⟩)⟩ .leaf))) 295 ⟨.st [(3,0),(9,1),(4,2),(3,3),(3,4)],5,48,some (.agg ⟨[.int .i64 0,.string ⟨⟨[]⟩⟩,.bool false,.int .i64 0,.int .i64 0]⟩)⟩ (.node (.node (.node (.node .leaf 309 ⟨.slice 268,1,24,some (.slice none 0 0)⟩ .leaf) 311 ⟨.arr 24 5,24,24,some (.agg ⟨List.replicate 24 (.int .u8 0)⟩)⟩ .leaf) 312 ⟨.int .u64,1,8,some (.int .u64 0)⟩ (.node (.node .leaf 321 ⟨.int .i64,1,8,some (.int .i64 0)⟩ .leaf) 328 ⟨.int .u32,1,4,some (.int .u32 0)⟩ .leaf)) 333 ⟨.other,1,8,some (.map none)⟩ (.node (.node (.node .leaf 334 ⟨.other,1,8,some (.map none)⟩ .leaf) 344 ⟨.int .i64,1,8,some (.int .i64 0)⟩ .leaf) 347 ⟨.ptr 377,1,8,some (.pointer none)⟩ (.node .leaf 353 ⟨.arr 20 312,20,160,some (.agg ⟨[.int .u64 0,.int .u64 0,.int .u64 0,.int .u64 0,.int .u64 0,.int .u64 0,.int .u64 0,.int .u64 0,.int .u64 0,.int .u64 0,.int .u64 0,.int .u64 0,.int .u64 0,.int .u64 0,.int .u64 0,.int .u64 0,.int .u64 0,.int .u64 0,.int .u64 0,.int .u64 0]⟩)⟩ .leaf)))) 354 ⟨.arr 65 5,65,65,some (.agg ⟨List.replicate 65 (.int .u8 0)⟩)⟩ (.node (.node (.node (.node (.node .leaf 357 ⟨.st [(4,0),(169,1),(3,2)],3,40,some (.agg ⟨[.bool false,.slice none 0 0,.int .i64 0]⟩)⟩ .leaf) 364 ⟨.int .u64,1,8,some (.int .u64 0)⟩ .leaf) 372 ⟨.st [(9,0)],1,16,some (.agg ⟨[.string ⟨⟨[]⟩⟩]⟩)⟩ (.node (.node .leaf 377 ⟨.st [(9,0),(9,1),(180,2)],3,48,some (.agg ⟨[.string ⟨⟨[]⟩⟩,.string ⟨⟨[]⟩⟩,.nilIface]⟩)⟩ .leaf) 380 ⟨.arr 4 3,4,32,some (.agg ⟨[.int .i64 0,.int .i64 0,.int .i64 0,.int .i64 0]⟩)⟩ .leaf)) 390 ⟨.arr 256 5,256,256,some (.agg ⟨List.replicate 256 (.int .u8 0)⟩)⟩ (.node (.node (.node .leaf 392 ⟨.st [(5,0),(5,1)],2,2,some (.agg ⟨[.int .u8 0,.int .u8 0]⟩)⟩ .leaf) 393 ⟨.arr 16 392,32,32,some (.agg ⟨List.replicate 32 (.int .u8 0)⟩)⟩ .leaf) 397 ⟨.ptr 399,1,8,some (.pointer none)⟩ (.node (.node .leaf 399 ⟨.st [(9,0)],1,16,some (.agg ⟨[.string ⟨⟨[]⟩⟩]⟩)⟩ .leaf) 400 ⟨.arr 32 5,32,32,some (.agg ⟨List.replicate 32 (.int .u8 0)⟩)⟩ .leaf))) 401 ⟨.arr 64 5,64,64,some (.agg ⟨List.replicate 64 (.int .u8 0)⟩)⟩ (.node (.node (.node (.node .leaf 409 ⟨.arr 256 4,256,256,some (.agg ⟨List.replicate 256 (.bool false)⟩)⟩ .leaf) 416 ⟨.st [(17,0),(17,1),(17,2),(9,3)],4,40,some (.agg ⟨[.pointer none,.pointer none,.pointer none,.string ⟨⟨[]⟩⟩]⟩)⟩ .leaf) 417 ⟨.arr 0 16,0,0,some (.agg ⟨[]⟩)⟩ (.node (.node .leaf 419 ⟨.st [(417,0)],0,0,some (.agg ⟨[]⟩)⟩ .leaf) 420 ⟨.int .u8,1,1,some (.int .u8 0)⟩ .leaf)) 421 ⟨.int .u8,1,1,some (.int .u8 0)⟩ (.node (.node (.node .leaf 422 ⟨.other,1,8,some (.nilFunc)⟩ .leaf) 423 ⟨.int .i32,1,4,some (.int .i32 0)⟩ .leaf) 424 ⟨.int .i32,1,4,some (.int .i32 0)⟩ (.node .leaf 426 ⟨.st [(12,0),(12,1),(328,2),(420,3),(5,4),(5,5),(421,6),(422,7),(229,8),(423,9),(424,10)],11,48,some (.agg ⟨[.int .u64 0,.int .u64 0,.int .u32 0,.int .u8 0,.int .u8 0,.int .u8 0,.int .u8 0,.nilFunc,.pointer none,.int .i32 0,.int .i32 0]⟩)⟩ .leaf)))))))
theorem zK :tyT.Ok Tryz.prog:=⟨⟨⟨⟨⟨⟨⟨⟨trivial,rfk,trivial⟩,rfk,trivial⟩,rfk,⟨⟨trivial,rfk,trivial⟩,rfk,trivial⟩⟩,rfk,⟨⟨⟨trivial,rfk,trivial⟩,rfk,trivial⟩,rfk,⟨⟨trivial,rfk,trivial⟩,rfk,trivial⟩⟩⟩,rfk,⟨⟨⟨⟨trivial,rfk,trivial⟩,rfk,trivial⟩,rfk,⟨⟨trivial,rfk,trivial⟩,rfk,trivial⟩⟩,rfk,⟨⟨⟨trivial,rfk,trivial⟩,rfk,trivial⟩,rfk,⟨⟨trivial,rfk,trivial⟩,rfk,trivial⟩⟩⟩⟩,rfk,⟨⟨⟨⟨⟨trivial,rfk,trivial⟩,rfk,trivial⟩,rfk,⟨⟨trivial,rfk,trivial⟩,rfk,trivial⟩⟩,rfk,⟨⟨⟨trivial,rfk,trivial⟩,rfk,trivial⟩,rfk,⟨⟨trivial,rfk,trivial⟩,rfk,trivial⟩⟩⟩,rfk,⟨⟨⟨⟨trivial,rfk,trivial⟩,rfk,trivial⟩,rfk,⟨⟨trivial,rfk,trivial⟩,rfk,trivial⟩⟩,rfk,⟨⟨⟨trivial,rfk,trivial⟩,rfk,trivial⟩,rfk,⟨trivial,rfk,trivial⟩⟩⟩⟩⟩,rfk,⟨⟨⟨⟨⟨⟨trivial,rfk,trivial⟩,rfk,trivial⟩,rfk,⟨⟨trivial,rfk,trivial⟩,rfk,trivial⟩⟩,rfk,⟨⟨⟨trivial,rfk,trivial⟩,rfk,trivial⟩,rfk,⟨⟨trivial,rfk,trivial⟩,rfk,trivial⟩⟩⟩,rfk,⟨⟨⟨⟨trivial,rfk,trivial⟩,rfk,trivial⟩,rfk,⟨⟨trivial,rfk,trivial⟩,rfk,trivial⟩⟩,rfk,⟨⟨⟨trivial,rfk,trivial⟩,rfk,trivial⟩,rfk,⟨trivial,rfk,trivial⟩⟩⟩⟩,rfk,⟨⟨⟨⟨⟨trivial,rfk,trivial⟩,rfk,trivial⟩,rfk,⟨⟨trivial,rfk,trivial⟩,rfk,trivial⟩⟩,rfk,⟨⟨⟨trivial,rfk,trivial⟩,rfk,trivial⟩,rfk,⟨⟨trivial,rfk,trivial⟩,rfk,trivial⟩⟩⟩,rfk,⟨⟨⟨⟨trivial,rfk,trivial⟩,rfk,trivial⟩,rfk,⟨⟨trivial,rfk,trivial⟩,rfk,trivial⟩⟩,rfk,⟨⟨⟨trivial,rfk,trivial⟩,rfk,trivial⟩,rfk,⟨trivial,rfk,trivial⟩⟩⟩⟩⟩⟩,rfk,⟨⟨⟨⟨⟨⟨⟨trivial,rfk,trivial⟩,rfk,trivial⟩,rfk,⟨⟨trivial,rfk,trivial⟩,rfk,trivial⟩⟩,rfk,⟨⟨⟨trivial,rfk,trivial⟩,rfk,trivial⟩,rfk,⟨⟨trivial,rfk,trivial⟩,rfk,trivial⟩⟩⟩,rfk,⟨⟨⟨⟨trivial,rfk,trivial⟩,rfk,trivial⟩,rfk,⟨⟨trivial,rfk,trivial⟩,rfk,trivial⟩⟩,rfk,⟨⟨⟨trivial,rfk,trivial⟩,rfk,trivial⟩,rfk,⟨trivial,rfk,trivial⟩⟩⟩⟩,rfk,⟨⟨⟨⟨⟨trivial,rfk,trivial⟩,rfk,trivial⟩,rfk,⟨⟨trivial,rfk,trivial⟩,rfk,trivial⟩⟩,rfk,⟨⟨⟨trivial,rfk,trivial⟩,rfk,trivial⟩,rfk,⟨⟨trivial,rfk,trivial⟩,rfk,trivial⟩⟩⟩,rfk,⟨⟨⟨⟨trivial,rfk,trivial⟩,rfk,trivial⟩,rfk,⟨⟨trivial,rfk,trivial⟩,rfk,trivial⟩⟩,rfk,⟨⟨⟨trivial,rfk,trivial⟩,rfk,trivial⟩,rfk,⟨trivial,rfk,trivial⟩⟩⟩⟩⟩,rfk,⟨⟨⟨⟨⟨⟨trivial,rfk,trivial⟩,rfk,trivial⟩,rfk,⟨⟨trivial,rfk,trivial⟩,rfk,trivial⟩⟩,rfk,⟨⟨⟨trivial,rfk,trivial⟩,rfk,trivial⟩,rfk,⟨⟨trivial,rfk,trivial⟩,rfk,trivial⟩⟩⟩,rfk,⟨⟨⟨⟨trivial,rfk,trivial⟩,rfk,trivial⟩,rfk,⟨⟨trivial,rfk,trivial⟩,rfk,trivial⟩⟩,rfk,⟨⟨⟨trivial,rfk,trivial⟩,rfk,trivial⟩,rfk,⟨trivial,rfk,trivial⟩⟩⟩⟩,rfk,⟨⟨⟨⟨⟨trivial,rfk,trivial⟩,rfk,trivial⟩,rfk,⟨⟨trivial,rfk,trivial⟩,rfk,trivial⟩⟩,rfk,⟨⟨⟨trivial,rfk,trivial⟩,rfk,trivial⟩,rfk,⟨⟨trivial,rfk,trivial⟩,rfk,trivial⟩⟩⟩,rfk,⟨⟨⟨⟨trivial,rfk,trivial⟩,rfk,trivial⟩,rfk,⟨⟨trivial,rfk,trivial⟩,rfk,trivial⟩⟩,rfk,⟨⟨⟨trivial,rfk,trivial⟩,rfk,trivial⟩,rfk,⟨trivial,rfk,trivial⟩⟩⟩⟩⟩⟩⟩
theorem oS :sH Tryz.prog 27=some [(0,1),(1,1),(2,1),(3,1),(4,1),(5,1),(6,1),(7,1),(8,1)]:=by kernel_rfl
theorem zDe :sH Tryz.prog 49=some [(0,1),(1,1),(2,1)]:=by kernel_rfl
theorem lZ :sH Tryz.prog 61=some [(0,1),(1,1)]:=by kernel_rfl
theorem mO :sH Tryz.prog 104=some [(0,1),(1,1)]:=by kernel_rfl
theorem yFa :sH Tryz.prog 206=some [(0,9),(9,9)]:=by kernel_rfl
theorem zNl :sH Tryz.prog 235=some [(0,2),(2,1),(3,1),(4,1),(5,1),(6,1)]:=by kernel_rfl
theorem yIp :sH Tryz.prog 291=some [(0,1),(1,1)]:=by kernel_rfl
theorem yFz :sH Tryz.prog 295=some [(0,1),(1,1),(2,1),(3,1),(4,1)]:=by kernel_rfl
theorem zKs :sH Tryz.prog 357=some [(0,1),(1,1),(2,1)]:=by kernel_rfl
end Go.Proofs.YtbidadebolllkaaGreatDoor
end
section
set_option maxRecDepth 4000
namespace Go.Gh
open Go.RowKit

section
variable {α:Type} {f:α->List Value} {w:Nat}
def zF (f:α->List Value):List α->List Value
 |[]=>[]
 |x::r=>f x++zF f r
@[simp] theorem yQj :zF f []=[]:=rfl
theorem zDw :∀{l m:List α},zF f (l++m)=zF f l++zF f m
 |[],_=>rfl
 |x::r,m=>by simp only[List.cons_append,zF,zDw (l:=r),List.append_assoc]
theorem tW {x:α}:zF f [x]=f x:=List.append_nil _
theorem rO {l:List α}{x:α}:zF f (l++[x])=zF f l++f x:=by rw[zDw,tW]
theorem uZ {l:List α}{x:α}{c:List Value}(h:c=f x):zF f l++c=zF f (l++[x]):=by rw[h,rO]
theorem yK (hw:∀x,(f x).length=w):∀l:List α,(zF f l).length=l.length*w
 |[]=>by simp[zF]
 |x::r=>by simp only[zF,List.length_append,List.length_cons,hw,yK hw r,Nat.add_mul,Nat.one_mul];omega
theorem mQ [Inhabited α](hw:∀x,(f x).length=w):∀{l:List α} {i j:Nat},i<l.length->j<w->(zF f l)[i*w+j]?=(f l[i]!)[j]?
 |[],i,j,h,_=>by simp at h
 |x::r,0,j,_,hj=>by
  simp only[zF,Nat.zero_mul,Nat.zero_add];rw[List.getElem?_append_left (by rw[hw];exact hj)];rfl
 |x::r,i+1,j,h,hj=>by
  simp only[zF];rw[List.getElem?_append_right (by rw[hw,Nat.add_mul];omega),hw,show(i+1)*w+j-w=i*w+j by rw[Nat.add_mul];omega,
   mQ hw (by simpa using h) hj]
  simp
theorem zVf (hw:∀x,(f x).length=w):∀{l:List α} {i:Nat} {x:α},i<l.length->wO (zF f l) (i*w) (f x)=zF f (l.set i x)
 |[],i,x,h=>by simp at h
 |y::r,0,x,_=>by
  simp only[zF,wO,List.set_cons_zero,Nat.zero_mul,List.take_zero,List.nil_append,Nat.zero_add,hw];rw[List.drop_append_of_le_length (by rw[hw];exact Nat.le_refl _),List.drop_of_length_le (by rw[hw];exact Nat.le_refl _),List.nil_append]
 |y::r,i+1,x,h=>by
  have ih:=zVf hw (l:=r) (i:=i) (x:=x) (by simpa using h);simp only[wO,hw]at ih;simp only[zF,wO,List.set_cons_succ,hw];rw[<-ih,show(i+1)*w=(f y).length+i*w by rw[hw,Nat.add_mul];omega,show(f y).length+i*w+w=(f y).length+(i*w+w)from by omega,List.take_append,List.drop_append,List.take_of_length_le (by omega),List.drop_of_length_le (l:=f y) (by omega)];simp[List.append_assoc]
theorem kH [Inhabited α]{l:List α}{i:Nat}(hw:∀x,(f x).length=w)(hi:i<l.length):xF (zF f l) (0+i*w) (f l[i]!):=λj v hj=>by
 have hj2:=(List.getElem?_eq_some_iff.1 hj).1;rw[hw]at hj2;rw[Nat.zero_add,mQ hw hi hj2];exact hj
theorem xO [Inhabited α]{l:List α}{i:Nat}(hw:∀x,(f x).length=w)(hi:i<l.length):xF (zF f l) (0+((i:Int)).toNat*w) (f l[i]!):=kH hw hi
theorem tX [Inhabited α]{l:List α}{i fo:Nat}{v:Value}(hw:∀x,(f x).length=w)(hi:i<l.length)(hf:fo<w)(hv:(f l[i]!)[fo]?=some v):(zF f l)[0+i*w+fo]?=some v:=by
 rw[Nat.zero_add,mQ hw hi hf];exact hv
theorem vL [Inhabited α]{l:List α}{i fo:Nat}{v:Value}(hw:∀x,(f x).length=w)(hi:i<l.length)(hf:fo<w)(hv:(f l[i]!)[fo]?=some v):(zF f l)[0+((i:Int)).toNat*w+fo]?=some v:=tX hw hi hf hv
theorem yOv {l:List α}{i:Nat}{x:α}(hw:∀x,(f x).length=w)(hi:i<l.length):rJ (zF f l) (0+i*w) (f x) (zF f (l.set i x)):=by
 refine⟨?_,?_⟩
 ·rw[hw,yK hw,Nat.zero_add]
  calc i*w+w=(i+1)*w:=by rw[Nat.add_mul,Nat.one_mul]
   _<=l.length*w:=Nat.mul_le_mul_right w hi
 ·rw[Nat.zero_add];exact(zVf hw hi).symm
theorem eU {l:List α}{i:Nat}{x:α}(hw:∀x,(f x).length=w)(hi:i<l.length):rJ (zF f l) (0+((i:Int)).toNat*w) (f x) (zF f (l.set i x)):=yOv hw hi
end
section
variable {α:Type} {f:α->Value}
theorem yHz [Inhabited α]{l:List α}{i:Nat}(hi:i<l.length):(l.map f)[0+i*1]?=some (f l[i]!):=by
 rw[Nat.zero_add,Nat.mul_one,List.getElem?_map,List.getElem?_eq_getElem hi,getElem!_pos l i hi];rfl
theorem oO [Inhabited α]{l:List α}{i:Nat}(hi:i<l.length):(l.map f)[0+((i:Int)).toNat*1]?=some (f l[i]!):=yHz hi
theorem yKi {l:List α}{i:Nat}{x:α}(hi:i<l.length):yD (l.map f) (0+i*1) (f x) ((l.set i x).map f):=by
 rw[Nat.zero_add,Nat.mul_one,List.map_set];exact yD.any (by simpa using hi)
theorem fT {l:List α}{i:Nat}{x:α}(hi:i<l.length):yD (l.map f) (0+((i:Int)).toNat*1) (f x) ((l.set i x).map f):=yKi hi
theorem yFb {z:Value}(x:α)(h:one z=true)(hz:z=f x)(n:Nat):qE z (n*1)=(List.replicate n x).map f:=by
 rw[zQy h,Nat.mul_one,List.map_replicate,hz]
end
theorem pI {α:Type}{f:α->Value}{l:List α}{x:α}{v:Value}(h:v=f x):l.map f++[v]=(l++[x]).map f:=by rw[h,List.map_append];rfl
theorem aJ {l:List UInt8}{i:Int}(hi:0<=i/\i<l.length):(zS l)[0+i.toNat*1]?=some (.int .u8 (bat l i)):=by
 have h:i.toNat<l.length:=by omega
 rw[Nat.zero_add,Nat.mul_one];unfold zS bat;rw[List.getElem?_map,List.getElem?_eq_getElem h,List.getD_eq_getElem?_getD,List.getElem?_eq_getElem h];rfl
theorem yPl {l m:List UInt8}:zS (l++m)=zS l++zS m:=by unfold zS;rw[List.map_append]
@[simp] theorem yQk :zS []=[]:=rfl
theorem zDb {α:Type}{f:α->List Value}{l:List α}(h:∀x,(f x).all one=true):(zF f l).all one=true:=by
 induction l with
 |nil=>rfl
 |cons x r ih=>simp only[zF,List.all_append,h x,ih,Bool.and_self]
def b8 (n:Int):UInt8:=UInt8.ofNat n.toNat
theorem yQc {n:Int}(h:0<=n/\n<256):((b8 n).toNat:Int)=n:=by
 unfold b8;rw[UInt8.toNat_ofNat'];omega
theorem zZz {n:Int}(h:0<=n/\n<256):zS [b8 n]=[.int .u8 n]:=by
 show [Value.int .u8 ((b8 n).toNat:Int)]=_;rw[yQc h]
section
variable {P:Program} {tt:TT} {a:AF} {h h1:SH} {fn:Func} {R:Value->SH->Prop} {vs:List Value}
theorem sG {A n b T:Nat}{cs:List Value}{ro:Mk}{e:TE}{r:List ResultVar}{us:List Value}(ht:tt.Ok P)(hb:get a b=some (zG A 0 n))(hT:tt.get T=some e)(hk:e.k.agg=true)(hp:Pick h A ⟨cs,ro⟩ h1)(hn:cs.length=n)(hs:cs.length=e.sz)(hr:zO P a h r us) :
  zO P a h (.cell b T::r) (.agg ⟨cs⟩::us):=by
 refine⟨⟨A,0,n,⟨cs,ro⟩,h1,hb,hp,hn,.inl ?_⟩,hr⟩;obtain⟨z,hI,_⟩:=xQ (TT.get_ok ht hT);refine⟨z,_,_,by rw[eO (TT.get_ok ht hT),hk],hI,by simp[hs],?_⟩;rw[List.drop_zero,<-hs]
 congr 1
 simp
end
section
variable {P:Program} {sz:Nat} {ops:Array Oper} {Q:wA} {rest:List Oper} {a:AF} {h:SH} {m:Mode} {t j d:Nat} {op:Op} {ty:TypeId} {pos:String} {aft:Array Edge}
theorem rH {S:Type}{c y:Code}{Q':wA}(A:S->AF)(G:S->SH)(I:S->Prop)
  (k1:SWp P sz c (sO (λa' h'=>∃s,I s/\Sub (A s) a'/\zA h' (G s)) Q') a h) (k2:∀s,I s->SWp P sz y Q (A s) (G s)):SWp P sz c (sO (λa h=>SWp P sz y Q a h) Q') a h :=
 yHc A G I k1 λs hs _ _ h1 h2=>(k2 s hs).take h1 h2
theorem mA {c:Operand}{x y:Code}{q:Prop}{_:Decidable ((¬q))}(hc:ev a c=some (.bool (decide (¬q))))(h1:¬q->SWp P sz x Q a h)(h2:q->SWp P sz y Q a h):SWp P sz (.cond c x y) Q a h :=
 vA hc h1 (λhn=>h2 (Classical.not_not.1 hn))
theorem lP {q:Prop}{_:Decidable (¬q)}(hd:(ops[j]?).bind (·.dst)=some d)(hb:get a d=some (.bool (decide (¬q))))(hN:Nat.blt t sz=true)
  (h1:¬q->GO m P sz ops Q (⟨some t,op,ty,pos,aft,none⟩::rest) ((d,.bool true)::a) h) (h2:q->GO m.next P sz ops Q rest ((t,undef)::(d,.bool false)::a) h) :
  GO m P sz ops Q (⟨some t,op,ty,pos,aft,some (j,true)⟩::rest) a h:=rX hd hb hN h1 (λhn=>h2 (Classical.not_not.1 hn))
theorem yOa {q:Prop}{_:Decidable (¬q)}(hd:(ops[j]?).bind (·.dst)=some d)(hb:get a d=some (.bool (decide (¬q))))(hN:Nat.blt t sz=true)
  (h1:q->GO m P sz ops Q (⟨some t,op,ty,pos,aft,none⟩::rest) ((d,.bool false)::a) h) (h2:¬q->GO m.next P sz ops Q rest ((t,undef)::(d,.bool true)::a) h) :
  GO m P sz ops Q (⟨some t,op,ty,pos,aft,some (j,false)⟩::rest) a h:=vJ hd hb hN (λhn=>h1 (Classical.not_not.1 hn)) h2
theorem zDy {p:Prop}{_:Decidable (p)}{want:Bool}(hd:(ops[j]?).bind (·.dst)=some d)(hb:get a d=some (.bool (decide p)))(hw:want=true)(hp:p)
  (k:GO m P sz ops Q (⟨some t,op,ty,pos,aft,none⟩::rest) ((d,.bool true)::a) h):GO m P sz ops Q (⟨some t,op,ty,pos,aft,some (j,want)⟩::rest) a h:=by
 subst hw;rw[decide_eq_true hp]at hb;exact uN hb (lO hd (by unfold get;rw[show Nat.beq d d=true from Nat.beq_refl d];rfl) k)
theorem o_gF {p:Prop}{_:Decidable (p)}{want:Bool}(hd:(ops[j]?).bind (·.dst)=some d)(hb:get a d=some (.bool (decide p)))(hw:want=false)(hp:¬p)
  (k:GO m P sz ops Q (⟨some t,op,ty,pos,aft,none⟩::rest) ((d,.bool false)::a) h):GO m P sz ops Q (⟨some t,op,ty,pos,aft,some (j,want)⟩::rest) a h:=by
 subst hw;rw[decide_eq_false hp]at hb;exact uN hb (lO hd (by unfold get;rw[show Nat.beq d d=true from Nat.beq_refl d];rfl) k)
theorem tO {p:Prop}{_:Decidable (p)}{want:Bool}(hd:(ops[j]?).bind (·.dst)=some d)(hb:get a d=some (.bool (decide p)))(hw:want=true)(hp:¬p)(hN:Nat.blt t sz=true)
  (k:GO m.next P sz ops Q rest ((t,undef)::(d,.bool false)::a) h):GO m P sz ops Q (⟨some t,op,ty,pos,aft,some (j,want)⟩::rest) a h:=by
 subst hw;rw[decide_eq_false hp]at hb;exact uN hb (lJ hd (by unfold get;rw[show Nat.beq d d=true from Nat.beq_refl d];rfl) rfl hN k)
theorem gO {p:Prop}{_:Decidable (p)}{want:Bool}(hd:(ops[j]?).bind (·.dst)=some d)(hb:get a d=some (.bool (decide p)))(hw:want=false)(hp:p)(hN:Nat.blt t sz=true)
  (k:GO m.next P sz ops Q rest ((t,undef)::(d,.bool true)::a) h):GO m P sz ops Q (⟨some t,op,ty,pos,aft,some (j,want)⟩::rest) a h:=by
 subst hw;rw[decide_eq_true hp]at hb;exact uN hb (lJ hd (by unfold get;rw[show Nat.beq d d=true from Nat.beq_refl d];rfl) rfl hN k)
end
section
variable {P:Program} {f:FuncId} {fn:Func} {c:Code} {h:SH} {R:Value->SH->Prop} {x0 x1 x2 x3 x4 x5 x6 x7 x8 x9:Value}
theorem yQh (hf:P.funcs[f]?=some fn)(hb:fn.body=some c)(hN:Nat.ble 0 fn.ntmps=true)(k:SWp P fn.ntmps c (qM P fn R) [] h):zH P f [] h R:=lU hf hb hN k
theorem yG (hf:P.funcs[f]?=some fn)(hb:fn.body=some c)(hN:Nat.ble 1 fn.ntmps=true)(k:SWp P fn.ntmps c (qM P fn R) [(0,x0)] h):zH P f [x0] h R:=lU hf hb hN k
theorem yJ (hf:P.funcs[f]?=some fn)(hb:fn.body=some c)(hN:Nat.ble 2 fn.ntmps=true)(k:SWp P fn.ntmps c (qM P fn R) [(0,x0),(1,x1)] h):zH P f [x0,x1] h R:=lU hf hb hN k
theorem wF (hf:P.funcs[f]?=some fn)(hb:fn.body=some c)(hN:Nat.ble 3 fn.ntmps=true)(k:SWp P fn.ntmps c (qM P fn R) [(0,x0),(1,x1),(2,x2)] h):zH P f [x0,x1,x2] h R:=lU hf hb hN k
theorem mT (hf:P.funcs[f]?=some fn)(hb:fn.body=some c)(hN:Nat.ble 4 fn.ntmps=true)(k:SWp P fn.ntmps c (qM P fn R) [(0,x0),(1,x1),(2,x2),(3,x3)] h):zH P f [x0,x1,x2,x3] h R:=lU hf hb hN k
theorem dF (hf:P.funcs[f]?=some fn)(hb:fn.body=some c)(hN:Nat.ble 5 fn.ntmps=true)(k:SWp P fn.ntmps c (qM P fn R) [(0,x0),(1,x1),(2,x2),(3,x3),(4,x4)] h):zH P f [x0,x1,x2,x3,x4] h R:=lU hf hb hN k
end
theorem Pick.comm {h h1 h2:SH}{A B:Nat}{a b:Blk}(p:Pick h A a h1)(q:Pick h1 B b h2):∃h3,Pick h B b h3/\Pick h3 A a h2:=by
 induction p generalizing h2 with
 |head=>exact⟨_,.tail q,.head⟩
 |tail p ih =>
  cases q with
  |head=>exact⟨_,.head,p⟩
  |tail q=>obtain⟨h3,g1,g2⟩:=ih q;exact⟨_,.tail g1,.tail g2⟩
theorem zA.pick {h h1 h1':SH}{A:Nat}{b:Blk}(t:zA h h1)(p:Pick h1 A b h1'):∃h',Pick h A b h'/\zA h' h1':=by
 induction t generalizing h1' with
 |nil=>exact⟨_,p,.nil⟩
 |cons pk t ih =>
  cases p with
  |head=>exact⟨_,pk,t⟩
  |tail p=>obtain⟨h2,g1,g2⟩:=ih p;obtain⟨h3,g3,g4⟩:=pk.comm g1;exact⟨h3,g3,.cons g4 g2⟩
 |consE pk e t ih =>
  subst e;cases p with
  |head=>exact⟨_,pk,t⟩
  |tail p=>obtain⟨h2,g1,g2⟩:=ih p;obtain⟨h3,g3,g4⟩:=pk.comm g1;exact⟨h3,g3,.cons g4 g2⟩
 |drop t ih=>obtain⟨h2,g1,g2⟩:=ih p;exact⟨_,.tail g1,.drop g2⟩
theorem zA.part {h h' r:SH}{A:Nat}{b:Blk}(p:Pick h A b h')(t:zA h' r):zA h r:=by
 induction t generalizing h with
 |@nil h' =>
  induction p with
  |head=>exact .drop .nil
  |@tail A b x h h1 p ih=>obtain⟨B,c⟩:=x;exact .cons .head ih
 |cons q _ ih=>obtain⟨h3,g1,g2⟩:=p.comm q;exact .cons g1 (ih g2)
 |consE q e _ ih=>obtain⟨h3,g1,g2⟩:=p.comm q;exact .consE g1 e (ih g2)
 |@drop x h1 r t ih =>
  cases p with
  |head=>exact .drop (.drop t)
  |tail p=>exact .drop (ih p)
theorem zA.trans {h h1 h2:SH}(t:zA h h1)(u:zA h1 h2):zA h h2:=by
 induction u generalizing h with
 |nil=>exact t
 |cons p _ ih=>obtain⟨h',g1,g2⟩:=t.pick p;exact .cons g1 (ih g2)
 |consE p e _ ih=>obtain⟨h',g1,g2⟩:=t.pick p;exact .consE g1 e (ih g2)
 |@drop x h1 r u ih =>
  obtain⟨A,b⟩:=x;obtain⟨h',g1,g2⟩:=t.pick .head;exact zA.part g1 (ih g2)
theorem zH.take {P:Program}{f:FuncId}{as0:List Value}{p p':SH}{R:Value->SH->Prop}(t:zA p p')(k:zH P f as0 p' R):zH P f as0 p R:=by
 unfold zH at k ⊢;intro H i;exact(k H (i.le t.le).refl).mono λr H' ⟨q,g1,g2⟩=>⟨q,g1,(i.le t.le).comp g2⟩
theorem zA.drops {h r:SH}:∀{l:SH},zA h r->zA (l++h) r
 |[],k=>k
 |_::_,k=>.drop (zA.drops k)
theorem wD {α:Type}[Inhabited α]{l:List α}{k:Nat}(h:k<l.length):l.drop k=l[k]!::l.drop (k+1):=by
 rw[List.drop_eq_getElem_cons h,getElem!_pos l k h]
def Has (h:SH)(c:List Value)(w n:Nat)(v:Value):Prop:=∃ad fl,v=.slice ad n fl/\(n≠0->∃A ro h1,ad=some ⟨A,0,some (w*n)⟩/\Pick h A ⟨c,ro⟩ h1)
theorem dX {h h1:SH}{A:Nat}{b:Blk}(p:Pick h A b h1):Pick (rN h) A b.lock (rN h1):=by
 induction p with
 |head=>exact .head
 |tail _ ih=>exact .tail ih
theorem tT {h h1:SH}(t:zA h h1):zA (rN h) (rN h1):=by
 induction t with
 |nil=>exact .nil
 |cons p _ ih=>exact .cons (dX p) ih
 |consE p e _ ih=>subst e;exact .cons (dX p) ih
 |drop _ ih=>exact .drop ih
theorem Has.lock {h:SH}{c:List Value}{w n:Nat}{v:Value}(k:Has h c w n v):Has (rN h) c w n v:=by
 obtain⟨ad,fl,e,k⟩:=k;refine⟨ad,fl,e,λhn=>?_⟩;obtain⟨A,ro,h1,e2,p⟩:=k hn;exact⟨A,_,_,e2,dX p⟩
theorem Has.re {h h':SH}{c:List Value}{w n:Nat}{v:Value}(k:Has h c w n v)(t:zA h' h):Has h' c w n v:=by
 obtain⟨ad,fl,e,k⟩:=k;refine⟨ad,fl,e,λhn=>?_⟩;obtain⟨A,ro,h1,e2,p⟩:=k hn;obtain⟨h2,g,_⟩:=t.pick p;exact⟨A,ro,h2,e2,g⟩
theorem pL {c c':List Value}{ro:Mk}(h:c=c'):(⟨c,ro⟩:Blk)=⟨c',ro⟩:=by rw[h]
theorem vR {A A' o o' n n' l l' f f':Nat}(h1:A=A')(h2:o=o')(h3:n=n')(h4:l=l')(h5:f=f'):gsl A o n l f=gsl A' o' n' l' f':=by subst h1 h2 h3 h4 h5;rfl
end Go.Gh
end
section
namespace Go.Proofs.YtbidadebolllkaaGreatDoor
open Go.Gh Go.RowKit
variable {P:Program} {sz:Nat} {ops:Array Oper} {Q:wA} {rest:List Oper} {a:AF} {h h' h1:SH} {m:Gh.Mode} {t:Nat} {op:Op} {ty:TypeId} {pos:String} {aft:Array Edge} {p:Prop} {v:Value} {dst:Option Tmp} {j d:Nat} {want:Bool}
theorem jT {p:Prop}(h:p:=by repeat(first|with_reducible exact zA.nil|with_reducible apply zA.c|with_reducible apply zA.drop|with_reducible apply zA.pre|with_reducible apply zA.drops)):p:=h
theorem jK {p:Prop}(h:p:=by repeat(first|with_reducible exact zA.nil|with_reducible apply zA.c|with_reducible apply zA.drop)):p:=h
theorem jC {p:Prop}(h:p:=by repeat(first|with_reducible exact zA.nil|with_reducible apply zA.c)):p:=h
theorem jD {p:Prop}(h:p:=by repeat(first|with_reducible exact zA.nil|with_reducible apply zA.drop)):p:=h
theorem jN {p:Prop}(h:p:=by repeat(first|with_reducible exact zA.nil)):p:=h
theorem jB {p:Prop}(h:p:=by repeat'(first|exact trivial|refine⟨rfl,?_⟩|refine⟨congrArg some ?_,?_⟩)):p:=h
theorem jX {p:Prop}(h:p:=by first|contradiction|(exfalso;omega)):p:=h
theorem jF {fn:Func}{q:SH}{R:Value->SH->Prop}{vs:List Value}(r:zO P a h fn.results.toList vs:=by first|exact(show zO _ _ _ _ [_] from⟨rfl,trivial⟩)|exact(show zO _ _ _ _ [_,_] from⟨rfl,⟨rfl,trivial⟩⟩)|exact(show zO _ _ _ _ [_,_,_] from⟨rfl,⟨rfl,⟨rfl,trivial⟩⟩⟩))(k:R (tF vs) q)(t:zA h q:=by repeat(first|with_reducible exact zA.nil|with_reducible apply zA.c|with_reducible apply zA.drop|with_reducible apply zA.pre|with_reducible apply zA.drops)):qM P fn R .ret a h:=yA r k t
theorem jG {p:Prop}(h:p:=by exact jF (k:=by exact⟨rfl,rfl⟩)):p:=h
theorem jS {p:Prop}(h:p:=by((with_reducible apply Sd.mk);first|exact True.intro)):p:=h
theorem jO {p:Prop}(h:p:=by((with_reducible apply Sd.mk);first|exact True.intro|omega)):p:=h
theorem jW {p:Prop}(h:p:=by((with_reducible apply Wr.mk);first|exact IntWalk.i64_in _ (by omega))):p:=h
theorem jL {p:Prop}(h:p:=by((with_reducible apply Ln.mk);first|rfl)):p:=h
theorem jE {p:Prop}(h:p:=by((with_reducible apply Ce.mk);first|rfl)):p:=h
theorem jU {p:Prop}(h:p:=by((with_reducible apply Su.mk);first|exact xY)):p:=h
theorem jP {p:Prop}(h:p:=by((with_reducible apply Pu.mk);first|exact kE rfl)):p:=h
theorem jZ {p:Prop}(h:p:=by((with_reducible apply Se.mk);first|(focus(repeat(first|exact yD.zero|apply yD.succ));done))):p:=h
theorem jV {p:Prop}(h:p:=by((with_reducible apply Sd.mk);first|exact True.intro|omega|(constructor <;> first|omega|(unfold maxLen;omega)))):p:=h
theorem jY {A n b T x:Nat}{cs:List Value}{ro:Mk}{e:TE}{w:Value}(hT:tyT.get T=some e:=by exact rfl)(hb:get a b=some (zG A 0 n):=by exact rfl)(hk:e.k.agg=true:=by exact rfl)(hp:Pick h A ⟨cs,ro⟩ h1:=by exact pk)(hn:cs.length=n:=by first|rfl|exact ‹_›|omega|(simp;first|done|omega))(hs:cs.length=e.sz:=by first|rfl|exact ‹_›|omega|(simp;first|done|omega))(hr:zO Tryz.prog a h [.tmp x] [w]:=by exact⟨rfl,trivial⟩):zO Tryz.prog a h [.cell b T,.tmp x] [.agg ⟨cs⟩,w]:=sG zK hb hT hk hp hn hs hr
theorem jg (hp:Sd p)(k:GO m.next Tryz.prog sz ops Q rest ((t,v)::a) h)(hg:nY tyT a op=some (p,v):=by exact rfl)(hN:Nat.blt t sz=true:=by exact rfl):GO m Tryz.prog sz ops Q (⟨some t,op,ty,pos,aft,none⟩::rest) a h:=o_g zK hg hN hp k
theorem jf {c:Operand}{x y:Code}{p:Prop}{_:Decidable (p)}(k:SWp P sz y Q a h)(hc:ev a c=some (.bool (decide p)):=by exact rfl)(hp:¬p:=by omega):SWp P sz (.cond c x y) Q a h:=pT hc hp k
theorem jd {c:Operand}{x y:Code}{p:Prop}{_:Decidable (p)}(k:SWp P sz x Q a h)(hc:ev a c=some (.bool (decide p)):=by exact rfl)(hp:p:=by omega):SWp P sz (.cond c x y) Q a h:=tC hc hp k
theorem jw (k:GO m P sz ops Q (⟨dst,op,ty,pos,aft,none⟩::rest) a h)(hd:(ops[j]?).bind (·.dst)=some d:=by exact rfl)(hb:get a d=some (.bool want):=by exact rfl):GO m P sz ops Q (⟨dst,op,ty,pos,aft,some (j,want)⟩::rest) a h:=lO hd hb k
theorem jr {id:Nat}(k:GO (.draw 0 [] []) P sz ops Q ops.toList a h)(hm:P.follows .mixedOrders=true:=by kernel_rfl)(hB:tH ops=true:=by kernel_rfl):SWp P sz (.region id ops true) Q a h:=yEv hm hB k
theorem jx {T:Nat}{x:Operand}{s b:Nat}{tk:TK}{z:Option Value}{c:List Value}(k:∀A,GO (m.nw h (A,⟨c,false⟩)) P sz ops Q rest ((t,zG A 0 s)::a) ((A,⟨c,false⟩)::h))(hT:tyT.get T=some ⟨tk,s,b,z⟩:=by exact rfl)(hx:ev a x=some v:=by exact rfl)(hc:vcl v=some c:=by exact rfl)(hs:c.length=s:=by exact rfl)(hN:Nat.blt t sz=true:=by exact rfl):GO m P sz ops Q (⟨some t,.box T x,ty,pos,aft,none⟩::rest) a h:=yMc hT hx hc hs hN k
theorem jy {T s b:Nat}{tk:TK}{z:Value}{c:List Value}(k:∀A,GO (m.nw h (A,⟨c,false⟩)) Tryz.prog sz ops Q rest ((t,zG A 0 s)::a) ((A,⟨c,false⟩)::h))(hT:tyT.get T=some ⟨tk,s,b,some z⟩:=by exact rfl)(hc:vcl z=some c:=by exact rfl)(hz:yB z=true:=by exact rfl)(hs:c.length=s:=by exact rfl)(hN:Nat.blt t sz=true:=by exact rfl):GO m Tryz.prog sz ops Q (⟨some t,.alloc T,ty,pos,aft,none⟩::rest) a h:=yGk zK hT hc hz hs hN k
theorem jk {b:Bool}(k:GO m.next P sz ops Q rest ((t,undef)::a) h)(hd:(ops[j]?).bind (·.dst)=some d:=by exact rfl)(hb:get a d=some (.bool b):=by exact rfl)(e:b=!want:=by exact rfl)(hN:Nat.blt t sz=true:=by exact rfl):GO m P sz ops Q (⟨some t,op,ty,pos,aft,some (j,want)⟩::rest) a h:=lJ hd hb e hN k
theorem ji {p:Prop}{_:Decidable (p)}{want:Bool}(k:GO m P sz ops Q (⟨some t,op,ty,pos,aft,none⟩::rest) ((d,.bool false)::a) h)(hd:(ops[j]?).bind (·.dst)=some d:=by exact rfl)(hb:get a d=some (.bool (decide p)):=by exact rfl)(hw:want=false:=by exact rfl)(hp:¬p:=by omega):GO m P sz ops Q (⟨some t,op,ty,pos,aft,some (j,want)⟩::rest) a h:=o_gF hd hb hw hp k
theorem jh {p:Prop}{_:Decidable (p)}{want:Bool}(k:GO m P sz ops Q (⟨some t,op,ty,pos,aft,none⟩::rest) ((d,.bool true)::a) h)(hd:(ops[j]?).bind (·.dst)=some d:=by exact rfl)(hb:get a d=some (.bool (decide p)):=by exact rfl)(hw:want=true:=by exact rfl)(hp:p:=by omega):GO m P sz ops Q (⟨some t,op,ty,pos,aft,some (j,want)⟩::rest) a h:=zDy hd hb hw hp k
theorem jb {T n:Nat}{ps:List (Nat × Operand)}{E s1 b1 s b:Nat}{tk:TK}{z1:Option Value}{z:Value}{vs:List (Nat × Value)}{out:List Value}(k:∀A,GO (m.nw h (A,⟨out,false⟩)) Tryz.prog sz ops Q rest ((t,gsl A 0 (n*s) n s)::a) ((A,⟨out,false⟩)::h))(hT:tyT.get T=some ⟨.slice E,s1,b1,z1⟩:=by exact rfl)(hE:tyT.get E=some ⟨tk,s,b,some z⟩:=by exact rfl)(hz:yB z=true:=by exact rfl)(hzs:(mG z).length=s:=by exact rfl)(hv:vG a ps=some vs:=by exact rfl)(hs:0<s:=by decide)(hn:vs.length=n:=by exact rfl)(hle:n*s<=16777216:=by decide)(hc:xE s 0 vs out:=by repeat(first|exact xE.nil|(apply xE.one;exact rfl;exact rfl)))(hN:Nat.blt t sz=true:=by exact rfl):GO m Tryz.prog sz ops Q (⟨some t,.buildSlice T n ps.toArray,ty,pos,aft,none⟩::rest) a h:=xT zK hT hE hz hzs hv hs hn hle hc hN k
theorem jI {p:Prop}(h:p:=by exact⟨rfl,rfl,rfl,pk⟩):p:=h
theorem jJ {p:Prop}(h:p:=by exact⟨rfl,rfl,rfl,rfl,⟨rfl⟩,up⟩):p:=h
theorem jH {p:Prop}(h:p:=by exact⟨rfl,rfl⟩):p:=h
theorem jm {T:Nat}{x:Operand}{A off n:Nat}{g:Blk}{e:TE}(hh:ev a x=some (zG A off n)/\tyT.get T=some e/\e.k.agg=false/\Pick h A g h1)(hN:Nat.blt t sz=true)(hn:Ln (g.cells.length=n))(hc:Ce (g.cells[off]?=some v))(hok:m.rdOk ops λh'=>Rc (∃g h1,Pick h' A g h1/\Ln (g.cells.length=n)/\Ce (g.cells[off]?=some v)))(k:GO (m.rd λh'=>Rc (∃g h1,Pick h' A g h1/\Ln (g.cells.length=n)/\Ce (g.cells[off]?=some v))) Tryz.prog sz ops Q rest ((t,v)::a) h):GO m Tryz.prog sz ops Q (⟨some t,.load T x,ty,pos,aft,none⟩::rest) a h:=yJe zK hh.1 hh.2.1 hh.2.2.1 hh.2.2.2 hN hn hc hok k
theorem jl {T:Nat}{x:Operand}{A off n:Nat}{g:Blk}{e:TE}{vs:List Value}(hh:ev a x=some (zG A off n)/\tyT.get T=some e/\e.k.agg=true/\Pick h A g h1)(hN:Nat.blt t sz=true)(hn:Ln (g.cells.length=n))(hc:Su (xF g.cells off vs))(hs:Ln (vs.length=e.sz))(hok:m.rdOk ops λh'=>Rc (∃g h1,Pick h' A g h1/\Ln (g.cells.length=n)/\Su (xF g.cells off vs)))(k:GO (m.rd λh'=>Rc (∃g h1,Pick h' A g h1/\Ln (g.cells.length=n)/\Su (xF g.cells off vs))) Tryz.prog sz ops Q rest ((t,.agg ⟨vs⟩)::a) h):GO m Tryz.prog sz ops Q (⟨some t,.load T x,ty,pos,aft,none⟩::rest) a h:=yDu zK hh.1 hh.2.1 hh.2.2.1 hh.2.2.2 hN hn hc hs hok k
theorem js {T:Nat}{x y:Operand}{A off n:Nat}{e:TE}{cells cells' vs:List Value}(hh:ev a x=some (zG A off n)/\ev a y=some (.agg ⟨vs⟩)/\vs.all one=true/\tyT.get T=some e/\Ln (vs.length=e.sz)/\Upd h A ⟨cells,false⟩ ⟨cells',false⟩ h')(hn:Ln (cells.length=n))(hc:Pu (rJ cells off vs cells'))(hok:m.efOk ops h')(k:GO (m.ef h) Tryz.prog sz ops Q rest a h'):GO m Tryz.prog sz ops Q (⟨none,.store T x y,ty,pos,aft,none⟩::rest) a h:=zYt zK hh.1 hh.2.1 hh.2.2.1 hh.2.2.2.1 hh.2.2.2.2.1 hh.2.2.2.2.2 hn hc hok k
theorem ja {kk:IntKind}{e r:Int}(hh:nX tyT a op=some (p,kk,e)/\Nat.blt t sz=true)(hp:Sd p)(hr:Wr (kk.wrap e=r))(k:GO m.next Tryz.prog sz ops Q rest ((t,.int kk r)::a) h):GO m Tryz.prog sz ops Q (⟨some t,op,ty,pos,aft,none⟩::rest) a h:=o_ar zK hh.1 hh.2 hp hr k
theorem jc {x:Operand}{xs:List Operand}{ts:Array TypeId}{f:FuncId}{first captured:Array Value}{as0:List Value}{R:Value->SH->Prop}(k:∀r q,R r q->GO .seq P sz ops Q rest ((t,r)::a) q)(hx:ev a x=some (.func (.func f) first captured):=by exact rfl)(hxs:evs a xs=some as0:=by exact rfl)(hf:xL P f=true:=by exact rfl)(hN:Nat.blt t sz=true:=by exact rfl)(c:∃h1,zH P f (first.toList++as0++captured.toList) h1 R/\zA h h1):GO .seq P sz ops Q (⟨some t,.call { callee:=.value x,args:=xs.toArray,argTypes:=ts },ty,pos,aft,none⟩::rest) a h:=zZ hx hxs hf hN c k
theorem jq {x:Operand}{xs:List Operand}{ts:Array TypeId}{f:FuncId}{first captured:Array Value}{as0:List Value}(k:GO .seq P sz ops Q rest ((t,v)::a) h')(hx:ev a x=some (.func (.func f) first captured):=by exact rfl)(hxs:evs a xs=some as0:=by exact rfl)(hf:xL P f=true:=by exact rfl)(hN:Nat.blt t sz=true:=by exact rfl)(c:∃h1,(zH P f (first.toList++as0++captured.toList) h1 λr q=>r=v/\q=h')/\zA h h1):GO .seq P sz ops Q (⟨some t,.call { callee:=.value x,args:=xs.toArray,argTypes:=ts },ty,pos,aft,none⟩::rest) a h:=zZ hx hxs hf hN c (by rintro _ _ ⟨rfl,rfl⟩;exact k)
end Go.Proofs.YtbidadebolllkaaGreatDoor
end
