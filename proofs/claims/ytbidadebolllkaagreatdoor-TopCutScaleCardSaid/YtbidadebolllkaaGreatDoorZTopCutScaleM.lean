/- Part 13 of the proof of the law TopCutScale: texts merged. No condition. -/
import Derived.Test.YtbidadebolllkaaGreatDoorZTopCutScaleL
import Derived.Deep.Slices
import Derived.SizedLaws
set_option linter.unusedSimpArgs false
set_option linter.unusedVariables false
section
set_option maxRecDepth 4000
namespace Go.Gh
open Go.RowKit
noncomputable section
def qU :Hp->List Blk->Hp
 |h,[]=>h
 |h,b::l=>qU (h.push b) l
theorem zCr :∀(l:List Blk) (h:Hp),toL (qU h l)=toL h++l.map some
 |[],h=>by simp[qU]
 |b::l,h=>by unfold qU;rw[zCr l,mN];simp
def dP (k:Nat)(ks:List Nat)(A A':Nat):Bool:=bif Nat.blt A k then Nat.beq A A' else(match ks[A-k]? with|some B=>Nat.beq B A'|none=>false)
def pN (k:Nat)(ks:List Nat):Nat->Value->Value->Bool
 |_,.bool a,.bool b=>a == b
 |_,.int j m,.int j' n=>oI j j' && eqI m n
 |_,.string a,.string b=>sN (yQ a) (yQ b)
 |_,.pointer none,.pointer none=>true
 |_,.pointer (some ⟨A,o,some n⟩),.pointer (some ⟨A',o',some n'⟩)=>dP k ks A A' && Nat.beq o o' && Nat.beq n n'
 |_,.slice none 0 0,.slice none 0 0=>true
 |_,.slice (some ⟨A,o,some n⟩) l f,.slice (some ⟨A',o',some n'⟩) l' f'=>dP k ks A A' && Nat.beq o o' && Nat.beq n n' && Nat.beq l l' && Nat.beq f f'
 |n+1,.agg a,.agg b=>vB.beqVs (pN k ks n) a.toList b.toList
 |n+1,.tuple a,.tuple b=>vB.beqVs (pN k ks n) a.toList b.toList
 |_,_,_=>false
def zGo (k:Nat)(ks:List Nat)(b:Blk):Option Blk->Bool
 |some g=>(!b.ro.b) && zEc b.ro.ty none && (!g.ro.b) && vB.beqVs (pN k ks 1) b.cells g.cells
 |none=>false
def bA (k:Nat)(ks:List Nat)(h:Hp):List Nat->List Blk->Bool
 |[],[]=>true
 |A::r,b::l=>zGo k ks b (h.get A) && bA k ks h r l
 |_,_=>false
def zPj (a b:Option Blk):Bool:=match a,b with
 |some a,some b=>Nat.beq a.cells.length b.cells.length
 |_,_=>false
def fQ :List Nat->Bool
 |[]=>true
 |a::l=>(l.all λb=>!Nat.beq a b) && fQ l
def zBe (h:Hp)(ks:List Nat)(bl:List Blk)(v:Value)(x:Value × Hp):Bool :=
 pN h.n ks 4 v x.1 && bA h.n ks x.2 ks bl && fQ ks && (List.range h.n).all λA=>zPj (h.get A) (x.2.get A)
theorem cZ {p:Value->Value->Bool}:∀{x y:List Value},vB.beqVs p x y=true->x.length=y.length/\∀(i:Nat) a b,x[i]?=some a->y[i]?=some b->p a b=true
 |[],[],_=>⟨rfl,λi a b h=>by simp at h⟩
 |[],_::_,h=>by cases h
 |_::_,[],h=>by cases h
 |a::x,b::y,h=>by
  unfold vB.beqVs at h;rw[Bool.and_eq_true]at h;obtain⟨h1,h2⟩:=cZ h.2;refine⟨by simp[h1],λi c d hc hd=>?_⟩;cases i with
  |zero=>simp at hc hd;subst hc hd;exact h.1
  |succ i=>exact h2 i c d (by simpa using hc) (by simpa using hd)
theorem zIy {k:Nat}{ks:List Nat}{h:Hp}:∀{r:List Nat} {l:List Blk},bA k ks h r l=true->r.length=l.length/\∀(i:Nat) A b,r[i]?=some A->l[i]?=some b->zGo k ks b (h.get A)=true
 |[],[],_=>⟨rfl,λi a b h=>by simp at h⟩
 |[],_::_,h=>by cases h
 |_::_,[],h=>by cases h
 |a::x,b::y,h=>by
  unfold bA at h;rw[Bool.and_eq_true]at h;obtain⟨h1,h2⟩:=zIy h.2;refine⟨by simp[h1],λi c d hc hd=>?_⟩;cases i with
  |zero=>simp at hc hd;subst hc hd;exact h.1
  |succ i=>exact h2 i c d (by simpa using hc) (by simpa using hd)
theorem zVi :∀{l:List Nat},fQ l=true->∀(i j:Nat) a,l[i]?=some a->l[j]?=some a->i=j
 |[],_,i,j,a,h,_=>by simp at h
 |x::l,h,i,j,a,hi,hj=>by
  unfold fQ at h;rw[Bool.and_eq_true]at h;have hno:∀(m:Nat),l[m]?≠some x:=λm hm=>by
   have:=(List.all_eq_true.1 h.1) x (List.mem_of_getElem? hm);rw[Nat.beq_refl]at this;cases this
  cases i with
  |zero =>
   cases j with
   |zero=>rfl
   |succ j=>simp at hi hj;subst hi;exact absurd hj (hno j)
  |succ i =>
   cases j with
   |zero=>simp at hi hj;subst hj;exact absurd hi (hno i)
   |succ j=>rw[zVi h.2 i j a (by simpa using hi) (by simpa using hj)]
theorem zJq {φ3 φ':Fi}{L3 L':zP}{k:Nat}{ks:List Nat}(hn:∀A A' n,dP k ks A A'=true->L3 A'=some n->L' A=some n/\φ' A=φ3 A'):∀(m:Nat) {v u x:Value},pN k ks m v u=true->Val φ3 L3 u x->Val φ' L' v x:=by
 intro m
 induction m with
 |zero =>
  intro v u x h hv;unfold pN at h;split at h
  all_goals first
   |cases h;done
   |skip
  ·rename_i a b
   have:a=b:=by cases a <;> cases b <;> first|rfl|cases h
   subst this;cases hv;exact .bool _
  ·simp only[Bool.and_eq_true]at h
   rw[iW h.1];have h2:=h.2;rw[rS]at h2;rw[of_decide_eq_true h2];cases hv;exact .int _ _
  ·rename_i a b
   rw[uX]at h;have e:Value.string a=.string b:=by rw[vX,vX b,of_decide_eq_true h]
   rw[e];cases hv;exact .str _
  ·cases hv;exact .pnil
  ·simp only[Bool.and_eq_true,yP]at h
   obtain⟨⟨h1,rfl⟩,rfl⟩:=h;cases hv with
   |ptr _ _ _ n c k1 k2 k3 =>
    obtain⟨g1,g2⟩:=hn _ _ n h1 k1;exact .ptr _ _ _ n c g1 k2 (by rw[g2];exact k3)
  ·cases hv;exact .snil
  ·simp only[Bool.and_eq_true,yP]at h
   obtain⟨⟨⟨⟨h1,rfl⟩,rfl⟩,rfl⟩,rfl⟩:=h;cases hv with
   |slc _ _ _ n _ _ cap c k1 k2 k3 k4 k5 =>
    obtain⟨g1,g2⟩:=hn _ _ n h1 k1;exact .slc _ _ _ n _ _ cap c g1 k2 k3 k4 (by rw[g2];exact k5)
  ·rename_i e;cases e
  ·rename_i e;cases e
 |succ m ih =>
  intro v u x h hv;have arr:∀{a b c:Array Value},vB.beqVs (pN k ks m) a.toList b.toList=true->b.size=c.size->(∀i (h:i<b.size) (h':i<c.size),Val φ3 L3 b[i] c[i])->a.size=c.size/\∀i (h:i<a.size) (h':i<c.size),Val φ' L' a[i] c[i]:=by
   intro a b c hab h1 h2;obtain⟨q1,q2⟩:=cZ hab;simp at q1;refine⟨q1.trans h1,λi hi hi'=>ih (q2 i a[i] b[i] (by simp) (by simp)) (h2 i (by omega) hi')⟩
  unfold pN at h;split at h
  all_goals first
   |cases h;done
   |skip
  ·rename_i a b
   have:a=b:=by cases a <;> cases b <;> first|rfl|cases h
   subst this;cases hv;exact .bool _
  ·simp only[Bool.and_eq_true]at h
   rw[iW h.1];have h2:=h.2;rw[rS]at h2;rw[of_decide_eq_true h2];cases hv;exact .int _ _
  ·rename_i a b
   rw[uX]at h;have e:Value.string a=.string b:=by rw[vX,vX b,of_decide_eq_true h]
   rw[e];cases hv;exact .str _
  ·cases hv;exact .pnil
  ·simp only[Bool.and_eq_true,yP]at h
   obtain⟨⟨h1,rfl⟩,rfl⟩:=h;cases hv with
   |ptr _ _ _ n c k1 k2 k3 =>
    obtain⟨g1,g2⟩:=hn _ _ n h1 k1;exact .ptr _ _ _ n c g1 k2 (by rw[g2];exact k3)
  ·cases hv;exact .snil
  ·simp only[Bool.and_eq_true,yP]at h
   obtain⟨⟨⟨⟨h1,rfl⟩,rfl⟩,rfl⟩,rfl⟩:=h;cases hv with
   |slc _ _ _ n _ _ cap c k1 k2 k3 k4 k5 =>
    obtain⟨g1,g2⟩:=hn _ _ n h1 k1;exact .slc _ _ _ n _ _ cap c g1 k2 k3 k4 (by rw[g2];exact k5)
  ·rename_i e
   cases e;cases hv with
   |agg _ _ h1 h2=>obtain⟨q1,q2⟩:=arr h h1 h2;exact .agg _ _ q1 q2
  ·rename_i e
   cases e;cases hv with
   |tuple _ _ h1 h2=>obtain⟨q1,q2⟩:=arr h h1 h2;exact .tuple _ _ q1 q2
theorem zXr {P:Program}{g:FuncId}{as0:List Value}{h:Hp}{x:Value × Hp}{ks:List Nat}{bl:List Blk}{v:Value}(hrun:Run P g as0 (toL h.shut) λr H'=>r=x.1/\H'=toL x.2)(hg:zBe h ks bl v x=true) :
  Run P g as0 (toL h) λr H'=>r=v/\H'=toL h++bl.map some:=by
 unfold zBe at hg;simp only[Bool.and_eq_true]at hg;obtain⟨⟨⟨g1,g2⟩,gnd⟩,g4⟩:=hg;obtain⟨hlen,hbs⟩:=zIy g2;unfold Run at hrun ⊢;intro B0 w0 φs Ls φ w vs he hr hv;have hr0:=hr.locked;rw[<-kK]at hr0;have hv0:yM φ.bare (lens (toL h.shut)) as0 vs:=by rw[kK,kC];exact hv.bare
 refine(hrun w.heap.size w φ.bare (lens (toL h.shut)) φ.bare w vs (.refl _ _) hr0 hv0).mono ?_;rintro e w' ⟨φ3,r,H3,v',hx1,r3,rfl,hval,rfl,rfl⟩;rw[kK,kC]at hx1;have hk:(toL h).length=h.n:=xW h;have hbw:=r3.below;have hsz:w0.heap.size<=w.heap.size:=hr.below.size;have hb0:=hr.b0
 let φ':Fi:=⟨λA=>if A<h.n then φ A else φ3 (ks.getD (A-h.n) 0),φ.mks⟩
 have old:∀{A},A<h.n->φ' A=φ A:=λ{A} hA=>if_pos hA;have neu:∀{i K},ks[i]?=some K->φ' (h.n+i)=φ3 K:=λ{i K} hK=>by
  show(if h.n+i<h.n then _ else φ3 (ks.getD (h.n+i-h.n) 0))=_;rw[if_neg (by omega),Nat.add_sub_cancel_left,List.getD_eq_getElem?_getD,hK];rfl
 have atOld:∀{A},A<h.n->(toL h++bl.map some)[A]?=(toL h)[A]?:=λ{A} hA=>List.getElem?_append_left (by rw[hk];exact hA);have atNew:∀{i},(toL h++bl.map some)[h.n+i]?=(bl.map some)[i]?:=λ{i}=>by rw[List.getElem?_append_right (by rw[hk];omega),hk,Nat.add_sub_cancel_left]
 have lensOld:∀{A},A<h.n->lens (toL h++bl.map some) A=lens (toL h) A:=λ{A} hA=>by simp only[lens,atOld hA]
 have hext:Ext φ (lens (toL h)) φ' (lens (toL h++bl.map some)):=⟨λA n hA=>by
  have hlt:A<h.n:=by rw[<-hk];exact dM hA
  exact⟨n,by rw[lensOld hlt];exact hA,.inl ⟨rfl,old hlt⟩⟩,λD hD=>hD⟩
 
 have newAt:∀{i g'},(toL h++bl.map some)[h.n+i]?=some (some g')->∃K g3,ks[i]?=some K/\(toL x.2)[K]?=some (some g3)/\g'.ro.b=false/\g'.ro.ty=none/\g3.ro.b=false/\vB.beqVs (pN h.n ks 1) g'.cells g3.cells=true:=by
  intro i g' hA;rw[atNew,List.getElem?_map]at hA;cases hb:bl[i]? with
  |none=>rw[hb]at hA;cases hA
  |some b =>
   rw[hb]at hA;simp only[Option.map_some,Option.some.injEq]at hA;subst hA;have hil:i<ks.length:=by rw[hlen];exact(List.getElem?_eq_some_iff.1 hb).1
   have hs:=hbs i ks[i] b (List.getElem?_eq_getElem hil) hb;unfold zGo at hs;split at hs
   ·rename_i g3 hg3
    simp only[Bool.and_eq_true,Bool.not_eq_true']at hs;obtain⟨⟨⟨s1,s2⟩,s3⟩,s4⟩:=hs;refine⟨ks[i],g3,List.getElem?_eq_getElem hil,rT hg3,s1,?_,s3,s4⟩;cases ht:b.ro.ty with
    |none=>rfl
    |some t=>rw[ht]at s2;cases s2
   ·cases hs
 have hnum:∀A A' n,dP h.n ks A A'=true->lens (toL x.2) A'=some n->lens (toL h++bl.map some) A=some n/\φ' A=φ3 A':=by
  intro A A' n h1 h2;unfold dP at h1;rcases Nat.lt_or_ge A h.n with hA|hA
  ·rw[xS.2 hA,cond_true]at h1
   obtain rfl:=yP.1 h1;have hl:=(List.all_eq_true.1 g4) A (List.mem_range.2 hA);unfold zPj at hl;split at hl
   ·rename_i a b ha hb
    rw[wH (rT hb)]at h2;simp only[Option.some.injEq]at h2;have hla:lens (toL h) A=some n:=by rw[wH (rT ha),yP.1 hl,h2]
    refine⟨by rw[lensOld hA];exact hla,?_⟩;rw[old hA];obtain⟨n',q1,q2⟩:=hx1.at_ A n hla;rw[wH (rT hb),h2]at q1;simp only[Option.some.injEq]at q1;rcases q2 with⟨_,q2⟩|⟨q2,_⟩
    ·exact q2.symm
    ·omega
   ·cases hl
  ·have:Nat.blt A h.n=false:=by
    cases hb:Nat.blt A h.n with
    |false=>rfl
    |true=>have:=xS.1 hb;omega
   rw[this,cond_false]at h1;split at h1
   ·rename_i K hK
    obtain rfl:=yP.1 h1;obtain⟨i,rfl⟩:∃i,A=h.n+i:=⟨A-h.n,by omega⟩;rw[Nat.add_sub_cancel_left]at hK;have hil:=(List.getElem?_eq_some_iff.1 hK).1;have hb:bl[i]?=some (bl[i]'(by omega)):=List.getElem?_eq_getElem _;have hA':(toL h++bl.map some)[h.n+i]?=some (some (bl[i]'(by omega))):=by rw[atNew,List.getElem?_map,hb];rfl
    obtain⟨K',g3,k1,k2,_,_,_,k6⟩:=newAt hA';rw[hK]at k1;cases k1;rw[wH k2]at h2;simp only[Option.some.injEq]at h2;refine⟨?_,neu hK⟩;rw[wH hA',(cZ k6).1,h2]
   ·cases h1
 have hval':Val φ' (lens (toL h++bl.map some)) v v':=zJq hnum 4 g1 hval;have hrl:=hr.later hbw;have split_:∀{A:Nat},A<h.n\/∃i,A=h.n+i:=λ{A}=>by
  rcases Nat.lt_or_ge A h.n with hA|hA
  ·exact .inl hA
  ·exact .inr ⟨A-h.n,by omega⟩
 refine⟨φ',v,_,v',he.trans hext,⟨hrl.below,hr.b0,λA g' hA=>?_,λA g' hA hro=>?_,λA A' g' g'' hA hro hA' heq=>?_,hr.gw,hrl.mks⟩,rfl,hval',rfl,rfl⟩
 ·rcases split_ (A:=A)with hlt|⟨i,rfl⟩
  ·rw[atOld hlt]at hA
   obtain⟨o,c,h1,h2,h3,h4⟩:=(hrl.blk A g' hA).any;rw[old hlt];exact⟨o,c,h1,h2,h3,λj u hj=>let ⟨u',q1,q2⟩:=h4 j u hj;⟨u',q1,q2.mono hext⟩⟩
  ·obtain⟨K,g3,k1,k2,k3,k4,k5,k6⟩:=newAt hA
   obtain⟨o,c,h1,h2,h3,h4⟩:=(r3.blk K g3 k2).any;obtain⟨e1,e2⟩:=cZ k6;rw[neu k1];refine⟨o,c,h1,?_,by rw[e1];exact h3,λj u hj=>?_⟩
   ·cases h2 with
    |cells a1 a2 a3 a4=>exact .cells a1 a2 (λ_=>a3 k5) (λt ht=>by rw[k4]at ht;cases ht)
    |map a1 a2 a3 a4 a5=>exact .map a1 a2 (by rw[e1];exact a3) a4 a5
    |loop a1 a2 a3 a4 a5=>exact .loop a1 a2 a3 a4 a5
    |siter a1 a2 a3=>exact .siter a1 a2 a3
    |miter a1 a2 a3=>exact .miter a1 a2 a3
    |bag a1 a2 a3 a4 a5 a6 a7=>exact .bag a1 a2 a3 (by rw[e1];exact a4) a5 a6 a7
   ·have hjl:j<g3.cells.length:=by rw[<-e1];exact(List.getElem?_eq_some_iff.1 hj).1
    obtain⟨u',q1,q2⟩:=h4 j g3.cells[j] (List.getElem?_eq_getElem hjl);exact⟨u',q1,zJq hnum 1 (e2 j u g3.cells[j] hj (List.getElem?_eq_getElem hjl)) q2⟩
 ·rcases split_ (A:=A)with hlt|⟨i,rfl⟩
  ·rw[atOld hlt]at hA
   rw[old hlt];exact hr.own A g' hA hro
  ·obtain⟨K,g3,k1,k2,_,_,k5,_⟩:=newAt hA
   rw[neu k1];obtain⟨q1,q2⟩:=r3.own K g3 k2 k5;exact⟨by omega,q2⟩
 ·rcases split_ (A:=A)with hlt|⟨i,rfl⟩
  ·rcases split_ (A:=A')with hlt'|⟨i',rfl⟩
   ·rw[atOld hlt]at hA
    rw[atOld hlt']at hA';rw[old hlt,old hlt']at heq;exact hr.inj A A' g' g'' hA hro hA' heq
   ·exfalso
    rw[atOld hlt]at hA;obtain⟨K,g3,k1,k2,_,_,k5,_⟩:=newAt hA';rw[old hlt,neu k1]at heq;have:=hr.lt hA;have:=(r3.own K g3 k2 k5).1;omega
  ·obtain⟨K,g3,k1,k2,_,_,k5,_⟩:=newAt hA
   rcases split_ (A:=A')with hlt'|⟨i',rfl⟩
   ·exfalso
    rw[atOld hlt']at hA';rw[old hlt',neu k1]at heq;have:=hr.lt hA';have:=(r3.own K g3 k2 k5).1;omega
   ·obtain⟨K',g3',k1',k2',_,_,k5',_⟩:=newAt hA'
    rw[neu k1,neu k1']at heq;have:=r3.inj K K' g3 g3' k2 k5 k2' heq;subst this;rw[zVi gnd i' i _ k1' k1]
structure Ktr where
 g:FuncId
 args:List Value
 hl:List Blk
 ks:List Nat
 v:Value
 bl:List Blk
def ktrB (t:Ktr):Ou (Value × Hp)->Bool
 |.one x=>zBe (qU .none t.hl) t.ks t.bl t.v x
 |_=>false
def oT (P:Program)(ext:Cfg)(n:Nat)(t:Ktr):Bool:=ktrB t (xH P ext (evN P ext n) t.g t.args (qU .none t.hl).shut)
theorem kU {P:Program}(hL:∀d,vO d=sK P d){ext:Cfg}(hX:mB P ext){n:Nat}{t:Ktr}(h:oT P ext n t=true):Run P t.g t.args (toL (qU .none t.hl)) λr H'=>r=t.v/\H'=toL (qU .none t.hl)++t.bl.map some:=by
 unfold oT at h;cases hr:xH P ext (evN P ext n) t.g t.args (qU .none t.hl).shut with
 |err s=>rw[hr]at h;cases h
 |two a b=>rw[hr]at h;cases h
 |one x =>
  rw[hr]at h;refine zXr (x:=x) (Run.mono (zNx hL hX (n:=n) (by rw[hr];rfl)) ?_) h;rintro v H' ⟨y,hy,rfl,rfl⟩;rw[hr]at hy;cases hy;exact⟨rfl,rfl⟩
def aO (h h':Hp):Bool:=Nat.beq h.n h'.n && (List.range h.n).all λA=>pC [A] h h'
theorem zIx {h h':Hp}(e:aO h h'=true):toL h=toL h':=by
 unfold aO at e;rw[Bool.and_eq_true]at e;have hn:=yP.1 e.1;unfold toL;rw[<-hn];refine List.map_congr_left λA hA=>?_;obtain⟨g,h1,h2⟩:=bL ((List.all_eq_true.1 e.2) A hA) (List.mem_singleton.2 rfl);rw[h1,h2]
def mV (t:Ktr)(as0:List Value)(h:Hp):Ou (Value × Hp):=bif vB.beqVs (vB 4) as0 t.args && aO h (qU .none t.hl)then .one (t.v,qU h t.bl)else .err "a call that is not known"
theorem kZ {P:Program}{t:Ktr}(hen:xL P t.g=true)(hr:Run P t.g t.args (toL (qU .none t.hl)) λr H'=>r=t.v/\H'=toL (qU .none t.hl)++t.bl.map some){as0:List Value}{h:Hp}(hok:(mV t as0 h).ok=true) :
  xL P t.g=true/\Run P t.g as0 (toL h) λv H'=>∃y,Mem y (mV t as0 h)/\v=y.1/\H'=toL y.2:=by
 unfold mV at hok ⊢;cases hc:vB.beqVs (vB 4) as0 t.args && aO h (qU .none t.hl)with
 |false=>rw[hc]at hok;cases hok
 |true =>
  rw[Bool.and_eq_true]at hc;rw[nU (zDg 4) hc.1];refine⟨hen,?_⟩;rw[zIx hc.2];refine Run.mono hr ?_;rintro v H' ⟨rfl,rfl⟩;refine⟨_,.one,rfl,?_⟩;show _=toL (qU h t.bl);rw[zCr t.bl h,zIx hc.2]
end
end Go.Gh
namespace Go.Proofs.YtbidadebolllkaaGreatDoor
open Go.Gh Go.RowKit
noncomputable section
theorem yKj (c:Code):qY c=vQ c:=by
 induction c with
 |seq a b h1 h2=>unfold qY vQ;rw[h1,h2]
 |cond _ a b h1 h2=>unfold qY vQ;rw[h1,h2]
 |block _ c h=>unfold qY vQ;rw[h]
 |loop c h=>unfold qY vQ;rw[h]
 |scope c h=>unfold qY vQ;rw[h]
 |_=>rfl
theorem iA (d:Nat):vO d=sK Tryz.prog d:=by
 unfold vO sK;cases Tryz.prog.funcs[d]? with
 |none=>rfl
 |some fn =>
  simp only;cases fn.body with
  |none=>rfl
  |some c =>
   simp only;rw[yKj];rfl
def zXq (n A off m:Nat):List Blk:=[⟨wE (xJ n A off m λ_=>true),false⟩,⟨[zG A off m],false⟩,⟨[zG A (off+0+1) m],false⟩,⟨[zG A off m],false⟩,⟨[zG A (off+0+2) m],false⟩,⟨[zG A off m],false⟩,⟨[zG A (off+0+3) m],false⟩]
def cB (as0:List Value)(h:Hp):Ou (Value × Hp):=match as0 with
 |[.pointer (some ⟨A,off,some m⟩)]=>.one (.complex .f32 h.n 0,qU h (zXq h.n A off m))
 |_=>.err "sections"
theorem yPy {as0:List Value}{h:Hp}(hok:(cB as0 h).ok=true):xL Tryz.prog 65=true/\Run Tryz.prog 65 as0 (toL h) λv H'=>∃y,Mem y (cB as0 h)/\v=y.1/\H'=toL y.2:=by
 unfold cB at hok ⊢;split at hok
 ·rename_i A off m
  refine⟨by kernel_rfl,Run.mono yFf ?_⟩;rintro v H' ⟨rfl,rfl⟩;refine⟨_,.one,by rw[xW],?_⟩;rw[zCr,xW];rfl
 ·cases hok
def fB :OrcF:=λg=>bif Nat.beq g 195 then some zEf else bif Nat.beq g 347 then some zFt else bif Nat.beq g 326 then some zBq else bif Nat.beq g 288 then some zFf else bif Nat.beq g 87 then some zHf else none
theorem zRq :∀g x,fB g=some x->∀o f h as0,yF Tryz.prog o f h (.call g as0)->yF Tryz.prog o f h (x as0):=by
 intro g x hx o f h as0 hop;unfold fB at hx;cases h1:Nat.beq g 195 with
 |true=>rw[h1]at hx;cases hx;rw[yP.1 h1]at hop;exact yCu hop
 |false =>
  rw[h1,cond_false]at hx;cases h2:Nat.beq g 347 with
  |true=>rw[h2]at hx;cases hx;rw[yP.1 h2]at hop;exact yOl hop
  |false =>
   rw[h2,cond_false]at hx;cases h3:Nat.beq g 326 with
   |true=>rw[h3]at hx;cases hx;rw[yP.1 h3]at hop;exact yKt hop
   |false =>
    rw[h3,cond_false]at hx;cases h4:Nat.beq g 288 with
    |true=>rw[h4]at hx;cases hx;rw[yP.1 h4]at hop;exact yBd hop
    |false =>
     rw[h4,cond_false]at hx;cases h5:Nat.beq g 87 with
     |true=>rw[h5]at hx;cases hx;rw[yP.1 h5]at hop;exact yEm hop
     |false=>rw[h5]at hx;cases hx
def gM :Cfg:=⟨fB,λg=>bif Nat.beq g 65 then some cB else none,λg=>Nat.beq g 153 || Nat.beq g 77 || Nat.beq g 105,λg=>Nat.beq g 143 || Nat.beq g 78⟩
theorem dZ :mB Tryz.prog gM:=by
 refine⟨zRq,λg x hx as0 h hok=>?_⟩;unfold gM at hx;cases h1:Nat.beq g 65 with
 |true =>
  simp only[h1,cond_true,Option.some.injEq]at hx;subst hx;rw[yP.1 h1];exact yPy hok
 |false=>simp only[h1,cond_false]at hx;cases hx
end
end Go.Proofs.YtbidadebolllkaaGreatDoor
end
section
set_option maxRecDepth 4000
namespace Go.Proofs.YtbidadebolllkaaGreatDoor
open Go.Gh Go.RowKit
noncomputable section
def dQ :List Blk:=[⟨[S [97],I 17,I (-1),I 0,B false,I 0,I 0],false⟩,⟨[I 0,I 1,gsl 2 0 4 2 2],false⟩,⟨[I 2,S [49],I 5,S [48]],false⟩]
def bExp :List Blk:=[]
def zCn :List Blk:=[⟨[S [97],I 17,I (-1),I 0,B false,I 0,I 0],false⟩,⟨[I 0,I 1,gsl 6 0 2 1 2],false⟩,⟨[I 1,S [49]],false⟩]
def bRen :List Blk:=[⟨[S [98],I 17,I (-1),I 0,B false,I 0,I 0],false⟩,⟨[I 0,I 1,gsl 11 0 4 2 2],false⟩,⟨[I 2,S [49],I 5,S [48]],false⟩]
def bMer :List Blk:=[⟨[S [97],I 17,I (-1),I 0,B false,I 0,I 0,S [98],I 17,I (-1),I 1,B false,I 0,I 0],false⟩,⟨[I 0,I 1,gsl 15 0 4 2 2,I 0,I 1,gsl 16 0 4 2 2],false⟩,⟨[I 2,S [49],I 5,S [48]],false⟩,⟨[I 2,S [49],I 5,S [48]],false⟩]
def zGv :Ktr:=⟨10,[S [36,116,105,109,101,115,99,97,108,101,32,49,32,110,115,32,36,101,110,100,32,36,118,97,114,32,119,105,114,101,32,49,32,33,32,97,32,36,101,110,100,32,36,101,110,100,100,101,102,105,110,105,116,105,111,110,115,32,36,101,110,100,32,35,50,32,49,33,32,35,53,32,48,33]],[],[500,505,592],.tuple #[.agg #[I (-9),S [],S [],S [],.slice none 0 0,gsl 0 0 7 1 7,gsl 1 0 3 1 3,.slice none 0 0,I 5],.slice none 0 0,I 0,I 0],dQ⟩
def zFe :Ktr:=⟨11,[.agg #[I (-9),S [],S [],S [],.slice none 0 0,gsl 0 0 7 1 7,gsl 1 0 3 1 3,.slice none 0 0,I 5]],dQ++[⟨[I (-9),S [],S [],S [],.slice none 0 0,gsl 0 0 7 1 7,gsl 1 0 3 1 3,.slice none 0 0,I 5],⟨false,some 27⟩⟩],[],.tuple #[S [36,116,105,109,101,115,99,97,108,101,32,49,32,110,115,32,36,101,110,100,10,36,118,97,114,32,119,105,114,101,32,49,32,33,32,97,32,36,101,110,100,10,36,101,110,100,100,101,102,105,110,105,116,105,111,110,115,32,36,101,110,100,10,35,48,10,36,100,117,109,112,118,97,114,115,10,120,33,10,36,101,110,100,10,35,50,10,49,33,10,35,53,10,48,33,10],I 0],bExp⟩
def zCl :Ktr:=⟨7,[.agg #[I (-9),S [],S [],S [],.slice none 0 0,gsl 0 0 7 1 7,gsl 1 0 3 1 3,.slice none 0 0,I 5],I 1,I 4],dQ++[⟨[I (-9),S [],S [],S [],.slice none 0 0,gsl 0 0 7 1 7,gsl 1 0 3 1 3,.slice none 0 0,I 5],⟨false,some 27⟩⟩],[139,140,260],.tuple #[.agg #[I (-9),S [],S [],S [],.slice none 0 0,gsl 4 0 7 1 7,gsl 5 0 3 1 3,.slice none 0 0,I 3],I 0],zCn⟩
def zAg :Ktr:=⟨12,[.agg #[I (-9),S [],S [],S [],.slice none 0 0,gsl 0 0 7 1 7,gsl 1 0 3 1 3,.slice none 0 0,I 5],S [98],gsl 8 0 1 1 1],dQ++[⟨[I (-9),S [],S [],S [],.slice none 0 0,gsl 0 0 7 1 7,gsl 1 0 3 1 3,.slice none 0 0,I 5],⟨false,some 27⟩⟩]++zCn++[⟨[I (-9),S [],S [],S [],.slice none 0 0,gsl 4 0 7 1 7,gsl 5 0 3 1 3,.slice none 0 0,I 3],⟨false,some 27⟩⟩,⟨[S [97]],false⟩],[208,209,210],.tuple #[.agg #[I (-9),S [],S [],S [],.slice none 0 0,gsl 9 0 7 1 7,gsl 10 0 3 1 3,.slice none 0 0,I 5],I 0],bRen⟩
def zFi :Ktr:=⟨13,[.agg #[I (-9),S [],S [],S [],.slice none 0 0,gsl 0 0 7 1 7,gsl 1 0 3 1 3,.slice none 0 0,I 5],.agg #[I (-9),S [],S [],S [],.slice none 0 0,gsl 9 0 7 1 7,gsl 10 0 3 1 3,.slice none 0 0,I 5]],dQ++[⟨[I (-9),S [],S [],S [],.slice none 0 0,gsl 0 0 7 1 7,gsl 1 0 3 1 3,.slice none 0 0,I 5],⟨false,some 27⟩⟩]++zCn++[⟨[I (-9),S [],S [],S [],.slice none 0 0,gsl 4 0 7 1 7,gsl 5 0 3 1 3,.slice none 0 0,I 3],⟨false,some 27⟩⟩,⟨[S [97]],false⟩]++bRen++[⟨[I (-9),S [],S [],S [],.slice none 0 0,gsl 9 0 7 1 7,gsl 10 0 3 1 3,.slice none 0 0,I 5],⟨false,some 27⟩⟩],[619,627,760,805],.tuple #[.agg #[I (-9),S [],S [],S [],.slice none 0 0,gsl 13 0 14 2 7,gsl 14 0 6 2 3,.slice none 0 0,I 5],I 0],bMer⟩
end
end Go.Proofs.YtbidadebolllkaaGreatDoor
end
section
set_option maxRecDepth 4000
namespace Go.Proofs.YtbidadebolllkaaGreatDoor
open Go.Gh Go.RowKit
theorem yIk :oT Tryz.prog gM 3000 zGv=true:=by kernel_rfl
theorem yNz :oT Tryz.prog gM 3000 zFe=true:=by kernel_rfl
theorem yAl :oT Tryz.prog gM 3000 zCl=true:=by kernel_rfl
theorem yAs :oT Tryz.prog gM 3000 zAg=true:=by kernel_rfl
theorem zWg :oT Tryz.prog gM 3000 zFi=true:=by kernel_rfl
noncomputable section
def zEv :FuncId->Option (List Value->Hp->Ou (Value × Hp)):=λg=>bif Nat.beq g 10 then some (mV zGv)else bif Nat.beq g 11 then some (mV zFe)else bif Nat.beq g 7 then some (mV zCl)else bif Nat.beq g 12 then some (mV zAg)else bif Nat.beq g 13 then some (mV zFi)else none
def kD :Cfg:=⟨fB,zEv,λ_=>false,λ_=>false⟩
theorem yHr :mB Tryz.prog kD:=by
 refine⟨zRq,λg x hx as0 h hok=>?_⟩;have hx:zEv g=some x:=hx;unfold zEv at hx;cases h1:Nat.beq g 10 with
 |true=>rw[h1]at hx;cases hx;rw[yP.1 h1];exact kZ (t:=zGv) (by kernel_rfl) (kU iA dZ yIk) hok
 |false =>
  rw[h1,cond_false]at hx;cases h2:Nat.beq g 11 with
  |true=>rw[h2]at hx;cases hx;rw[yP.1 h2];exact kZ (t:=zFe) (by kernel_rfl) (kU iA dZ yNz) hok
  |false =>
   rw[h2,cond_false]at hx;cases h3:Nat.beq g 7 with
   |true=>rw[h3]at hx;cases hx;rw[yP.1 h3];exact kZ (t:=zCl) (by kernel_rfl) (kU iA dZ yAl) hok
   |false =>
    rw[h3,cond_false]at hx;cases h4:Nat.beq g 12 with
    |true=>rw[h4]at hx;cases hx;rw[yP.1 h4];exact kZ (t:=zAg) (by kernel_rfl) (kU iA dZ yAs) hok
    |false =>
     rw[h4,cond_false]at hx;cases h5:Nat.beq g 13 with
     |true=>rw[h5]at hx;cases hx;rw[yP.1 h5];exact kZ (t:=zFi) (by kernel_rfl) (kU iA dZ zWg) hok
     |false=>rw[h5]at hx;cases hx
def zLw :Ou (Value × Hp)->Bool
 |.one (.bool b,_)=>b
 |_=>false
theorem yEo :zLw (xH Tryz.prog kD (evN Tryz.prog kD 3000) 4 [] .none)=true:=by kernel_rfl
theorem zVw {P:Program}{f:FuncId}{xs:List Value}{v:Value}{h:SH}(hc:xs.all yB=true)(hv:yB v=true)(hr:Run P f xs [] λr _=>r=v):zH P f xs h λr q=>r=v/\q=h:=by
 unfold zH;intro H i;unfold Run at hr ⊢;intro B0 w0 φs Ls φ w vs he hrel hvs;have hl:=hrel.locked;have hr0:Rel w.heap.size w φ.bare ([]:zI) w:=⟨hl.below,hl.b0,λA g hA=>by simp at hA,λA g hA=>by simp at hA,λA A' g g' hA=>by simp at hA,hl.gw,hl.mks⟩;have hv0:yM φ.bare (lens ([]:zI)) xs vs:=⟨hvs.size,λj u hj=>by
  obtain⟨u',g1,g2⟩:=hvs.get j u hj;have hcu:=(List.all_eq_true.1 hc) u (List.mem_of_getElem? hj);have:=Val.det hcu g2;subst this;exact⟨u',g1,Val.const hcu⟩⟩
 refine(hr w.heap.size w φ.bare (lens ([]:zI)) φ.bare w vs (.refl _ _) hr0 hv0).mono ?_;rintro e w' ⟨φ',r,H',v',g1,g2,rfl,g4,rfl⟩;have:=Val.det hv g4;subst this;exact⟨φ,_,H,_,he,hrel.later g2.below,rfl,Val.const hv,h,⟨rfl,rfl⟩,i⟩
theorem kN (h:SH):zH Tryz.prog 4 [] h λr q=>r=B true/\q=h:=by
 refine zVw rfl rfl ?_;have hb:=yEo;cases hr:xH Tryz.prog kD (evN Tryz.prog kD 3000) 4 [] .none with
 |err s=>rw[hr]at hb;cases hb
 |two a b=>rw[hr]at hb;cases hb
 |one x =>
  rw[hr]at hb;obtain⟨v,h'⟩:=x;have hv:v=B true:=by
   unfold zLw at hb;split at hb
   ·rename_i b h'' e
    cases e;rw[hb]
   ·cases hb
  have:=zNx (P:=Tryz.prog) iA yHr (n:=3000) (g:=4) (as0:=[]) (h:=.none) (by rw[hr];rfl);rw[aA]at this;refine Run.mono this ?_;rintro r H' ⟨y,hy,rfl,rfl⟩;rw[hr]at hy;cases hy;exact hv
end
end Go.Proofs.YtbidadebolllkaaGreatDoor
end
section
set_option maxRecDepth 4000
namespace Go.Proofs.YtbidadebolllkaaGreatDoor
open Go.Gh Go.RowKit

def SuR (u:Trc)(h:SH)(r:Value)(q:SH):Prop:=∃v',r=.tuple #[v',I 0]/\TrH q u v'/\zA q h
def SuO (u:Trc)(A1 A2:Nat)(c1 c2:Blk)(h:SH)(r:Value)(q:SH):Prop:=∃a1 f1 a2 f2 a3 f3 a4 f4 h1 h2,r=.tuple #[.agg ⟨[I u.sc,S u.da,S u.ve,S u.co,.slice a1 u.ss.length f1,.slice a2 u.vs.length f2,.slice a3 u.gs.length f3,.slice a4 u.ga.length f4,I u.en]⟩,I 0] /\
 TrH q u (.agg ⟨[I u.sc,S u.da,S u.ve,S u.co,.slice a1 u.ss.length f1,.slice a2 u.vs.length f2,.slice a3 u.gs.length f3,.slice a4 u.ga.length f4,I u.en]⟩)/\Pick q A1 c1 h1/\Pick q A2 c2 h2/\zA q h
theorem SuR.op {u:Trc}{A1 A2 A:Nat}{c c1 c2:Blk}{h h1 h2 q:SH}{r:Value}(g:SuR u ((A,c)::h) r q)(p1:Pick ((A,c)::h) A1 c1 h1)(p2:Pick ((A,c)::h) A2 c2 h2):SuO u A1 A2 c1 c2 h r q:=by
 obtain⟨v',rfl,hT,hk⟩:=g;obtain⟨a1,f1,a2,f2,a3,f3,a4,f4,rfl⟩:=hT.sl;obtain⟨h3,p3,-⟩:=hk.pick p1;obtain⟨h4,p4,-⟩:=hk.pick p2;exact⟨a1,f1,a2,f2,a3,f3,a4,f4,h3,h4,rfl,hT,p3,p4,hk.trans (.drop .nil)⟩
theorem zZb (t:Trc)(v:Value)(f e s:Int)(h:SH)(hv:TrH h t v)(b:Bool)(hb:b=false\/t.sc<s)(hF:∀h,TrH h t v->zH Tryz.prog 5 [v,I 60] h λr q=>r=B b/\q=h) :
  zH Tryz.prog 3 [v,I f,I e,I s] h λr _=>r=B true:=by
 obtain⟨ad1,fl1,ad2,fl2,ad3,fl3,ad4,fl4,rfl⟩:=hv.sl;cases b with
 |false =>
  refine mT Tryz.func3 rfl rfl ?_
  repeat'(first|apply zE|apply zD|apply zC|refine jg ?_ ?_|(apply yS;exact rfl;exact rfl)|(apply jl;exact jI)|refine jx ?_|refine jq ?_ (c:=by exact⟨_,kN _,jN⟩)|(apply zZ;exact rfl;exact rfl;exact rfl;exact rfl;exact⟨_,hF _ (hv.re jD),zA.nil⟩;rintro _ _ ⟨rfl,rfl⟩)|refine jk ?_|(apply yO;exact rfl)|(apply zX;exact rfl)|apply zB|apply zV|apply zL|apply zJ|exact jS|exact jL|exact jU|exact True.intro|intro A|exact rfl)
  all_goals first|exact jX|exact jF (k:=by exact rfl)
 |true =>
  have hb2:t.sc<s:=hb.resolve_left λk=>Bool.noConfusion k;refine mT Tryz.func3 rfl rfl ?_
  repeat'(first|apply zE|apply zD|apply zC|refine jg ?_ ?_|(apply yS;exact rfl;exact rfl)|(apply jm;exact jI)|(apply jl;exact jI)|refine jx ?_|refine jq ?_ (c:=by exact⟨_,kN _,jN⟩)|(apply zZ;exact rfl;exact rfl;exact rfl;exact rfl;exact⟨_,hF _ (hv.re jD),zA.nil⟩;rintro _ _ ⟨rfl,rfl⟩)|refine jw ?_|(apply zX;exact rfl)|refine jd ?_|apply zB|apply zV|apply zL|apply zJ|exact jS|exact jL|exact jE|exact jU|exact True.intro|intro A|exact rfl)
  all_goals first|exact jX|exact jF (k:=by exact rfl)
theorem yCv (t u1 u2 u3:Trc)(v:Value)(f e s f' e':Int)(h:SH)(hv:TrH h t v)(hsc:¬t.sc<s)
  (hF:∀h,TrH h t v->zH Tryz.prog 5 [v,I 60] h λr q=>r=B true/\q=h)
  (hR1:∀h,TrH h t v->zH Tryz.prog 6 [v,I s] h (SuR u1 h))
  (hC1:∀h,TrH h t v->zH Tryz.prog 7 [v,I f,I e] h (SuR u2 h))
  (hN1:∀h,zH Tryz.prog 8 [I f,I t.sc,I s] h λr q=>r=.tuple #[I f',I 0]/\q=h)
  (hN2:∀h,zH Tryz.prog 8 [I e,I t.sc,I s] h λr q=>r=.tuple #[I e',I 0]/\q=h)
  (hC2:∀w h,TrH h u1 w->zH Tryz.prog 7 [w,I f',I e'] h (SuR u3 h))
  (hR2:∀w h,TrH h u2 w->zH Tryz.prog 6 [w,I s] h (SuR u3 h))
  (hE:∀w w' h,TrH h u3 w->TrH h u3 w'->zH Tryz.prog 9 [w,w'] h λr q=>r=B true/\q=h) :
  zH Tryz.prog 3 [v,I f,I e,I s] h λr _=>r=B true:=by
 obtain⟨ad1,fl1,ad2,fl2,ad3,fl3,ad4,fl4,rfl⟩:=hv.sl;have hR1':∀A c h,TrH ((A,c)::h) t _->zH _ _ _ ((A,c)::h) (SuO u1 A A c c h):=λA c h hv=>(hR1 _ hv).mono λr q g=>g.op .head .head;have hC1':∀A c A2 c2 h h2,Pick h A2 c2 h2->TrH ((A,c)::h) t _->zH _ _ _ ((A,c)::h) (SuO u2 A A2 c c2 h):=λA c A2 c2 h h2 hp hv=>(hC1 _ hv).mono λr q g=>g.op .head (.tail hp);have hC2':∀w A c A2 c2 h h2,Pick h A2 c2 h2->TrH ((A,c)::h) u1 w->zH _ _ _ ((A,c)::h) (SuO u3 A A2 c c2 h):=λw A c A2 c2 h h2 hp hv=>(hC2 w _ hv).mono λr q g=>g.op .head (.tail hp);have hR2':∀w A c A2 c2 h h2,Pick h A2 c2 h2->TrH ((A,c)::h) u2 w->zH _ _ _ ((A,c)::h) (SuO u3 A A2 c c2 h):=λw A c A2 c2 h h2 hp hv=>(hR2 w _ hv).mono λr q g=>g.op .head (.tail hp);unfold SuO at hR1' hC1' hC2' hR2';clear hR1 hC1 hC2 hR2;refine mT Tryz.func3 rfl rfl ?_
 repeat'((fail_if_success (show SWp _ _ (Code.seq (Code.region 5 _ _) _) _ _ _));(fail_if_success (show SWp _ _ (Code.region 5 _ _) _ _ _));first|apply zE|apply zD|apply zC|refine jg ?_ ?_|(apply yS;exact rfl;exact rfl)|(apply jm;exact jI)|(apply jl;exact jI)|refine jx ?_|(refine jc ?_ (c:=by exact⟨_,kN _,jN⟩);rintro _ _ ⟨rfl,rfl⟩)|(apply zZ;exact rfl;exact rfl;exact rfl;exact rfl;exact⟨_,hF _ (hv.re jD),zA.nil⟩;rintro _ _ ⟨rfl,rfl⟩)|refine jw ?_|(apply zX;exact rfl)|refine jf ?_|apply zB|apply zL|exact jS|exact jL|exact jE|exact jU|exact True.intro|intro A|exact rfl)
 all_goals try exact jX
 obtain⟨b4,rfl⟩:∃m,m=A:=⟨_,rfl⟩
 repeat'((fail_if_success (show SWp _ _ (Code.seq (Code.region 6 _ _) _) _ _ _));(fail_if_success (show SWp _ _ (Code.region 6 _ _) _ _ _));first|apply zE|apply zD|apply zC|refine jg ?_ ?_|(apply jl;exact jI)|(apply js;exact jJ)|refine jy ?_|(apply zZ;exact rfl;exact rfl;exact rfl;exact rfl;exact⟨_,hR1' _ _ _ (hv.re jD),zA.nil⟩;rintro _ _ ⟨a11,f11,a12,f12,a13,f13,a14,f14,k1,k1',rfl,hT1,hp4,-,ht1⟩)|apply zB|exact jS|exact jL|exact jP|exact jU|exact True.intro|intro A|exact rfl)
 all_goals try exact jX
 rename_i q1;obtain⟨b9,rfl⟩:∃m,m=A:=⟨_,rfl⟩
 repeat'((fail_if_success (show SWp _ _ (Code.seq (Code.region 7 _ _) _) _ _ _));(fail_if_success (show SWp _ _ (Code.region 7 _ _) _ _ _));first|apply zE|apply zD|apply zC|refine jg ?_ ?_|(apply jl;exact jI)|(apply js;exact jJ)|refine jy ?_|(apply zZ;exact rfl;exact rfl;exact rfl;exact rfl;exact⟨_,hC1' _ _ _ _ _ _ hp4 (hv.re (by repeat(first|exact ht1|with_reducible apply zA.drop))),zA.nil⟩;rintro _ _ ⟨a21,f21,a22,f22,a23,f23,a24,f24,k2,k2',rfl,hT2,hp9,hp4',ht2⟩)|apply zB|exact jS|exact jL|exact jP|exact jU|exact True.intro|intro A|exact rfl)
 all_goals try exact jX
 rename_i q2;obtain⟨b11,rfl⟩:∃m,m=A:=⟨_,rfl⟩
 repeat'((fail_if_success (show SWp _ _ (Code.seq (Code.region 12 _ _) _) _ _ _));(fail_if_success (show SWp _ _ (Code.region 12 _ _) _ _ _));first|apply zE|apply zD|apply zC|refine jg ?_ ?_|(apply jm;exact jI)|(apply jl;exact jI)|(apply js;exact jJ)|refine jy ?_|(refine jc ?_ (c:=by exact⟨_,hN1 _,jN⟩);rintro _ _ ⟨rfl,rfl⟩)|(refine jc ?_ (c:=by exact⟨_,hN2 _,jN⟩);rintro _ _ ⟨rfl,rfl⟩)|(apply zZ;exact rfl;exact rfl;exact rfl;exact rfl;exact⟨_,hC2' _ _ _ _ _ _ _ hp9 (hT1.re (by repeat(first|exact ht2|with_reducible apply zA.drop))),zA.nil⟩;rintro _ _ ⟨a31,f31,a32,f32,a33,f33,a34,f34,k3,k3',rfl,hT3,hp11,hp9',ht3⟩)|refine jw ?_|(apply zX;exact rfl)|apply zB|apply zL|exact jS|exact jL|exact jE|exact jP|exact jU|exact True.intro|intro A|exact rfl)
 all_goals try exact jX
 rename_i q3;obtain⟨b15,rfl⟩:∃m,m=A:=⟨_,rfl⟩
 repeat'(first|apply zE|apply zD|apply zC|refine jg ?_ ?_|(apply jl;exact jI)|(apply js;exact jJ)|refine jy ?_|(apply zZ;exact rfl;exact rfl;exact rfl;exact rfl;exact⟨_,hR2' _ _ _ _ _ _ _ hp11 (hT2.re (by repeat(first|exact ht3|with_reducible apply zA.drop))),zA.nil⟩;rintro _ _ ⟨a41,f41,a42,f42,a43,f43,a44,f44,k4,k4',rfl,hT4,hp15,hp11',ht4⟩)|(apply zZ;exact rfl;exact rfl;exact rfl;exact rfl;exact⟨_,hE _ _ _ (hT3.re (by repeat(first|exact ht4|with_reducible apply zA.drop))) (hT4.re jD),zA.nil⟩;rintro _ _ ⟨rfl,rfl⟩)|refine jw ?_|apply zB|apply zJ|exact jS|exact jL|exact jP|exact jU|exact True.intro|intro A|exact rfl)
 all_goals first|exact jX|(apply yA;(exact(show zO _ _ _ _ [_] from⟨rfl,trivial⟩));exact rfl;(focus repeat(first|with_reducible exact zA.nil|exact ht3|exact ht4|exact ht4.trans ht3|with_reducible apply zA.c|with_reducible apply zA.drop|with_reducible apply zA.pre|with_reducible apply zA.drops)))
theorem yKr (t u2:Trc)(v:Value)(f e s:Int)(h:SH)(hv:TrH h t v)(hsc:¬t.sc<s)
  (hF:∀h,TrH h t v->zH Tryz.prog 5 [v,I 60] h λr q=>r=B true/\q=h)
  (hR1:∀h,TrH h t v->zH Tryz.prog 6 [v,I s] h λr q=>∃er:Int,er≠0/\r=.tuple #[zTr,I er]/\q=h)
  (hC1:∀h,TrH h t v->zH Tryz.prog 7 [v,I f,I e] h λr q=>SuR u2 h r q\/∃er:Int,er≠0/\r=.tuple #[zTr,I er]/\q=h) :
  zH Tryz.prog 3 [v,I f,I e,I s] h λr _=>r=B true:=by
 obtain⟨ad1,fl1,ad2,fl2,ad3,fl3,ad4,fl4,rfl⟩:=hv.sl;have hC1':∀A c A2 c2 h h2,Pick h A2 c2 h2->TrH ((A,c)::h) t _->zH _ _ _ ((A,c)::h) λr q=>SuO u2 A A2 c c2 h r q\/∃er:Int,er≠0/\r=.tuple #[zTr,I er]/\q=(A,c)::h:=λA c A2 c2 h h2 hp hv=>(hC1 _ hv).mono λr q g=>g.imp (λg=>g.op .head (.tail hp)) id;unfold SuO at hC1';clear hC1;refine mT Tryz.func3 rfl rfl ?_
 repeat'((fail_if_success (show SWp _ _ (Code.seq (Code.region 5 _ _) _) _ _ _));(fail_if_success (show SWp _ _ (Code.region 5 _ _) _ _ _));first|apply zE|apply zD|apply zC|refine jg ?_ ?_|(apply yS;exact rfl;exact rfl)|(apply jm;exact jI)|(apply jl;exact jI)|refine jx ?_|refine jq ?_ (c:=by exact⟨_,kN _,jN⟩)|(apply zZ;exact rfl;exact rfl;exact rfl;exact rfl;exact⟨_,hF _ (hv.re jD),zA.nil⟩;rintro _ _ ⟨rfl,rfl⟩)|refine jw ?_|(apply zX;exact rfl)|refine jf ?_|apply zB|apply zL|exact jS|exact jL|exact jE|exact jU|exact True.intro|intro A|exact rfl)
 all_goals try exact jX
 obtain⟨b4,rfl⟩:∃m,m=A:=⟨_,rfl⟩
 repeat'(first|apply zE|apply zD|apply zC|refine jg ?_ ?_|(apply jl;exact jI)|(apply js;exact jJ)|refine jy ?_|(apply zZ;exact rfl;exact rfl;exact rfl;exact rfl;exact⟨_,hR1 _ (hv.re jD),zA.nil⟩;rintro _ _ ⟨er,he,rfl,rfl⟩)|(apply zZ;exact rfl;exact rfl;exact rfl;exact rfl;exact⟨_,hC1' _ _ _ _ _ _ .head (hv.re jD),zA.nil⟩;rintro _ _ (⟨a21,f21,a22,f22,a23,f23,a24,f24,k2,k2',rfl,hT2,hp9,hp4',ht2⟩|⟨er2,he2,rfl,rfl⟩))|refine jk ?_|(apply gO;(iterate 3 exact rfl);omega;exact rfl)|(apply yO;exact rfl)|apply zB|apply zV|apply zJ|exact jS|exact jL|exact jP|exact jU|exact True.intro|intro A|exact rfl)
 all_goals first|exact jX|exact jF (k:=by exact rfl)
theorem yGp (t u1:Trc)(v:Value)(f e s:Int)(h:SH)(hv:TrH h t v)(hsc:¬t.sc<s)
  (hF:∀h,TrH h t v->zH Tryz.prog 5 [v,I 60] h λr q=>r=B true/\q=h)
  (hR1:∀h,TrH h t v->zH Tryz.prog 6 [v,I s] h (SuR u1 h))
  (hC1:∀h,TrH h t v->zH Tryz.prog 7 [v,I f,I e] h λr q=>∃er:Int,er≠0/\r=.tuple #[zTr,I er]/\q=h) :
  zH Tryz.prog 3 [v,I f,I e,I s] h λr _=>r=B true:=by
 obtain⟨ad1,fl1,ad2,fl2,ad3,fl3,ad4,fl4,rfl⟩:=hv.sl;have hR1':∀A c h,TrH ((A,c)::h) t _->zH _ _ _ ((A,c)::h) (SuO u1 A A c c h):=λA c h hv=>(hR1 _ hv).mono λr q g=>g.op .head .head;unfold SuO at hR1';clear hR1;refine mT Tryz.func3 rfl rfl ?_
 repeat'((fail_if_success (show SWp _ _ (Code.seq (Code.region 5 _ _) _) _ _ _));(fail_if_success (show SWp _ _ (Code.region 5 _ _) _ _ _));first|apply zE|apply zD|apply zC|refine jg ?_ ?_|(apply yS;exact rfl;exact rfl)|(apply jm;exact jI)|(apply jl;exact jI)|refine jx ?_|(refine jc ?_ (c:=by exact⟨_,kN _,jN⟩);rintro _ _ ⟨rfl,rfl⟩)|(apply zZ;exact rfl;exact rfl;exact rfl;exact rfl;exact⟨_,hF _ (hv.re jD),zA.nil⟩;rintro _ _ ⟨rfl,rfl⟩)|refine jw ?_|(apply zX;exact rfl)|refine jf ?_|apply zB|apply zL|exact jS|exact jL|exact jE|exact jU|exact True.intro|intro A|exact rfl)
 all_goals try exact jX
 obtain⟨b4,rfl⟩:∃m,m=A:=⟨_,rfl⟩
 repeat'((fail_if_success (show SWp _ _ (Code.seq (Code.region 6 _ _) _) _ _ _));(fail_if_success (show SWp _ _ (Code.region 6 _ _) _ _ _));first|apply zE|apply zD|apply zC|refine jg ?_ ?_|(apply jl;exact jI)|(apply js;exact jJ)|refine jy ?_|(apply zZ;exact rfl;exact rfl;exact rfl;exact rfl;exact⟨_,hR1' _ _ _ (hv.re jD),zA.nil⟩;rintro _ _ ⟨a11,f11,a12,f12,a13,f13,a14,f14,k1,k1',rfl,hT1,hp4,-,ht1⟩)|apply zB|exact jS|exact jL|exact jP|exact jU|exact True.intro|intro A|exact rfl)
 all_goals try exact jX
 rename_i q1;obtain⟨b9,rfl⟩:∃m,m=A:=⟨_,rfl⟩
 repeat'(first|apply zE|apply zD|apply zC|refine jg ?_ ?_|(apply jl;exact jI)|(apply js;exact jJ)|refine jy ?_|(apply zZ;exact rfl;exact rfl;exact rfl;exact rfl;exact⟨_,hC1 _ (hv.re (by repeat(first|exact ht1|with_reducible apply zA.drop))),zA.nil⟩;rintro _ _ ⟨er,he,rfl,rfl⟩)|refine jw ?_|refine jd ?_|apply zB|apply zV|apply zJ|exact jS|exact jL|exact jP|exact jU|exact True.intro|intro A|exact rfl)
 all_goals first|exact jX|(apply yA;(exact(show zO _ _ _ _ [_] from⟨rfl,trivial⟩));exact rfl;(focus repeat(first|with_reducible exact zA.nil|exact ht1|with_reducible apply zA.c|with_reducible apply zA.drop|with_reducible apply zA.pre|with_reducible apply zA.drops)))

theorem yLj {m:Int}{l:List Sgc}:∀{n:Int},0<=n->mP m n l=true->∀g∈l,(g.2.2.length:Int)<=m/\∀c∈g.2.2,c.2.length<=200:=by
 induction l with
 |nil=>intro n _ _ g h;cases h
 |cons x r ih =>
  intro n hn h g hg;unfold mP at h;rw[Bool.and_eq_true,Bool.and_eq_true,decide_eq_true_eq]at h;obtain⟨h1,h2,h3⟩:=h;rcases List.mem_cons.1 hg with rfl|hg
  ·unfold iZ at h2
   rw[Bool.and_eq_true,List.all_eq_true]at h2;exact⟨by omega,λc hc=>of_decide_eq_true (h2.1 c hc)⟩
  ·exact ih (by omega) h3 g hg
theorem yLk {t:Trc}(h:lA t 60=true):Sm t/\∀g∈t.gs,g.2.2.length<=60:=by
 unfold lA dB at h;rw[Bool.and_eq_true,Bool.and_eq_true,Bool.and_eq_true,Bool.and_eq_true,Bool.and_eq_true,List.all_eq_true,List.all_eq_true,decide_eq_true_eq,decide_eq_true_eq,decide_eq_true_eq]at h;obtain⟨⟨h1,h2,h3,h4⟩,⟨h5,h6,h7⟩,h8⟩:=h;have hg:=yLj (Int.le_refl 0) h8;refine⟨⟨by omega,by omega,by omega,by omega,by omega,by omega,by omega,λc hc=>?_,λc hc=>?_,λg hx=>?_⟩,λg hx=>?_⟩
 ·have:=of_decide_eq_true (h1 c hc);omega
 ·have:=of_decide_eq_true (h2 c hc);omega
 ·obtain⟨k1,k2⟩:=hg g hx
  exact⟨by omega,λc hc=>by have:=k2 c hc;omega⟩
 ·have:=(hg g hx).1;omega
theorem Sm.fine {t:Trc}{p sc:Int}(h:Sm t):Sm (fnT p sc t):=by
 refine⟨h.da,h.ve,h.co,h.ss,h.vs,by show(t.gs.map _).length<=100;rw[List.length_map];exact h.gs,by show(t.ga.map _).length<=100;rw[List.length_map];exact h.ga,h.sn,h.vn,λg hg=>?_⟩;obtain⟨x,hx,rfl⟩:=List.mem_map.1 hg;obtain⟨k1,k2⟩:=h.cs x hx;refine⟨by show(List.map _ _).length<=1000;rw[List.length_map];exact k1,λc hc=>?_⟩;obtain⟨y,hy,rfl⟩:=List.mem_map.1 hc;exact k2 y hy
theorem Sm.cut {t:Trc}{f e:Int}(h:Sm t)(hL:VL t)(hf:0<=f)(h60:∀g∈t.gs,g.2.2.length<=60):Sm (vV f e t)/\∀g∈(vV f e t).gs,g.2.2.length<=61:=by
 have hl:∀g∈(vV f e t).gs,g.2.2.length<=61:=λg hg=>by
  obtain⟨x,hx,rfl⟩:=List.mem_map.1 hg;have:=h60 x hx;have:=@zWf x.1 x.2.1 f e x.2.2;show(wT x.1 x.2.1 f e x.2.2).length<=61;omega
 refine⟨⟨h.da,h.ve,h.co,h.ss,h.vs,by show(t.gs.map _).length<=100;rw[List.length_map];exact h.gs,Nat.le_trans (zHi hL.gp.ch) h.ga,h.sn,h.vn,λg hg=>⟨by have:=hl g hg;omega,λc hc=>?_⟩⟩,hl⟩;obtain⟨x,hx,rfl⟩:=List.mem_map.1 hg;obtain⟨d,hd,k⟩:=zQx hf (hL.nf x hx) c hc;rw[k];exact(h.cs x hx).2 d hd
theorem zXo (t:Trc)(v:Value)(f e s:Int)(h:SH)(hv:TrH h t v)(hfit:Fit t):zH Tryz.prog 3 [v,I f,I e,I s] h λr _=>r=B true:=by
 have hF:=λh hv=>yCd t 60 v h hv hfit ⟨by decide,by decide⟩;by_cases hb:lA t 60=false\/t.sc<s
 ·exact zZb t v f e s h hv _ hb hF
 have hb1:lA t 60=true:=Bool.not_eq_false _ |>.mp λk=>hb (.inl k)
 have hsc:¬t.sc<s:=λk=>hb (.inr k);rw[hb1]at hF;obtain⟨hs,h60⟩:=yLk hb1;obtain⟨k,hk⟩:∃k:Nat,t.sc=s+k:=⟨(t.sc-s).toNat,by omega⟩;have hR:=λh hv=>zOw t v s k h hv hs hk;have hC:=λh hv=>zLc t v f e h hv hs;unfold ReR at hR;unfold CtR at hC;by_cases g1:vT t=true/\(-15<=s/\s<=2)/\t.en*yL k<=1099511627776
 ·have hR1:∀h,TrH h t v->zH Tryz.prog 6 [v,I s] h (SuR (fnT (yL k) s t) h):=λh hv=>(hR h hv).mono λr q x=>(x.resolve_right λy=>y.1 g1).2
  by_cases g2:vT t=true/\0<=f/\f<=e/\e<=t.en
  ·have hC1:∀h,TrH h t v->zH Tryz.prog 7 [v,I f,I e] h (SuR (vV f e t) h):=λh hv=>(hC h hv).mono λr q x=>(x.resolve_right λy=>y.1 g2).2
   clear hR hC;obtain⟨hvl,hsr,hen⟩:=g1;obtain⟨-,c1,c2,c3⟩:=g2;have hL:=zCo hs (kX.1 hvl);have hp:=gG k;have hscb:-15<=t.sc/\t.sc<=2:=by
    have:=hL.tx;unfold txO at this;rw[Bool.and_eq_true]at this;exact of_decide_eq_true this.1
   have hkb:-15<=s/\s+k<=2:=by omega
   have hben:=hL.gp.bd;have m1:=Int.mul_le_mul_of_nonneg_right c3 (show 0<=yL k by omega);have m2:=Int.mul_le_mul_of_nonneg_right c2 (show 0<=yL k by omega);have m3:=Int.mul_nonneg c1 (show 0<=yL k by omega);have hN:∀n,0<=n->n<=t.en->∀h,zH Tryz.prog 8 [I n,I t.sc,I s] h λr q=>r=.tuple #[I (n*yL k),I 0]/\q=h:=λn hn hn2 h=>by
    have hm:=Int.mul_le_mul_of_nonneg_right hn2 (show 0<=yL k by omega);rw[hk];have:=zUe n s k h hkb ⟨hn,by omega⟩;rw[if_neg (by omega)]at this;exact this
   have hLf:=hL.fine (sc:=s) hp hsr hen;have hLc:=hL.cut c1 c2 c3;have hsf:=hs.fine (p:=yL k) (sc:=s);obtain⟨hsc2,h61⟩:=hs.cut (e:=e) hL c1 h60;have hfv:vT (fnT (yL k) s t)=true:=kX.2 (zIw hLf λg hg=>by
    obtain⟨x,hx,rfl⟩:=List.mem_map.1 hg;show(List.map _ _).length<=61;rw[List.length_map];have:=h60 x hx;omega)
   have hcv:vT (vV f e t)=true:=kX.2 (zIw hLc h61);have hcf:=yPx (sc:=s) hL hp c2 c3 hen;have hC2:∀w h,TrH h (fnT (yL k) s t) w->zH Tryz.prog 7 [w,I (f*yL k),I (e*yL k)] h (SuR (fnT (yL k) s (vV f e t)) h):=λw h hw =>
    (zLc _ w (f*yL k) (e*yL k) h hw hsf).mono λr q x=>by
     have:=(x.resolve_right λy=>y.1 ⟨hfv,m3,m2,m1⟩).2;rw[hcf]at this;exact this
   have hR2:∀w h,TrH h (vV f e t) w->zH Tryz.prog 6 [w,I s] h (SuR (fnT (yL k) s (vV f e t)) h):=λw h hw =>
    (zOw _ w s k h hw hsc2 hk).mono λr q x=>(x.resolve_right λy=>y.1 ⟨hcv,hsr,by
     show(e-f)*yL k<=_;rw[Int.sub_mul];omega⟩).2
   have hsz:=hsc2.fine (p:=yL k) (sc:=s);have hsz2:Sz2 (fnT (yL k) s (vV f e t)):=⟨by have:=hsz.vs;omega,by have:=hsz.gs;omega,by have:=hsz.ga;omega,λg hg=>by have:=(hsz.cs g hg).1;omega⟩;have hE:∀w w' h,TrH h (fnT (yL k) s (vV f e t)) w->TrH h (fnT (yL k) s (vV f e t)) w'->zH Tryz.prog 9 [w,w'] h λr q=>r=B true/\q=h:=λw w' h h1 h2=>by
    have:=zTy _ _ w w' h h1 h2 hsz2 hsz2 (by have:=hsz.ss;omega);rw[zHc.2 rfl]at this;exact this
   exact yCv t _ _ _ v f e s _ _ h hv hsc hF hR1 hC1 (hN f c1 (by omega)) (hN e (by omega) c3) hC2 hR2 hE
  ·exact yGp t _ v f e s h hv hsc hF hR1 λh hv=>(hC h hv).mono λr q x=>(x.resolve_left λy=>g2 y.1).2
 ·exact yKr t (vV f e t) v f e s h hv hsc hF (λh hv=>(hR h hv).mono λr q x=>(x.resolve_left λy=>g1 y.1).2) λh hv=>(hC h hv).mono λr q x=>x.imp (λy=>y.2) (λy=>y.2)
end Go.Proofs.YtbidadebolllkaaGreatDoor
end
section
set_option maxRecDepth 4000
namespace Go.Gh
open Go.RowKit Go.ChangeShapes Go.WideShapes

structure CB (W:World)(e:Loc × Blk):Prop where
 ro:e.2.ro=true
 mp:e.1.mp=false
 ex:∃c T fz,W.heap[e.1.b]?=some (.cells c T fz)/\c.size=e.1.size/\e.1.base+e.2.cells.length<=c.size/\∀i v,e.2.cells[i]?=some v->c[e.1.base+i]?=some v/\yB v=true
structure Arg (W:World)(v:Value)(es:List (Loc × Blk))(g:Nat->Value):Prop where
 cb:∀e∈es,CB W e
 val:∀(φ:Fi) (L:zP) (k:Nat),(∀(j:Nat) e,es[j]?=some e->φ (k+j)=e.1/\L (k+j)=some e.2.cells.length)->Val φ L (g k) v
inductive oM (W:World):Nat->List Value->List (Loc × Blk)->List Value->Prop
 |nil {k}:oM W k [] [] []
 |cons {k v vs es es' g as0} (h:Arg W v es g) (r:oM W (k+es.length) vs es' as0):oM W k (v::vs) (es++es') (g k::as0)
def num :Nat->List Blk->SH
 |_,[]=>[]
 |k,b::r=>(k,b)::num (k+1) r
theorem zVo :∀{l:List Blk} {k j:Nat} {b:Blk},l[j]?=some b->∃h1,Pick (num k l) (k+j) b h1
 |[],k,j,b,h=>by simp at h
 |x::r,k,0,b,h=>by simp only[List.getElem?_cons_zero,Option.some.injEq]at h;subst h;exact⟨_,.head⟩
 |x::r,k,j+1,b,h=>by
  obtain⟨h1,p⟩:=zVo (k:=k+1) (l:=r) (j:=j) (by simpa using h);exact⟨_,.tail (by rw[show k+(j+1)=k+1+j by omega];exact p)⟩
theorem zCz :∀{l:List Blk} {k:Nat} {x:Nat × Blk},x∈num k l->k<=x.1/\l[x.1-k]?=some x.2
 |[],k,x,h=>by cases h
 |b::r,k,x,h=>by
  rcases List.mem_cons.1 h with rfl|h
  ·simp
  ·obtain⟨h1,h2⟩:=zCz h
   refine⟨by omega,?_⟩;rw[show x.1-k=(x.1-(k+1))+1 by omega];simpa using h2
theorem zQe :∀(l:List Blk) (k:Nat),((num k l).map (·.1)).Nodup
 |[],_=>List.nodup_nil
 |b::r,k=>by
  simp only[num,List.map_cons,List.nodup_cons];refine⟨λhm=>?_,zQe r (k+1)⟩;obtain⟨x,hx,e⟩:=List.mem_map.1 hm;have:=(zCz hx).1;omega
theorem oM.cb {W:World}{k:Nat}{vs:List Value}{es:List (Loc × Blk)}{as0:List Value}(h:oM W k vs es as0):∀e∈es,CB W e:=by
 induction h with
 |nil=>intro e he;cases he
 |cons h _ ih =>
  intro e he;rcases List.mem_append.1 he with he|he
  ·exact h.cb e he
  ·exact ih e he
theorem oM.rel {W:World}{k:Nat}{vs:List Value}{es:List (Loc × Blk)}{as0:List Value}(h:oM W k vs es as0)(φ:Fi)(L:zP)
  (hφ:∀(j:Nat) e,es[j]?=some e->φ (k+j)=e.1/\L (k+j)=some e.2.cells.length):vs.length=as0.length/\∀(i:Nat) a,as0[i]?=some a->∃v,vs[i]?=some v/\Val φ L a v:=by
 induction h with
 |nil=>exact⟨rfl,λi a h=>by simp at h⟩
 |@cons k v vs es es' g as0 h _ ih =>
  have h1:=h.val φ L k λj e he=>hφ j e (by rw[List.getElem?_append_left (List.getElem?_eq_some_iff.1 he).1];exact he);obtain⟨h2,h3⟩:=ih λj e he=>by
   have:=hφ (es.length+j) e (by rw[List.getElem?_append_right (by omega),show es.length+j-es.length=j by omega];exact he);rwa [show k+(es.length+j)=k+es.length+j by omega]at this
  refine⟨by simp[h2],λi a hi=>?_⟩;cases i with
  |zero=>simp only[List.getElem?_cons_zero,Option.some.injEq]at hi;subst hi;exact⟨v,rfl,h1⟩
  |succ i=>obtain⟨u,g1,g2⟩:=h3 i a (by simpa using hi);exact⟨u,by simpa using g1,g2⟩

structure Elem {H:Type}(enc:TypeId × Value->H)(P:Program)(e:TypeId){α:Type}(f:α->List Value)(w:Nat)(ok:α->Prop):Prop where
 cells:P.cellsOf e=w
 pos:0<w
 len:∀y,(f y).length=w
 cst:∀y,∀v∈f y,yB v=true
 rd:∀{W:World} {base:Nat} {sp:Nat->Bool} {held:Bool} {n:Nat} {cs:List Value} {x:DataW H × List MemPlace},DataW.trod enc P W base sp held n e cs=some x->∃y,cs=f y/\ok y

section
variable {H:Type} {enc:TypeId × Value->H} {P:Program} {W:World} {α:Type} {f:α->List Value} {w:Nat} {ok:α->Prop}
theorem zLu {a:Addr}{v:Value}(h:W.cell? a=some v):a.spot=none/\∃c T fz,W.heap[a.block]?=some (.cells c T fz)/\c[a.off]?=some v:=by
 unfold World.cell? at h;split at h
 ·rename_i c T fz hc
  split at h
  ·cases h
  ·rename_i hs
   exact⟨by cases hsp:a.spot <;> simp_all,c,T,fz,hc,h⟩
 ·cases h
structure dG {H:Type}(enc:TypeId × Value->H)(P:Program)(fs:List Field)(o:Nat){α:Type}(f:α->List Value)(w:Nat)(ok:α->Prop):Prop where
 len:∀y,(f y).length=w
 cst:∀y,∀v∈f y,yB v=true
 rd:∀{W:World} {base:Nat} {sp:Nat->Bool} {held:Bool} {n:Nat} {cs:List Value},cs.length=o+w->(∀fl∈fs,∃x,DataW.trod enc P W base sp held n fl.type ((cs.drop fl.offset).take (P.cellsOf fl.type))=some x)->∃y,cs.drop o=f y/\ok y
theorem dG.last {fl:Field}{o:Nat}(ho:fl.offset=o)(E:Elem enc P fl.type f w ok):dG enc P [fl] o f w ok :=
 ⟨E.len,E.cst,λ{W base sp held n cs} hl h=>by
  obtain⟨x,hx⟩:=h fl (by simp);rw[ho,E.cells,List.take_of_length_le (by rw[List.length_drop];omega)]at hx;exact E.rd hx⟩
theorem dG.cons {β:Type}{g:β->List Value}{w2:Nat}{ok2:β->Prop}{fl:Field}{fs:List Field}{o:Nat}(ho:fl.offset=o)(E:Elem enc P fl.type f w ok)(r:dG enc P fs (o+w) g w2 ok2) :
  dG enc P (fl::fs) o (λy:α × β=>f y.1++g y.2) (w+w2) (λy=>ok y.1/\ok2 y.2) :=
 ⟨λy=>by rw[List.length_append,E.len,r.len],λy v hv=>by
  rcases List.mem_append.1 hv with hv|hv
  ·exact E.cst _ _ hv
  ·exact r.cst _ _ hv,λ{W base sp held n cs} hl h=>by
  obtain⟨x,hx⟩:=h fl (by simp);rw[ho,E.cells]at hx;obtain⟨y1,h1,k1⟩:=E.rd hx;obtain⟨y2,h2,k2⟩:=r.rd (by omega) (λz hz=>h z (by simp[hz]));refine⟨(y1,y2),?_,k1,k2⟩;dsimp only;rw[<-h1,<-h2,<-List.drop_drop,List.take_append_drop]⟩
end

def VA (es:List (Loc × Blk))(g v:Value):Prop:=∀(φ:Fi) (L:zP),(∀(j:Nat) e,es[j]?=some e->φ j=e.1/\L j=some e.2.cells.length)->Val φ L g v
structure CC (W:World)(es:List (Loc × Blk))(e:Loc × Blk):Prop where
 ro:e.2.ro=true
 mp:e.1.mp=false
 ex:∃c T fz,W.heap[e.1.b]?=some (.cells c T fz)/\c.size=e.1.size/\e.1.base+e.2.cells.length<=c.size/\∀i g,e.2.cells[i]?=some g->∃v,c[e.1.base+i]?=some v/\VA es g v
def HE (es:List (Loc × Blk))(c:List Value)(w n:Nat)(g:Value):Prop:=∀h:SH,(∀(j:Nat) b,es[j]?=some b->∃h1,Pick h j b.2 h1)->Has h c w n g
theorem zRz {es es':List (Loc × Blk)}{j:Nat}{e:Loc × Blk}(h:es[j]?=some e):(es++es')[j]?=some e:=by
 rw[List.getElem?_append_left (List.getElem?_eq_some_iff.1 h).1];exact h
theorem VA.mono {es es':List (Loc × Blk)}{g v:Value}(h:VA es g v):VA (es++es') g v:=λφ L k=>h φ L λj e he=>k j e (zRz he)
theorem CC.mono {W:World}{es es':List (Loc × Blk)}{e:Loc × Blk}(h:CC W es e):CC W (es++es') e:=by
 obtain⟨c,T,fz,g1,g2,g3,g4⟩:=h.ex;exact⟨h.ro,h.mp,c,T,fz,g1,g2,g3,λi g hi=>by obtain⟨v,k1,k2⟩:=g4 i g hi;exact⟨v,k1,k2.mono⟩⟩
theorem HE.mono {es es':List (Loc × Blk)}{c:List Value}{w n:Nat}{g:Value}(k:HE es c w n g):HE (es++es') c w n g:=λh p=>k h λj b hb=>p j b (zRz hb)

theorem yFd {P:Program}{f:FuncId}{W:World}{vs:List Value}{es:List (Loc × Blk)}{as0:List Value}(hcb:∀e∈es,CC W es e)(hl:vs.length=as0.length)(hv:∀(i:Nat) a,as0[i]?=some a->∃v,vs[i]?=some v/\VA es a v)
  (h:zH P f as0 (num 0 (es.map (·.2))) λr _=>r=B true) (hg:GW W.heap.size W:=by exact GW.any _ _) :
  Calls P f vs.toArray W λe W'=>e=.returned (.bool true)/\Below W.heap.size W W':=by
 unfold zH at h;have h1:=h (es.map λe=>some e.2) (.start (λx hx=>(by have:=(zCz hx).2;simpa using this)) (zQe _ _));unfold Run at h1;have hφ:∀(j:Nat) e,es[j]?=some e->(⟨λA=>((es[A]?).map (·.1)).getD ⟨0,0,0,false⟩,[]⟩:Fi) j=e.1/\(lens (es.map λe=>some e.2)) j=some e.2.cells.length:=λj e he=>by
  simp only[he,Option.map_some,Option.getD_some,lens,List.getElem?_map,Option.join_some,and_self]
 have get:∀(A:Nat) (g:Blk),(es.map λe=>some e.2)[A]?=some (some g)->∃e:Loc × Blk,es[A]?=some e/\e.2=g:=λA g hA=>by
  rw[List.getElem?_map]at hA;cases he:es[A]? with
  |none=>rw[he]at hA;cases hA
  |some e=>rw[he]at hA;simp only[Option.map_some,Option.some.injEq]at hA;exact⟨e,rfl,hA⟩
 have hro:∀(A:Nat) (g:Blk),(es.map λe=>some e.2)[A]?=some (some g)->g.ro=true:=λA g hA=>by
  obtain⟨e,h1,rfl⟩:=get A g hA;exact(hcb e (List.mem_of_getElem? h1)).ro
 have h2:=h1 W.heap.size W ⟨λA=>((es[A]?).map (·.1)).getD ⟨0,0,0,false⟩,[]⟩ (lens (es.map λe=>some e.2)) ⟨λA=>((es[A]?).map (·.1)).getD ⟨0,0,0,false⟩,[]⟩ W vs.toArray (.refl _ _)
  ⟨Below.refl _ _,Nat.le_refl _,λA g hA=>by
    obtain⟨e,h1,rfl⟩:=get A g hA;have hc:=hcb e (List.mem_of_getElem? h1);obtain⟨c,T,fz,g1,g2,g3,g4⟩:=hc.ex;refine⟨⟨.cells c T fz,c,?_,.cells ?_ ?_ (λhr=>?_) (λt ht=>by rw[hc.ro]at ht;cases ht),?_,λi v hi=>?_⟩⟩
    ·simp only[h1,Option.map_some,Option.getD_some];exact g1
    ·simp only[h1,Option.map_some,Option.getD_some];exact hc.mp
    ·simp only[h1,Option.map_some,Option.getD_some];exact g2
    ·rw[hc.ro]at hr;cases hr
    ·simp only[h1,Option.map_some,Option.getD_some];exact g3
    ·simp only[h1,Option.map_some,Option.getD_some]
     obtain⟨u,k1,k2⟩:=g4 i v hi;exact⟨u,k1,k2 _ _ hφ⟩,
   λA g hA hr=>(by rw[hro A g hA]at hr;cases hr),λA A' g _ hA hr=>(by rw[hro A g hA]at hr;cases hr),hg,λD hD=>(by cases hD)⟩
  ⟨by simp[hl],λi a hi=>by obtain⟨v,g1,g2⟩:=hv i a hi;exact⟨v,by simpa using g1,g2 _ _ hφ⟩⟩
 refine h2.mono ?_;rintro e W' ⟨φ',r,H',v,g1,g2,rfl,g4,q,rfl,g5⟩;cases g4;exact⟨rfl,g2.below⟩

section
variable {H:Type} {enc:TypeId × Value->H} {P:Program} {W:World} {base:Nat} {held:Bool} {α β:Type} {f:α->List Value} {w:Nat}
structure ElN (enc:TypeId × Value->H)(P:Program)(W:World)(base:Nat)(held:Bool)(e:TypeId)(f:α->List Value)(w:Nat)(ok:List (Loc × Blk)->α->Prop):Prop where
 cells:P.cellsOf e=w
 pos:0<w
 len:∀y,(f y).length=w
 mono:∀es es' y,ok es y->ok (es++es') y
 rd:∀{n:Nat} {cs:List Value} {x:DataW H × List MemPlace},DataW.trod enc P W base (λ_=>true) held n e cs=some x->(∀m∈x.1.weights P e,m<=reachBytes)->∀es,∃es' y,(∀b∈es',CC W (es++es') b)/\(∀(j:Nat) u,cs[j]?=some u->∃g,(f y)[j]?=some g/\VA (es++es') g u)/\ok (es++es') y
structure ElW (enc:TypeId × Value->H)(P:Program)(e:TypeId)(f:α->List Value)(w:Nat)(ok:α->Prop):Prop where
 cells:P.cellsOf e=w
 len:∀y,(f y).length=w
 cst:∀y,∀v∈f y,yB v=true
 rd:∀{W:World} {base:Nat} {sp:Nat->Bool} {held:Bool} {n:Nat} {cs:List Value} {x:DataW H × List MemPlace},DataW.trod enc P W base sp held n e cs=some x->(∀m∈x.1.weights P e,m<=reachBytes)->∃y,cs=f y/\ok y
theorem yEf {e:TypeId}{k:IntKind}(he:P.underlying e=some (.int k))(hc:P.cellsOf e=1):ElW enc P e (λz:Int=>[.int k z]) 1 (λ_=>True) :=
 ⟨hc,λ_=>rfl,λy v hv=>by obtain rfl:=List.mem_singleton.1 hv;rfl,λh _=>let ⟨n,h1,_,_⟩:=DataW.trod_int he h;⟨n,h1,trivial⟩⟩
theorem zYl {e:TypeId}(he:P.underlying e=some .bool)(hc:P.cellsOf e=1):ElW enc P e (λz:Bool=>[.bool z]) 1 (λ_=>True) :=
 ⟨hc,λ_=>rfl,λy v hv=>by obtain rfl:=List.mem_singleton.1 hv;rfl,λh _=>let ⟨n,h1,_⟩:=DataW.trod_bool he h;⟨n,h1,trivial⟩⟩
theorem yMw {e:TypeId}(he:P.underlying e=some .string)(hc:P.cellsOf e=1):ElW enc P e (λl:List UInt8=>[S l]) 1 (λl=>l.length<=140737488351232) :=
 ⟨hc,λ_=>rfl,λy v hv=>by obtain rfl:=List.mem_singleton.1 hv;rfl,λh hw=>by
  obtain⟨s,h1,rfl,_⟩:=DataW.trod_string he h;obtain⟨l,rfl⟩:=yNl s;exact⟨l,h1,hw l.length (by simp[DataW.weights])⟩⟩
structure FW (enc:TypeId × Value->H)(P:Program)(fs:List Field)(o:Nat)(f:α->List Value)(w:Nat)(ok:α->Prop):Prop where
 len:∀y,(f y).length=w
 cst:∀y,∀v∈f y,yB v=true
 rd:∀{W:World} {base:Nat} {sp:Nat->Bool} {held:Bool} {n:Nat} {cs:List Value},cs.length=o+w->(∀fl∈fs,∃x,DataW.trod enc P W base sp held n fl.type ((cs.drop fl.offset).take (P.cellsOf fl.type))=some x/\∀m∈x.1.weights P fl.type,m<=reachBytes)->∃y,cs.drop o=f y/\ok y
variable {ok:α->Prop}
theorem FW.last {fl:Field}{o:Nat}(ho:fl.offset=o)(E:ElW enc P fl.type f w ok):FW enc P [fl] o f w ok :=
 ⟨E.len,E.cst,λ{W base sp held n cs} hl h=>by
  obtain⟨x,hx,hw⟩:=h fl (by simp);rw[ho,E.cells,List.take_of_length_le (by rw[List.length_drop];omega)]at hx;exact E.rd hx hw⟩
theorem FW.cons {g:β->List Value}{w2:Nat}{ok2:β->Prop}{fl:Field}{fs:List Field}{o:Nat}(ho:fl.offset=o)(E:ElW enc P fl.type f w ok)(r:FW enc P fs (o+w) g w2 ok2) :
  FW enc P (fl::fs) o (λy:α × β=>f y.1++g y.2) (w+w2) (λy=>ok y.1/\ok2 y.2) :=
 ⟨λy=>by rw[List.length_append,E.len,r.len],λy v hv=>by
  rcases List.mem_append.1 hv with hv|hv
  ·exact E.cst _ _ hv
  ·exact r.cst _ _ hv,λ{W base sp held n cs} hl h=>by
  obtain⟨x,hx,hw⟩:=h fl (by simp);rw[ho,E.cells]at hx;obtain⟨y1,h1,k1⟩:=E.rd hx hw;obtain⟨y2,h2,k2⟩:=r.rd (by omega) (λz hz=>h z (by simp[hz]));refine⟨(y1,y2),?_,k1,k2⟩;dsimp only;rw[<-h1,<-h2,<-List.drop_drop,List.take_append_drop]⟩
theorem zDd {e:TypeId}{fs:Array Field}{W:World}{sp:Nat->Bool}{n:Nat}{cs:List Value}{x:DataW H × List MemPlace}(he:P.underlying e=some (.struct fs))(h:DataW.trod enc P W base sp held n e cs=some x)(hw:∀m∈x.1.weights P e,m<=reachBytes) :
  cs.length=P.cellsOf e/\∃k,∀(i:Nat) (fl:Field),fs[i]?=some fl->∃y,DataW.trod enc P W base sp held k fl.type ((cs.drop fl.offset).take (P.cellsOf fl.type))=some y/\∀m∈y.1.weights P fl.type,m<=reachBytes:=by
 obtain⟨xs,k,_,rfl,hl,hxs,hf⟩:=DataW.trod_struct he h;refine⟨hl,k,λi fl hfl=>?_⟩;have hlt:i<xs.length:=by rw[hxs];exact(Array.getElem?_eq_some_iff.1 hfl).1
 refine⟨xs[i],(hf i fl hfl).trans (List.getElem?_eq_getElem hlt),λm hm=>hw m ?_⟩;simp only[DataW.weights,he];exact DataW.weights_mem_each (j:=i) (t:=fl.type) (d:=xs[i].1) (by simp[hfl]) (by simp[hlt]) m hm
theorem cW {e:TypeId}{fs:List Field}(he:P.underlying e=some (.struct fs.toArray))(hc:P.cellsOf e=w)(F:FW enc P fs 0 f w ok):ElW enc P e f w ok :=
 ⟨hc,F.len,F.cst,λ{W base sp held n cs x} h hw=>by
  obtain⟨hl,k,hf⟩:=zDd he h hw;have:=F.rd (W:=W) (base:=base) (sp:=sp) (held:=held) (n:=k) (cs:=cs) (by rw[Nat.zero_add,hl,hc]) λfl hfl=>by
   obtain⟨i,hi,rfl⟩:=List.getElem_of_mem hfl;exact hf i fs[i] (by simp[hi])
  simpa using this⟩
theorem ElW.nest {e:TypeId}(E:ElW enc P e f w ok)(hp:0<w):ElN enc P W base held e f w (λ_=>ok) :=
 ⟨E.cells,hp,E.len,λ_ _ _ h=>h,λh hw es=>by
  obtain⟨y,rfl,h2⟩:=E.rd h hw;exact⟨[],y,λb hb=>(by cases hb),λj u hj=>⟨u,hj,λ_ _ _=>Val.const (E.cst y u (List.mem_of_getElem? hj))⟩,h2⟩⟩
theorem yCa {e:TypeId}{n:Nat}{D:Nat->DataW H}{i m:Nat}(hi:i<n)(hm:m∈(D i).weights P e):m∈DataW.weightsAll P e ((List.range n).map D):=by
 have:∀(l:List (DataW H)) (d:DataW H),d∈l->m∈d.weights P e->m∈DataW.weightsAll P e l:=by
  intro l
  induction l with
  |nil=>intro d h;cases h
  |cons x r ih =>
   intro d h hd;unfold DataW.weightsAll;rcases List.mem_cons.1 h with rfl|h
   ·exact List.mem_append_left _ hd
   ·exact List.mem_append_right _ (ih d h hd)
 exact this _ (D i) (List.mem_map.2 ⟨i,List.mem_range.2 hi,rfl⟩) hm
theorem els [Inhabited α]{okn:List (Loc × Blk)->α->Prop}{e:TypeId}(E:ElN enc P W base held e f w okn)(a:Addr){k:Nat} :
  ∀(n:Nat),(∀i,i<n->∃cs x,W.cells? base (a.add (i*w)) w=some cs/\DataW.trod enc P W base (λ_=>true) held k e cs=some x/\∀m∈x.1.weights P e,m<=reachBytes)->∀es,∃es' Y,List.length Y=n/\(∀b∈es',CC W (es++es') b) /\
   ∀i,i<n->okn (es++es') Y[i]!/\∀j,j<w->∃u g,W.cell? ((a.add (i*w)).add j)=some u/\(f Y[i]!)[j]?=some g/\VA (es++es') g u
 |0,_,es=>⟨[],[],rfl,λb hb=>(by cases hb),λi hi=>absurd hi (Nat.not_lt_zero i)⟩
 |n+1,h,es=>by
  obtain⟨es1,Y,h1,h2,h3⟩:=els E a n (λi hi=>h i (by omega)) es;obtain⟨cs,x,k1,k2,k3⟩:=h n (by omega);obtain⟨es2,y,q1,q2,q3⟩:=E.rd k2 k3 (es++es1);rw[List.append_assoc]at q1 q2 q3;refine⟨es1++es2,Y++[y],by rw[List.length_append,h1];rfl,λb hb=>?_,λi hi=>?_⟩
  ·rcases List.mem_append.1 hb with hb|hb
   ·rw[<-List.append_assoc];exact(h2 b hb).mono
   ·exact q1 b hb
  ·by_cases hin:i<n
   ·have e:(Y++[y])[i]! = Y[i]!:=by rw[getElem!_pos _ _ (by rw[List.length_append];omega),getElem!_pos _ _ (by omega),List.getElem_append_left (by omega)]
    rw[e];obtain⟨p1,p2⟩:=h3 i hin;rw[<-List.append_assoc];exact⟨E.mono _ _ _ p1,λj hj=>by obtain⟨u,g,m1,m2,m3⟩:=p2 j hj;exact⟨u,g,m1,m2,m3.mono⟩⟩
   ·obtain rfl:i=n:=by omega
    have e:(Y++[y])[i]! = y:=by rw[getElem!_pos _ _ (by rw[List.length_append,h1];simp),List.getElem_append_right (by omega)];simp[h1]
    rw[e];obtain⟨_,r2,r3⟩:=World.cells?_some k1;refine⟨q3,λj hj=>?_⟩;obtain⟨u,hu⟩:∃u,cs[j]?=some u:=⟨_,List.getElem?_eq_getElem (by rw[r2];exact hj)⟩;obtain⟨g,g1,g2⟩:=q2 j u hu;exact⟨u,g,(r3 j hj).trans hu,g1,g2⟩
theorem slN [Inhabited α]{okn:List (Loc × Blk)->α->Prop}{t e:TypeId}(E:ElN enc P W base held e f w okn)(ht:P.underlying t=some (.slice e))(hb:0<P.bytesOf e){n:Nat}{cs:List Value}{x:DataW H × List MemPlace}
  (h:DataW.trod enc P W base (λ_=>true) held n t cs=some x) (hw:∀m∈x.1.weights P t,m<=reachBytes) (es:List (Loc × Blk)) :
  ∃v l es' g,cs=[v]/\VA (es++es') g v/\(∀b∈es',CC W (es++es') b)/\(∀i,i<List.length l->okn (es++es') l[i]!)/\l.length<=140737488351232/\HE (es++es') (zF f l) w l.length g/\∃ad fl,g=.slice ad l.length fl:=by
 rcases Go.Deep.open_slice ht h with⟨h0,_⟩|⟨a,len,cap,m,k,D,Pl,h0,hba,hl,hm,hmm,hxx,hx⟩
 ·subst h0
  exact⟨_,[],[],.slice none 0 0,rfl,λ_ _ _=>.snil,λb hb=>(by cases hb),λi hi=>absurd hi (Nat.not_lt_zero i),Nat.zero_le _,λh _=>⟨none,0,rfl,λhn=>absurd rfl hn⟩,none,0,rfl⟩
 ·subst h0
  obtain⟨len,rfl⟩:∃l,l=len:=⟨_,rfl⟩;simp only[if_true]at hmm;subst hmm;subst hxx;simp only[DataW.weights,ht]at hw;have hlen:len<=140737488351232:=by
   have h1:=hw _ List.mem_cons_self;rw[List.length_map,List.length_range,List.length_map,List.length_range]at h1;have h2:(len+(m-len))*1<=(len+(m-len))*P.bytesOf e:=Nat.mul_le_mul_left _ hb;unfold reachBytes at h1;omega
  have hall:∀i,i<len->∃cs x,W.cells? base (a.add (i*w)) w=some cs/\DataW.trod enc P W base (λ_=>true) held k e cs=some x/\∀m∈x.1.weights P e,m<=reachBytes:=λi hi=>by
   obtain⟨cs',h1,h2⟩:=hx i (by omega);rw[E.cells]at h1;exact⟨cs',_,h1,h2,λm hm=>hw m (List.mem_cons_of_mem _ (List.mem_append_left _ (yCa hi hm)))⟩
  by_cases hz:len=0
  ·subst hz
   exact⟨_,[],[],.slice (some ⟨0,0,none⟩) 0 0,rfl,λ_ _ _=>.sdead _ _ hm,λb hb=>(by cases hb),λi hi=>absurd hi (Nat.not_lt_zero i),Nat.zero_le _,λh _=>⟨_,0,rfl,λhn=>absurd rfl hn⟩,_,0,rfl⟩
  ·obtain⟨es1,Y,hY,hC,hE⟩:=els E a len hall es
   have hwp:=E.pos;obtain⟨u0,_,hu0,_,_⟩:=(hE 0 (by omega)).2 0 hwp;obtain⟨hsp,c,T,fz,hc,_⟩:=zLu hu0;simp only[Nat.zero_mul,Addr.add,if_true]at hsp hc;obtain⟨ab,ao,asp⟩:=a;simp only at hsp hc;subst hsp;have qT:∀i j,i<len->j<w->∃u g,c[ao+(i*w+j)]?=some u/\(f Y[i]!)[j]?=some g/\VA (es++es1) g u:=λi j hi hj=>by
    obtain⟨u,g,h2,h1,h3⟩:=(hE i hi).2 j hj;rw[Go.Deep.add_add]at h2;obtain⟨_,c2,T2,fz2,h4,h5⟩:=zLu h2;have eb:(Addr.add ⟨ab,ao,none⟩ (i*w+j)).block=ab:=by unfold Addr.add;split <;> rfl
    have eo:(Addr.add ⟨ab,ao,none⟩ (i*w+j)).off=ao+(i*w+j):=by unfold Addr.add;split <;> simp_all
    rw[eb,hc]at h4;simp only[Option.some.injEq,Obj.cells.injEq]at h4;obtain⟨rfl,_,_⟩:=h4;rw[eo]at h5;exact⟨u,g,h5,h1,h3⟩
   have hrl:(zF f Y).length=len*w:=by rw[yK E.len,hY]
   have hlast:(es++(es1++[((⟨ab,ao,c.size,false⟩:Loc),(⟨zF f Y,true⟩:Blk))]))[(es++es1).length]?=some (⟨ab,ao,c.size,false⟩,⟨zF f Y,true⟩):=by
    rw[<-List.append_assoc,List.getElem?_append_right (Nat.le_refl _),Nat.sub_self];rfl
   refine⟨_,Y,es1++[(⟨ab,ao,c.size,false⟩,⟨zF f Y,true⟩)],.slice (some ⟨(es++es1).length,0,some (w*len)⟩) len 0,rfl,λφ L hφ=>?_,λb hb2=>?_,λi hi=>?_,by omega,λh hp=>?_,_,0,by rw[hY]⟩
   ·obtain⟨h1,h2⟩:=hφ _ _ hlast
    exact .slc _ 0 (w*len) (w*len) len 0 _ ⟨ab,ao,none⟩ (by rw[h2,hrl,Nat.mul_comm]) (Nat.le_refl _) hl hm λ_=>⟨by rw[h1];rfl,λh=>absurd rfl h,by rw[h1]⟩
   ·rcases List.mem_append.1 hb2 with hb2|hb2
    ·rw[<-List.append_assoc];exact(hC b hb2).mono
    ·obtain rfl:=List.mem_singleton.1 hb2
     refine⟨rfl,rfl,c,T,fz,hc,rfl,?_,λi g hi=>?_⟩
     ·show ao+(zF f Y).length<=c.size
      rw[hrl];obtain⟨u,_,h1,_⟩:=qT (len-1) (w-1) (by omega) (by omega);have:=(Array.getElem?_eq_some_iff.1 h1).1;have e:(len-1)*w+(w-1)+1=len*w:=by
       obtain⟨q,rfl⟩:∃q,len=q+1:=⟨len-1,by omega⟩;rw[Nat.add_sub_cancel,Nat.add_mul];omega
      omega
     ·have hi2:i<len*w:=by have:=(List.getElem?_eq_some_iff.1 hi).1;rw[hrl]at this;exact this
      have hq:i/w<len:=(Nat.div_lt_iff_lt_mul hwp).2 hi2;have hr:=Nat.mod_lt i hwp;have e:=Nat.div_add_mod' i w;have hg:=mQ (l:=Y) E.len (i:=i/w) (j:=i%w) (by rw[hY];exact hq) hr;rw[e]at hg;obtain⟨u2,g2,h1,h2,h3⟩:=qT (i/w) (i%w) hq hr;rw[e]at h1;have:g=g2:=Option.some.inj (hi.symm.trans (hg.trans h2));subst this;rw[<-List.append_assoc];exact⟨u2,h1,h3.mono⟩
   ·rw[<-List.append_assoc]
    exact E.mono _ _ _ (hE i (by omega)).1
   ·obtain⟨h1,p⟩:=hp _ _ hlast
    rw[hY];exact⟨_,0,rfl,λ_=>⟨_,true,h1,rfl,p⟩⟩
end
end Go.Gh
end
section
set_option maxRecDepth 4000
namespace Go.Proofs.YtbidadebolllkaaGreatDoor
open Go.Gh Go.RowKit Go.ChangeShapes Go.WideShapes

section
variable {H:Type} {enc:TypeId × Value->H} {W:World} {base:Nat} {held:Bool}
theorem c3 :Tryz.prog.cellsOf 3=1:=by kernel_rfl
theorem c4 :Tryz.prog.cellsOf 4=1:=by kernel_rfl
theorem c9 :Tryz.prog.cellsOf 9=1:=by kernel_rfl
theorem wI :ElW enc Tryz.prog 3 (λz:Int=>[I z]) 1 (λ_=>True):=yEf Tryz.underlying3 c3
theorem wB :ElW enc Tryz.prog 4 (λz:Bool=>[B z]) 1 (λ_=>True):=zYl Tryz.underlying4 c4
theorem wS :ElW enc Tryz.prog 9 (λl:List UInt8=>[S l]) 1 (λl=>l.length<=140737488351232):=yMw Tryz.underlying9 c9
theorem wSc :ElW enc Tryz.prog 66 scF 3 (λy=>y.1.length<=140737488351232/\True/\True) :=
 have h:=cW (enc:=enc) Tryz.underlying66 (w:=1+(1+1)) (by kernel_rfl) (FW.cons rfl wS (FW.cons rfl wI (FW.last rfl wI)))
 h
theorem wVr :ElW enc Tryz.prog 69 vrF 7 (λy=>y.1.length<=140737488351232/\True/\True/\True/\True/\True/\True) :=
 have h:=cW (enc:=enc) Tryz.underlying69 (w:=1+(1+(1+(1+(1+(1+1)))))) (by kernel_rfl) (FW.cons rfl wS (FW.cons rfl wI (FW.cons rfl wI (FW.cons rfl wI (FW.cons rfl wB (FW.cons rfl wI (FW.last rfl wI)))))))
 h
theorem wCh :ElW enc Tryz.prog 104 chF 2 (λy=>True/\y.2.length<=140737488351232) :=
 have h:=cW (enc:=enc) Tryz.underlying104 (w:=1+1) (by kernel_rfl) (FW.cons rfl wI (FW.last rfl wS))
 h
theorem wPr :ElW enc Tryz.prog 61 prF 2 (λ_=>True/\True) :=
 have h:=cW (enc:=enc) Tryz.underlying61 (w:=1+1) (by kernel_rfl) (FW.cons rfl wI (FW.last rfl wI))
 h
def FA (enc:TypeId × Value->H)(W:World)(base:Nat)(held:Bool)(k:Nat)(cs:List Value)(i:Nat)(t:TypeId):Prop :=
 ∃y,DataW.trod enc Tryz.prog W base (λ_=>true) held k t ((cs.drop i).take (Tryz.prog.cellsOf t))=some y/\∀m∈y.1.weights Tryz.prog t,m<=reachBytes
theorem b104 :0<Tryz.prog.bytesOf 104:=by rw[show Tryz.prog.bytesOf 104=24 by kernel_rfl];decide
theorem b66 :0<Tryz.prog.bytesOf 66:=by rw[show Tryz.prog.bytesOf 66=32 by kernel_rfl];decide
theorem b69 :0<Tryz.prog.bytesOf 69:=by rw[show Tryz.prog.bytesOf 69=64 by kernel_rfl];decide
theorem b49 :0<Tryz.prog.bytesOf 49:=by rw[show Tryz.prog.bytesOf 49=40 by kernel_rfl];decide
theorem b61 :0<Tryz.prog.bytesOf 61:=by rw[show Tryz.prog.bytesOf 61=16 by kernel_rfl];decide
def sgK (es:List (Gh.Loc × Gh.Blk))(y:Sx × Sgc):Prop:=y.1.1=y.2.1/\y.1.2.1=y.2.2.1/\HE es (zF chF y.2.2.2) 2 y.2.2.2.length (sxV y.1)/\y.2.2.2.length<=140737488351232/\∀c∈y.2.2.2,c.2.length<=140737488351232
theorem cN {α:Type}[Inhabited α]{p:α->Prop}{l:List α}(h:∀i,i<l.length->p l[i]!):∀x∈l,p x:=λx hx=>by
 obtain⟨i,hi,rfl⟩:=List.getElem_of_mem hx;rw[<-getElem!_pos l i hi];exact h i hi
theorem wSg :ElN enc Tryz.prog W base held 49 (λy:Sx × Sgc=>sgF y.1) 3 sgK:=by
 refine⟨by kernel_rfl,by decide,λ_=>rfl,λes es' y h=>⟨h.1,h.2.1,h.2.2.1.mono,h.2.2.2⟩,λ{n cs x} h hw es=>?_⟩;obtain⟨hl,k,hf⟩:=zDd Tryz.underlying49 h hw;rw[show Tryz.prog.cellsOf 49=3 by kernel_rfl]at hl;obtain⟨x0,a0,-⟩:FA enc W base held k cs 0 3:=hf 0 _ rfl;obtain⟨x1,a1,-⟩:FA enc W base held k cs 1 3:=hf 1 _ rfl;obtain⟨x2,a2,w2⟩:FA enc W base held k cs 2 47:=hf 2 _ rfl;obtain⟨k0,e0,-,-⟩:=DataW.trod_int Tryz.underlying3 a0;obtain⟨k1,e1,-,-⟩:=DataW.trod_int Tryz.underlying3 a1;obtain⟨v,l,es',g,e2,hv,hc,hk,hn,hh,ad,fl,rfl⟩:=slN (wCh.nest (by decide)) Tryz.underlying47 b104 a2 w2 es;rw[c3]at e0 e1;rw[show Tryz.prog.cellsOf 47=1 by kernel_rfl]at e2;refine⟨es',((k0,k1,ad,l.length,fl),(k0,k1,l)),hc,?_,rfl,rfl,hh,hn,λc hcm=>(cN (p:=λc:Chg=>True/\c.2.length<=140737488351232) hk c hcm).2⟩
 match cs,hl with
 |[q0,q1,q2],_ =>
  simp at e0 e1 e2;subst e0 e1 e2;intro j u hj
  match j,hj with
  |0,hj=>obtain rfl:=Option.some.inj hj;exact⟨_,rfl,λ_ _ _=>Val.const rfl⟩
  |1,hj=>obtain rfl:=Option.some.inj hj;exact⟨_,rfl,λ_ _ _=>Val.const rfl⟩
  |2,hj=>obtain rfl:=Option.some.inj hj;exact⟨_,rfl,hv⟩
theorem zPu {α β:Type}{f:β->List Value}{g:α->β}:∀{l:List α},zF (λy=>f (g y)) l=zF f (l.map g)
 |[]=>rfl
 |x::r=>by show f (g x)++zF (λy=>f (g y)) r=f (g x)++zF f (r.map g);rw[zPu]
theorem yHh {v:Value}{d:DataW H}{ps:List MemPlace}{r:Reach}{b0:Nat}(hval:Value.okWide Tryz.prog W r b0 27 v)(hd:DataW.Trod enc Tryz.prog W base (λ_=>true) held 27 v d ps)(hw:∀m∈d.weights Tryz.prog 27,m<=reachBytes) :
  ∃t g es,VA es g v/\(∀b∈es,CC W es b)/\(∀h:SH,(∀(j:Nat) b,es[j]?=some b->∃h1,Pick h j b.2 h1)->TrH h t g)/\Fit t:=by
 obtain⟨ca,rfl,_⟩:=okWide_struct Tryz.underlying27 hval;obtain⟨cs,rfl⟩:∃l:List Value,ca=⟨l⟩:=⟨ca.toList,rfl⟩;obtain⟨fuel,hf0⟩:=hd;have hf1:DataW.trod enc Tryz.prog W base (λ_=>true) held fuel 27 cs=some (d,ps):=hf0;obtain⟨hl,k,hf⟩:=zDd Tryz.underlying27 hf1 hw;rw[show Tryz.prog.cellsOf 27=9 by kernel_rfl]at hl;obtain⟨x0,a0,-⟩:FA enc W base held k cs 0 3:=hf 0 _ rfl;obtain⟨x1,a1,w1⟩:FA enc W base held k cs 1 9:=hf 1 _ rfl;obtain⟨x2,a2,w2⟩:FA enc W base held k cs 2 9:=hf 2 _ rfl;obtain⟨x3,a3,w3⟩:FA enc W base held k cs 3 9:=hf 3 _ rfl;obtain⟨x4,a4,w4⟩:FA enc W base held k cs 4 22:=hf 4 _ rfl;obtain⟨x5,a5,w5⟩:FA enc W base held k cs 5 23:=hf 5 _ rfl;obtain⟨x6,a6,w6⟩:FA enc W base held k cs 6 24:=hf 6 _ rfl;obtain⟨x7,a7,w7⟩:FA enc W base held k cs 7 25:=hf 7 _ rfl;obtain⟨x8,a8,-⟩:FA enc W base held k cs 8 3:=hf 8 _ rfl;clear hf;obtain⟨sc,e0,-,-⟩:=DataW.trod_int Tryz.underlying3 a0;obtain⟨da,e1,l1⟩:=wS.rd a1 w1;obtain⟨ve,e2,l2⟩:=wS.rd a2 w2;obtain⟨co,e3,l3⟩:=wS.rd a3 w3;obtain⟨v4,ss,es4,g4,e4,va4,cc4,k4,n4,h4,d4,f4,rfl⟩:=slN (wSc.nest (by decide)) Tryz.underlying22 b66 a4 w4 [];obtain⟨v5,vs,es5,g5,e5,va5,cc5,k5,n5,h5,d5,f5,rfl⟩:=slN (wVr.nest (by decide)) Tryz.underlying23 b69 a5 w5 ([]++es4);obtain⟨v6,Y,es6,g6,e6,va6,cc6,k6,n6,h6,d6,f6,rfl⟩:=slN wSg Tryz.underlying24 b49 a6 w6 ([]++es4++es5);obtain⟨v7,ga,es7,g7,e7,va7,cc7,k7,n7,h7,d7,f7,rfl⟩:=slN (wPr.nest (by decide)) Tryz.underlying25 b61 a7 w7 ([]++es4++es5++es6);obtain⟨en,e8,-,-⟩:=DataW.trod_int Tryz.underlying3 a8;clear a0 a1 a2 a3 a4 a5 a6 a7 a8 w1 w2 w3 w4 w5 w6 w7;rw[c3]at e0 e8;rw[c9]at e1 e2 e3;rw[show Tryz.prog.cellsOf 22=1 by kernel_rfl]at e4;rw[show Tryz.prog.cellsOf 23=1 by kernel_rfl]at e5;rw[show Tryz.prog.cellsOf 24=1 by kernel_rfl]at e6;rw[show Tryz.prog.cellsOf 25=1 by kernel_rfl]at e7;have hcs:cs=[I sc,S da,S ve,S co,v4,v5,v6,v7,I en]:=by
  match cs,hl with
  |[q0,q1,q2,q3,q4,q5,q6,q7,q8],_ =>
   simp at e0 e1 e2 e3 e4 e5 e6 e7 e8;subst e0 e1 e2 e3 e4 e5 e6 e7 e8;rfl
 subst hcs;refine⟨⟨sc,da,ve,co,ss,vs,Y.map (·.2),ga,en⟩,.agg ⟨[I sc,S da,S ve,S co,.slice d4 ss.length f4,.slice d5 vs.length f5,.slice d6 Y.length f6,.slice d7 ga.length f7,I en]⟩,[]++es4++es5++es6++es7,λφ L hφ=>.agg _ _ rfl λi q1 q2=>?_,λb hb=>?_,λh hp=>?_,?_⟩
 ·have k4:=va4.mono.mono.mono φ L hφ
  have k5:=va5.mono.mono φ L hφ;have k6:=va6.mono φ L hφ;have k7:=va7 φ L hφ
  match i,q1 with
  |0,_=>exact Val.const rfl
  |1,_=>exact Val.const rfl
  |2,_=>exact Val.const rfl
  |3,_=>exact Val.const rfl
  |4,_=>exact k4
  |5,_=>exact k5
  |6,_=>exact k6
  |7,_=>exact k7
  |8,_=>exact Val.const rfl
 ·rcases List.mem_append.1 hb with hb|hb
  ·rcases List.mem_append.1 hb with hb|hb
   ·rcases List.mem_append.1 hb with hb|hb
    ·rcases List.mem_append.1 hb with hb|hb
     ·cases hb
     ·exact(cc4 b hb).mono.mono.mono
    ·exact(cc5 b hb).mono.mono
   ·exact(cc6 b hb).mono
  ·exact cc7 b hb
 ·have g6:=h6.mono h hp
  refine⟨_,_,_,_,rfl,h4.mono.mono.mono h hp,h5.mono.mono h hp,⟨Y.map (·.1),by rw[List.length_map,List.length_map],?_,λi hi=>?_⟩,h7 h hp⟩
  ·rw[List.length_map,<-zPu (f:=sgF)];exact g6
  ·rw[List.length_map]at hi
   obtain⟨q1,q2,q3,-,-⟩:=k6 i hi;rw[nK hi,nK hi];exact⟨q1,q2,q3.mono h hp⟩
 ·refine⟨l1,l2,l3,n4,n5,by show(Y.map _).length<=_;rw[List.length_map];exact n6,n7,λc hc=>(cN (p:=λc:Scp=>c.1.length<=140737488351232/\True/\True) k4 c hc).1,λc hc=>(cN (p:=λc:Vr=>c.1.length<=140737488351232/\True/\True/\True/\True/\True/\True) k5 c hc).1,λg hg=>?_⟩
  obtain⟨y,hy,rfl⟩:=List.mem_map.1 hg;exact(cN (p:=sgK _) k6 y hy).2.2.2
theorem yIc {es:List (Gh.Loc × Gh.Blk)}(j:Nat)(b:Gh.Loc × Gh.Blk)(h:es[j]?=some b):∃h1,Pick (num 0 (es.map (·.2))) j b.2 h1:=by
 obtain⟨h1,p⟩:=zVo (k:=0) (l:=es.map (·.2)) (j:=j) (b:=b.2) (by rw[List.getElem?_map,h];rfl);rw[Nat.zero_add]at p;exact⟨h1,p⟩
theorem law_calls {v:Value}{d:DataW H}{ps:List MemPlace}{r:Reach}{b0:Nat}{f e s:Int}(hval:Value.okWide Tryz.prog W r b0 27 v)(hd:DataW.Trod enc Tryz.prog W base (λ_=>true) held 27 v d ps)(hw:∀m∈d.weights Tryz.prog 27,m<=reachBytes)(hg:GW W.heap.size W) :
  Calls Tryz.prog 3 #[v,I f,I e,I s] W λe W'=>e=.returned (.bool true)/\Below W.heap.size W W':=by
 obtain⟨t,g,es,hv,hc,hT,hF⟩:=yHh hval hd hw;exact yFd (vs:=[v,I f,I e,I s]) (as0:=[g,I f,I e,I s]) hc rfl (λi a hi=>by
  match i,hi with
  |0,hi=>obtain rfl:=Option.some.inj hi;exact⟨_,rfl,hv⟩
  |1,hi=>obtain rfl:=Option.some.inj hi;exact⟨_,rfl,λ_ _ _=>Val.const rfl⟩
  |2,hi=>obtain rfl:=Option.some.inj hi;exact⟨_,rfl,λ_ _ _=>Val.const rfl⟩
  |3,hi=>obtain rfl:=Option.some.inj hi;exact⟨_,rfl,λ_ _ _=>Val.const rfl⟩) (zXo t g f e s _ (hT _ yIc) hF) hg
end
end Go.Proofs.YtbidadebolllkaaGreatDoor
end
