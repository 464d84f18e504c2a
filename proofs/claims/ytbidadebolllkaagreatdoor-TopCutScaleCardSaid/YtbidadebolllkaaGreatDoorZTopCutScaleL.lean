/- Part 12 of the proof of the law TopCutScale: texts merged. No condition. -/
import Derived.Test.YtbidadebolllkaaGreatDoorZTopCutScaleK
import Derived.Lib.ItoaNum
import Derived.Lib.Bytealg
import Derived.Lib.MakeNoZero
import Derived.Laws.Externs
import Derived.KernelRfl
set_option linter.unusedSimpArgs false
set_option linter.unusedVariables false
section
set_option maxRecDepth 4000
namespace Go.Gh
open Go.RowKit
noncomputable section

def mR (P:Program)(call:tA):Prop:=∀g as0 h,(call g as0 h).ok=true->xL P g=true/\Run P g as0 (toL h) λv H'=>∃x,Mem x (call g as0 h)/\v=x.1/\H'=toL x.2
def aL (P:Program)(yld:sL):Prop:=∀A as0 h,(yld A as0 h).ok=true->∃d,dE P A d as0 (toL h) λv H'=>∃x,Mem x (yld A as0 h)/\v=x.1/\H'=toL x.2
def zEk (P:Program)(rsv:uC):Prop:=∀o f h r,yF P o f h r->yF P o f h (rsv h r)
section
variable {P:Program} {N:Fr} {ops:Array Oper} {rest:List Oper} {o:Oper} {a:AF} {H:zI}
theorem pP.ceff {v:Value}(h:pP P N o a H v):vH P N o a H v H:=by
 refine⟨λB0 w0 φ w ac hr hf=>?_⟩;obtain⟨v',h1,h2⟩:=h.go B0 w0 φ w ac hr hf;rcases h2 with h2|⟨f,args,h2,h3⟩
 ·exact .inl ⟨φ,v',w,.refl _ _,hr,h1,.inl h2⟩
 ·refine .inr (.inl ⟨f,args,h2,h3.mono ?_⟩)
  rintro e w2 ⟨rfl,hb⟩;exact⟨φ,v',.refl _ _,hr.later hb,rfl,h1⟩
theorem dO {Q:xR}{H':zI}{v:Value}(h:vH P N o a H v H')(hN:wK o N=true)(k:wC P N ops Q rest (put a o.dst v) H'):AOp P N o ops rest Q a H:=by
 unfold AOp;intro B0 w0 φs Ls φ w ac hdm he hr hf;refine⟨λ_ _=>trivial,?_⟩;have fin:∀φ' v' w',Ext φ (lens H) φ' (lens H')->Rel B0 w0 φ' H' w'->Val φ' (lens H') v v'->wpListIn (fc N) 0 P ops (QC B0 w0 N φs Ls Q) rest (ac.put o.dst v') w' :=
  λφ' v' w' h1 h2 h3=>by
   have k:=k;unfold wC at k;exact k B0 w0 φs Ls φ' w' _ hdm (he.trans h1).put h2 ((hf.mono h1).put (sZ hN) h3)
 rcases h.go B0 w0 φ w ac hr hf with⟨φ',v',w',q1,q2,q3,q4⟩|⟨f,args,q4,q5⟩|⟨l,f,tmps,as0,bd,q4,q5⟩
 ·rcases q4 with q4|⟨rfl,q4⟩
  ·rw[vS q4 (λ_ h=>by cases h)];exact fin φ' _ w' q1 q2 q3
  ·rw[vS q4 (λ_ h=>by cases h)];exact fin φ' _ w' q1 q2 q3
 ·rw[vS q4 (λ_ h=>by cases h)]
  refine⟨(λh=>by cases h),(callsIn_wide (n:=0)).2 (q5.mono ?_)⟩;rintro e w2 ⟨φ',v',q1,q2,rfl,q3⟩;exact fin φ' v' w2 q1 q2 q3
 ·rw[vS q4 (λ_ h=>by cases h)]
  refine⟨(λh=>by cases h),RoundIn.mono (F:=Fence.wide) q5 ?_⟩;rintro e w2 ⟨φ',v',q1,q2,rfl,q3⟩;exact fin φ' v' w2 q1 q2 q3
theorem zWl {Q:xR}{R:Value->zI->Prop}(h:zEn P N o a H R)(hN:wK o N=true)(k:∀v H',R v H'->wC P N ops Q rest (put a o.dst v) H'):AOp P N o ops rest Q a H:=by
 unfold AOp;intro B0 w0 φs Ls φ w ac hdm he hr hf;refine⟨λ_ _=>trivial,?_⟩;obtain⟨φ',v,v',w',H',q0,q1,q2,q3,q4⟩:=h.go B0 w0 φ w ac hr hf;rw[vS q4 (λ_ h=>by cases h)];have k:=k v H' q0;unfold wC at k;exact k B0 w0 φs Ls φ' w' _ hdm (he.trans q1).put q2 ((hf.mono q1).put (sZ hN) q3)
theorem zNc {X Y H':zI}{v:Value}(hX:qX X)(hY:qX Y)(h:vH P N o a H v H'):vH P N o a (H++X) v (H'++Y):=by
 refine⟨λB0 w0 φ w ac hr hf=>?_⟩;have:=h.go B0 w0 φ w ac (zMi hX hr) (by rw[uL hX]at hf;exact hf);rw[uL hX,uL hY];rcases this with⟨φ',v',w',q1,q2,q3,q4⟩|⟨f,args,q4,q5⟩|⟨l,f,tmps,as0,bd,q4,q5⟩
 ·exact .inl ⟨φ',v',w',q1,gP hY q2,q3,q4⟩
 ·refine .inr (.inl ⟨f,args,q4,q5.mono ?_⟩)
  rintro e w2 ⟨φ',v',q1,q2,q3⟩;exact⟨φ',v',q1,gP hY q2,q3⟩
 ·refine .inr (.inr ⟨l,f,tmps,as0,bd,q4,RoundIn.mono q5 ?_⟩)
  rintro e w2 ⟨φ',v',q1,q2,q3⟩;exact⟨φ',v',q1,gP hY q2,q3⟩
theorem yBn {g:FuncId}{as0:List Value}{f:Fm}{h:Hp}{v:Value}{H':zI}(hop:yF P o f h (.call g as0))(hag:Ag o (yI f) a)(hen:xL P g=true)(hr:Run P g as0 H λr H2=>r=v/\H2=H'):vH P N o a H v H':=by
 refine⟨λB0 w0 φ w ac hrel hf=>.inr (.inl ?_)⟩;obtain⟨vs,h1,h2⟩:=hop N a φ (lens H) ac hag hf;unfold Run at hr;refine⟨g,vs,by rw[h2];exact uU hen vs w,(hr B0 w0 φ (lens H) φ w vs (.refl _ _) hrel h1).mono ?_⟩;rintro e w' ⟨φ',r,H2,v',g1,g2,rfl,g4,rfl,rfl⟩;exact⟨φ',v',g1,g2,rfl,g4⟩
theorem zSj {sz:Nat}(h:uM sz o=true)(hsz:N.sz=sz):wK o N=true:=by
 unfold uM at h;unfold wK;rw[hsz];cases hd:o.dst with
 |none=>rfl
 |some d=>rw[hd]at h;exact h
theorem yIz {v:Value}(h:fE v=true):v=undef:=by
 unfold fE at h;split at h
 ·rfl
 ·cases h
theorem cD {ops:Array Oper}{f:Fm}{b:Bool}(h:wanted ops.toList f o=some b):(o.guard=none/\b=true)\/∃j w d,o.guard=some (j,w)/\(ops[j]?).bind (·.dst)=some d/\((∃c,f.get d=some (.bool c)/\b=(c == w))\/(f.get d=some undef/\b=false)):=by
 unfold wanted at h;split at h
 ·rename_i hg;cases h;exact .inl ⟨hg,rfl⟩
 ·rename_i j w hg
  right
  split at h
  ·cases h
  ·rename_i p hp
   split at h
   ·cases h
   ·rename_i d hd
    have hb:(ops[j]?).bind (·.dst)=some d:=by
     rw[Array.getElem?_toList]at hp;rw[hp];exact hd
    refine⟨j,w,d,hg,hb,?_⟩;split at h
    ·rename_i c hc;cases h;exact .inl ⟨c,hc,rfl⟩
    ·rename_i v _ hv
     cases hu:fE v with
     |false=>rw[hu]at h;cases h
     |true=>rw[hu]at h;cases h;rw[yIz hu]at hv;exact .inr ⟨hv,rfl⟩
    ·cases h
theorem zOv {k:Value × Blk->wR}:∀{l:List (Value × Blk)},(kL k l).ok=true->∀x∈l,(k x).ok=true/\∀y,Mem y (k x)->Mem y (kL k l)
 |[],h,_,hx=>by cases hx
 |[z],h,x,hx=>by
  obtain rfl:x=z:=by simpa using hx
  exact⟨h,λ_ h=>h⟩
 |z::z2::l,h,x,hx=>by
  have h':((k z).ok && (kL k (z2::l)).ok)=true:=h;rw[Bool.and_eq_true]at h';rcases List.mem_cons.1 hx with rfl|hx
  ·exact⟨h'.1,λ_ h=>.l h⟩
  ·obtain⟨q1,q2⟩:=zOv h'.2 x hx
   exact⟨q1,λy hy=>.r (q2 y hy)⟩
theorem yHi {rsv:uC}{call:tA}{yld:sL}(hc:mR P call)(hy:aL P yld)(hr:zEk P rsv){Q:xR}{sz:Nat}(hsz:N.sz=sz):∀(l:List Oper) (f:Fm) (h:Hp),
  (mD P rsv call yld sz ops.toList l f h).ok=true->(∀x,Mem x (mD P rsv call yld sz ops.toList l f h)->Q x.1 (yI x.2.1) (toL x.2.2))->wC P N ops Q l (yI f) (toL h):=by
 intro l
 induction l with
 |nil=>intro f h _ hq;exact kY (hq _ .one)
 |cons o l ih =>
  intro f h hok hq;have e0:mD P rsv call yld sz ops.toList (o::l) f h=bif uM sz o then zIi P rsv call yld o f h (mD P rsv call yld sz ops.toList l) (wanted ops.toList f o)else .err "slot" := rfl
  rw[e0]at hok hq;cases hd:uM sz o with
  |false=>rw[hd]at hok;cases hok
  |true =>
   rw[hd]at hok hq;simp only[cond_true]at hok hq;have hN:wK o N=true:=zSj hd hsz;have next:∀(v:Value) (h':Hp),(mD P rsv call yld sz ops.toList l (wG f o.dst v) h').ok=true->(∀x,Mem x (mD P rsv call yld sz ops.toList l (wG f o.dst v) h')->Q x.1 (yI x.2.1) (toL x.2.2)) ->
     wC P N ops Q l (put (yI f) o.dst v) (toL h'):=λv h' h1 h2=>(ih _ _ h1 h2).sub (yIa f o.dst v)
   cases hw:wanted ops.toList f o with
   |none=>rw[hw]at hok;cases hok
   |some b =>
    rw[hw]at hok hq;cases b with
    |false =>
     have k:=next undef h hok hq
     rcases cD hw with⟨_,h2⟩|⟨j,w,d,hg,hb,h2⟩
     ·cases h2
     ·rcases h2 with⟨c,hc2,hcw⟩|⟨hu,_⟩
      ·exact zRm hg hb (by rw[sY];exact hc2) (by revert hcw;cases c <;> cases w <;> decide) hN k
      ·exact zMo hg hb (by rw[sY];exact hu) hN k
    |true =>
     have hgo:AOp P N o ops l Q (yI f) (toL h):=by
      have hop:=hr o f h _ (zRr P o f h);have hok':(zGq call yld o.dst f h (mD P rsv call yld sz ops.toList l) (rsv h (tG P f h o.op))).ok=true:=hok;have hq':∀x,Mem x (zGq call yld o.dst f h (mD P rsv call yld sz ops.toList l) (rsv h (tG P f h o.op)))->Q x.1 (yI x.2.1) (toL x.2.2):=hq;generalize rsv h (tG P f h o.op)=r at hop hok' hq';cases r with
      |no s=>cases hok'
      |val v fp=>exact dO (hop N _ _ (.refl _ _) ((wW.toL h).on fp)).ceff hN (next v h hok' hq')
      |all v=>exact dO (hop N _ _ (.refl _ _) (wW.toL h)) hN (next v h hok' hq')
      |new b v =>
       have hpl:=Place.app (toL h) b;rw[<-mN,xW]at hpl;exact dO (hop N _ _ _ _ (.refl _ _) hpl) hN (next _ _ hok' hq')
      |newR b v fp =>
       have hpl:=Place.app (toL h) b;rw[<-mN,xW]at hpl;exact dO (hop N _ _ _ _ (.refl _ _) (wW.toL h) hpl) hN (next _ _ hok' hq')
      |upd v A b =>
       obtain⟨⟨h1,h2⟩,h3⟩:=hop;have:=h3 N _ _ (.refl _ _) (wW.toL h);rw[<-lS h1 h2]at this;exact dO this hN (next v _ hok' hq')
      |call g as0 =>
       obtain⟨q1,q2⟩:=sQ hok';obtain⟨hen,hrun⟩:=hc g as0 h q1;refine zQg hN (λφ ac hfr=>?_) hrun ?_
       ·obtain⟨vs,z1,z2⟩:=hop N _ φ (lens (toL h)) ac (.refl _ _) hfr
        exact⟨vs,z1,λw=>by rw[z2];exact uU hen vs w⟩
       ·rintro v H' ⟨x,hx,rfl,rfl⟩
        exact next x.1 x.2 (q2 x hx) λy hy=>hq' y (rU.2 ⟨x,hx,hy⟩)
      |yld A as0 =>
       obtain⟨q1,q2⟩:=sQ hok';obtain⟨d,hR⟩:=hy A as0 h q1;obtain⟨x,xs,ts,ho,hev⟩:=hop;obtain⟨z1,z2⟩:=hev _ (.refl _ _);refine zNz x xs ts ho z1 z2 hN hR ?_;rintro v H' ⟨x,hx,rfl,rfl⟩;exact next x.1 x.2 (q2 x hx) λy hy=>hq' y (rU.2 ⟨x,hx,hy⟩)
      |alts A l' =>
       obtain⟨⟨h1,h2⟩,h3⟩:=hop;refine zWl (h3 N _ _ (.refl _ _) (wW.toL h)) hN ?_;rintro v H' ⟨x,hx,rfl,rfl⟩;obtain⟨q1,q2⟩:=zOv hok' x hx;rw[<-lS h1 h2];exact next x.1 _ q1 λy hy=>hq' y (q2 y hy)
     rcases cD hw with⟨hg,_⟩|⟨j,w,d,hg,hb,h2⟩
     ·exact rA hg hgo
     ·rcases h2 with⟨c,hc2,hcw⟩|⟨_,h2⟩
      ·exact yBb hg hb (by rw[sY];exact hc2) (by revert hcw;cases c <;> cases w <;> decide) hgo
      ·cases h2
theorem nU {p:Value->Value->Bool}(hp:∀a b,p a b=true->a=b):∀{x y:List Value},vB.beqVs p x y=true->x=y
 |[],[],_=>rfl
 |[],_::_,h=>by cases h
 |_::_,[],h=>by cases h
 |a::x,b::y,h=>by
  unfold vB.beqVs at h;rw[Bool.and_eq_true]at h;rw[hp a b h.1,nU hp h.2]
theorem fS {a b:Array Value}(h:a.toList=b.toList):a=b:=by rw[<-rE a,<-rE b,h]
theorem zDg :∀(n:Nat) (a b:Value),vB n a b=true->a=b:=by
 intro n
 induction n with
 |zero =>
  intro a b h;unfold vB at h;split at h <;> (try simp only[Bool.and_eq_true,yP]at h)
  all_goals first
   |rfl
   |(have h1:=iW h.1;have h2:=h.2;rw[rS]at h2;have h2:=of_decide_eq_true h2;subst h1 h2;rfl)
   |(rw[uX]at h;have h:=of_decide_eq_true h;rw[vX,vX,h])
   |(obtain⟨⟨rfl,rfl⟩,rfl⟩:=h;rfl)
   |(obtain⟨⟨⟨⟨rfl,rfl⟩,rfl⟩,rfl⟩,rfl⟩:=h;rfl)
   |(obtain⟨⟨⟨rfl,rfl⟩,rfl⟩,rfl⟩:=h;rfl)
   |(subst h;rfl)
   |(cases h;done)
   |(rename_i x y;cases x <;> cases y <;> first|rfl|cases h)
 |succ n ih =>
  intro a b h;unfold vB at h;split at h <;> (try simp only[Bool.and_eq_true,yP]at h)
  all_goals first
   |rfl
   |(have h1:=iW h.1;have h2:=h.2;rw[rS]at h2;have h2:=of_decide_eq_true h2;subst h1 h2;rfl)
   |(rw[uX]at h;have h:=of_decide_eq_true h;rw[vX,vX,h])
   |(rename_i e;cases e;exact congrArg Value.agg (fS (nU ih h)))
   |(rename_i e;cases e;exact congrArg Value.tuple (fS (nU ih h)))
   |(rename_i e;cases e;obtain⟨⟨rfl,h1⟩,h2⟩:=h;rw[fS (nU ih h1),fS (nU ih h2)];done)
   |(obtain⟨⟨rfl,rfl⟩,rfl⟩:=h;rfl)
   |(obtain⟨⟨⟨⟨rfl,rfl⟩,rfl⟩,rfl⟩,rfl⟩:=h;rfl)
   |(obtain⟨⟨⟨rfl,rfl⟩,rfl⟩,rfl⟩:=h;rfl)
   |(subst h;rfl)
   |(cases h;done)
   |(rename_i x y;cases x <;> cases y <;> first|rfl|cases h)
theorem yHk {a b:Blk}(h:zAz a b=true):a=b:=by
 obtain⟨c,m,t⟩:=a;obtain⟨c',m',t'⟩:=b;unfold zAz at h;simp only[Bool.and_eq_true]at h;obtain⟨⟨h1,h2⟩,h3⟩:=h;have e1:m=m':=by cases m <;> cases m' <;> first|rfl|cases h1
 have e2:t=t':=by
  unfold zEc at h2;split at h2
  ·rfl
  ·rw[yP.1 h2]
  ·cases h2
 rw[e1,e2,nU (zDg 4) h3]
theorem bL {fp:List Nat}{k h:Hp}(e:pC fp k h=true){A:Nat}(hA:A∈fp):∃g,k.get A=some g/\h.get A=some g:=by
 have:=(List.all_eq_true.1 e) A hA;split at this
 ·rename_i a b h1 h2
  simp only[Bool.and_eq_true]at this;rw[yHk this.2]at h1;exact⟨b,h1,h2⟩
 ·cases this
theorem zEd {fp:List Nat}{k h:Hp}(e:pC fp k h=true):uA fp h (toL k):=by
 intro A hA g hg;obtain⟨g',h1,h2⟩:=bL e hA;rw[hg]at h2;cases h2;exact rT h1
theorem uA.app {fp:List Nat}{h:Hp}{H X:zI}(k:uA fp h H):uA fp h (H++X):=λA hA g hg=>by
 have:=k A hA g hg;rw[List.getElem?_append_left (List.getElem?_eq_some_iff.1 this).1];exact this
theorem wW.app {h:Hp}{H X:zI}(k:wW h H):wW h (H++X):=λA g hg=>by
 have:=k A g hg;rw[List.getElem?_append_left (List.getElem?_eq_some_iff.1 this).1];exact this

def lB (x:Pst):Bool × Nat × zI × zI:=(x.eff,x.j,toL x.h,toL x.h1)
def fX (x:Clm):Nat × (zI->Prop):=(x.j,uA x.fp x.h)
def zAe (x:Pst):Prop:=x.eff=false->∃b,x.h1=x.h.push b
theorem zEz {i:Nat}{fp:List Nat}{h:Hp}:∀(past:List Pst) (E:List Nat) (Ep:zI->Prop),(∀x∈past,zAe x)->(∀p∈E,∀k:Hp,zMp p fp k h=true->Ep (toL k))->pE ops i fp h past E=true ->
  rL ops i (uA fp h) Ep (past.map lB)
 |[],_,_,_,_,_=>trivial
 |x::r,E,Ep,hx,hE,hb=>by
  have hxr:∀y∈r,zAe y:=λy hy=>hx y (List.mem_cons_of_mem _ hy);have hx0:=hx x List.mem_cons_self;obtain⟨eff,call,j,hh,hh1⟩:=x;unfold pE at hb;cases eff with
  |true =>
   simp only[cond_true,Bool.or_eq_true,Bool.and_eq_true]at hb;rcases hb with hb|⟨h1,h2⟩
   ·exact .inl hb
   ·exact .inr ⟨zEd h1,zEz r E Ep hxr hE h2⟩
  |false =>
   simp only[cond_false,Bool.or_eq_true,Bool.and_eq_true]at hb;obtain⟨h1,h2⟩:=hb;refine⟨?_,zEz r _ _ hxr ?_ h2⟩
   ·rcases h1 with(h1|h1)|h1
    ·exact .inl h1
    ·exact .inr (.inl (zEd h1))
    ·obtain⟨p,hp,hq⟩:=List.any_eq_true.1 h1
     exact .inr (.inr (hE p hp hh hq))
   ·intro p hp k hk
    cases hc:wt ops i j && pC [hh.n] hh1 h with
    |false=>rw[hc]at hp;exact .inl (hE p hp k hk)
    |true =>
     rw[hc]at hp;simp only[cond_true,List.mem_cons]at hp;rcases hp with rfl|hp
     ·right
      rw[Bool.and_eq_true]at hc;refine⟨hc.1,?_⟩;obtain⟨b,hpush⟩:=hx0 rfl;simp only at hpush;subst hpush;refine⟨b,mN hh b,?_⟩;obtain⟨g,g1,g2⟩:=bL hc.2 (List.mem_singleton.2 rfl);have hgb:g=b:=by rw[zIs,if_pos rfl]at g1;cases g1;rfl
      subst hgb;intro X hle hX A hA gA hgA;have hle:k.n<=hh.n:=by rw[xW]at hle;exact Nat.le_trans hle (Nat.le_of_eq (xW hh))
      have hX:X[hh.n-k.n]?=some (some g):=by
       have e1:=xW hh;have e2:=xW k;rw[<-e1,<-e2];exact hX
      have hka:=(List.all_eq_true.1 hk) A hA;rw[Bool.or_eq_true]at hka;rcases hka with hka|hka
      ·have:A=hh.n:=yP.1 hka
       subst this;rw[g2]at hgA;cases hgA;rw[List.getElem?_append_right (by rw[xW];exact hle),xW];exact hX
      ·obtain⟨g3,g4,g5⟩:=bL hka (List.mem_singleton.2 rfl)
       rw[hgA]at g5;cases g5;have:=rT g4;rw[List.getElem?_append_left (List.getElem?_eq_some_iff.1 this).1];exact this
     ·exact .inl (hE p hp k hk)
theorem zSd {i:Nat}:∀(past:List Pst),fU ops i past=true->oG ops i (past.map lB)
 |[],_=>trivial
 |x::r,h=>by
  obtain⟨eff,call,j,hh,hh1⟩:=x;unfold fU at h;simp only[Bool.and_eq_true,Bool.or_eq_true]at h;cases eff with
  |true=>exact h.1
  |false=>exact⟨h.1,zSd r (by simpa using h.2)⟩
theorem yOz {i:Nat}{h':Hp}{cl:List Clm}(h:clmE ops i h' cl=true):∀x∈cl.map fX,wt ops i x.1=true\/x.2 (toL h'):=by
 intro x hx;obtain⟨y,hy,rfl⟩:=List.mem_map.1 hx;have:=(List.all_eq_true.1 h) y hy;rw[Bool.or_eq_true]at this;exact this.imp id zEd
def kA (s:St):Prop:=match s.k with|.new=>True|_=>False
theorem yEi {rsv:uC}{call:tA}{yld:sL}(hc:mR P call)(hy:aL P yld)(hr:zEk P rsv){Q:AF->zI->Prop}{sz:Nat}(hsz:N.sz=sz):∀(l:List Oper) (i:Nat) (f:Fm) (h:Hp) (past:List Pst) (cl:List Clm) (a:AF),
  (∀t,get a t=f.get t)->(∀x∈past,zAe x)->(evD P rsv call yld sz ops l i f h past cl).ok=true ->
  (∀x b,Mem x (evD P rsv call yld sz ops l i f h past cl)->(∀t,get b t=x.2.1.get t)->Q b (toL x.2.2)) ->
  ∃tr,GD P N ops Q l i a (toL h) (past.map lB) (cl.map fX) tr/\∀x∈past,x.call=true->∀n s,tr[n]?=some s->kA s->wt ops (i+n) x.j=true:=by
 intro l
 induction l with
 |nil =>
  intro i f h past cl a ha hp hok hq;refine⟨_,.nil (hq _ a .one ha),λx _ _ n s hs hk=>?_⟩;cases n with
  |zero=>simp at hs;subst hs;cases hk
  |succ n=>simp at hs
 |cons o l ih =>
  intro i f h past cl a ha hp hok hq;have e0:evD P rsv call yld sz ops (o::l) i f h past cl=bif uM sz o then stD P rsv call yld ops o (evD P rsv call yld sz ops l) i f h past cl (wanted ops.toList f o)else .err "slot" := rfl
  rw[e0]at hok hq;cases hd:uM sz o with
  |false=>rw[hd]at hok;cases hok
  |true =>
   rw[hd]at hok hq;simp only[cond_true]at hok hq;have hN:wK o N=true:=zSj hd hsz;have hput:∀v t,get (put a o.dst v) t=(wG f o.dst v).get t:=λv t=>by
    rw[sC];unfold wG;cases hdst:o.dst with
    |none=>simp[ha]
    |some d =>
     simp only[Option.some.injEq];rw[Tri.get_set,ha];by_cases e:d=t
     ·rw[if_pos e,if_pos e.symm]
     ·rw[if_neg e,if_neg (Ne.symm e)]
   have hagf:∀{a'},Ag o a a'->Ag o (yI f) a':=λhag t ht=>by rw[hag t ht,ha,sY]
   have shift:∀{tr:List St} {s0:St} {past':List Pst},(∀x∈past',x.call=true->∀n s,tr[n]?=some s->kA s->wt ops (i+1+n) x.j=true)->(∀x∈past,x∈past')->(kA s0->∀x∈past,x.call=true->wt ops i x.j=true) ->
     ∀x∈past,x.call=true->∀n s,(s0::tr)[n]?=some s->kA s->wt ops (i+n) x.j=true:=by
    intro tr s0 past' h1 h2 h3 x hx hxc n s hs hk;cases n with
    |zero=>simp only[List.getElem?_cons_zero,Option.some.injEq]at hs;subst hs;exact h3 hk x hx hxc
    |succ n =>
     have:=h1 x (h2 x hx) hxc n s (by simpa using hs) hk;rwa [show i+1+n=i+(n+1)by omega]at this
   cases hw:wanted ops.toList f o with
   |none=>rw[hw]at hok;cases hok
   |some b =>
    rw[hw]at hok hq;cases b with
    |false =>
     have hsk:eC ops o a:=by
      unfold eC;rcases cD hw with⟨_,h2⟩|⟨j,w,d,hg,hb,h2⟩
      ·cases h2
      ·rw[hg]
       refine⟨d,hb,?_⟩;rw[ha];rcases h2 with⟨c,hc2,hcw⟩|⟨hu,_⟩
       ·exact .inl (by rw[hc2];congr 2;revert hcw;cases c <;> cases w <;> decide)
       ·exact .inr hu
     obtain⟨tr,g,hnew⟩:=ih (i+1) (wG f o.dst undef) h past cl (put a o.dst undef) (hput undef) hp hok hq;exact⟨_,.skip hN hsk g,shift hnew (λ_ h=>h) (λhk=>by cases hk)⟩
    |true =>
     have hwt:rR ops o a:=by
      unfold rR;rcases cD hw with⟨hg,_⟩|⟨j,w,d,hg,hb,h2⟩
      ·rw[hg];trivial
      ·rw[hg]
       refine⟨d,hb,?_⟩;rw[ha];rcases h2 with⟨c,hc2,hcw⟩|⟨_,h2⟩
       ·rw[hc2];congr 2;revert hcw;cases c <;> cases w <;> decide
       ·cases h2
     have hop:=hr o f h _ (zRr P o f h);have hok':(goD call yld ops o.dst (evD P rsv call yld sz ops l) i f h past cl (rsv h (tG P f h o.op))).ok=true:=hok;have hq':∀x b,Mem x (goD call yld ops o.dst (evD P rsv call yld sz ops l) i f h past cl (rsv h (tG P f h o.op)))->(∀t,get b t=x.2.1.get t)->Q b (toL x.2.2):=hq;generalize rsv h (tG P f h o.op)=r at hop hok' hq'
     
     have eff:∀(c:Bool) (v:Value) (h':Hp),(rY ops o.dst (evD P rsv call yld sz ops l) c i f h past cl v h').ok=true->(∀x b,Mem x (rY ops o.dst (evD P rsv call yld sz ops l) c i f h past cl v h')->(∀t,get b t=x.2.1.get t)->Q b (toL x.2.2)) ->
       (∀X a',Ag o a a'->gZ (h'.n-h.n) X->(c=true->qX X)->vH P N o a' (toL h++X) v (toL h'++X.drop (h'.n-h.n))) ->
       ∃tr,GD P N ops Q (o::l) i a (toL h) (past.map lB) (cl.map fX) tr/\∀x∈past,x.call=true->∀n s,tr[n]?=some s->kA s->wt ops (i+n) x.j=true:=by
      intro c v h' hok2 hq2 hv;unfold rY at hok2 hq2;cases he:bM ops i h past cl h' with
      |false=>rw[he]at hok2;cases hok2
      |true =>
       rw[he]at hok2 hq2;simp only[cond_true]at hok2 hq2;unfold bM at he;simp only[Bool.and_eq_true,xU]at he;obtain⟨⟨e1,e2⟩,e3⟩:=he;obtain⟨tr,g,hnew⟩:=ih (i+1) (wG f o.dst v) h' (⟨true,c,i,h,h'⟩::past) cl (put a o.dst v) (hput v) (λx hx=>by
        rcases List.mem_cons.1 hx with rfl|hx
        ·intro hh;cases hh
        ·exact hp x hx) hok2 hq2
       refine⟨_,.eff (h'.n-h.n) hN hwt (by rw[xW,xW];omega) (λX a' hag hX hdd=>hv X a' hag hX λhcc=>hdd λn s hs hk=>hnew _ List.mem_cons_self hcc n s hs hk) (zSd past e1) (yOz e2) g,shift hnew (λ_ h=>List.mem_cons_of_mem _ h) (λhk=>by cases hk)⟩
     have same:∀{X:zI},X.drop (h.n-h.n)=X:=λ{X}=>by rw[Nat.sub_self];rfl
     have free1:∀{X:zI} {b:Blk},gZ ((h.push b).n-h.n) X->Place (toL h++X) h.n (toL (h.push b)++X.drop ((h.push b).n-h.n)) b/\(qX X->qX (X.drop ((h.push b).n-h.n))):=by
      intro X b hX;rw[zCj,show h.n+1-h.n=1 by omega]at *;refine⟨?_,λhd p b' hb=>hd (1+p) b' (by rw[List.getElem?_drop]at hb;exact hb)⟩;have h0:=hX 0 (by omega);cases X with
      |nil=>simp at h0
      |cons x X =>
       simp only[List.getElem?_cons_zero,Option.some.injEq]at h0;subst h0;have h1:(toL h++none::X)[h.n]?=some none:=by rw[List.getElem?_append_right (by rw[xW];exact Nat.le_refl _),xW,Nat.sub_self];rfl
       have:=Place.hole h1 b;have e:(toL h++none::X).set h.n (some b)=toL (h.push b)++List.drop 1 (none::X):=by
        rw[mN,List.set_append_right _ _ (by rw[xW];exact Nat.le_refl _),xW,Nat.sub_self];simp
       rwa [e]at this
     cases r with
     |no s=>cases hok'
     |val v fp =>
      cases fp with
      |nil =>
       obtain⟨tr,g,hnew⟩:=ih (i+1) (wG f o.dst v) h past cl (put a o.dst v) (hput v) hp hok' hq';exact⟨_,.ind hN hwt (λH' a' hag=>hop N a' H' (hagf hag) (λA hA=>by cases hA)) g,shift hnew (λ_ h=>h) (λhk=>by cases hk)⟩
      |cons A0 fp0 =>
       have e1:goD call yld ops o.dst (evD P rsv call yld sz ops l) i f h past cl (.val v (A0::fp0))=bif pE ops i (A0::fp0) h past [] then evD P rsv call yld sz ops l (i+1) (wG f o.dst v) h past (⟨i,A0::fp0,h⟩::cl)else .err "drawn a read" := rfl
       rw[e1]at hok' hq';generalize A0::fp0=fp at *;cases hb:pE ops i fp h past []with
       |false=>rw[hb]at hok';cases hok'
       |true =>
        rw[hb]at hok' hq';simp only[cond_true]at hok' hq';obtain⟨tr,g,hnew⟩:=ih (i+1) (wG f o.dst v) h past (⟨i,fp,h⟩::cl) (put a o.dst v) (hput v) hp hok' hq';exact⟨_,.pure (uA fp h) hN hwt ((wW.toL h).on fp) (λH X h1=>h1.app) (λH' a' h1 hag=>hop N a' H' (hagf hag) h1) (zEz past [] _ hp (λp hp=>by cases hp) hb) g,shift hnew (λ_ h=>h) (λhk=>by cases hk)⟩
     |all v=>exact eff false v h hok' hq' λX a' hag _ _=>by rw[same];exact hop N a' _ (hagf hag) (wW.toL h).app
     |new b v =>
      have e1:goD call yld ops o.dst (evD P rsv call yld sz ops l) i f h past cl (.new b v)=bif dD ops i past then evD P rsv call yld sz ops l (i+1) (wG f o.dst (v h.n)) (h.push b) (⟨false,false,i,h,h.push b⟩::past) cl else .err "drawn a new block" := rfl
      rw[e1]at hok' hq';cases hb:dD ops i past with
      |false=>rw[hb]at hok';cases hok'
      |true =>
       rw[hb]at hok' hq';simp only[cond_true]at hok' hq';obtain⟨tr,g,hnew⟩:=ih (i+1) (wG f o.dst (v h.n)) (h.push b) (⟨false,false,i,h,h.push b⟩::past) cl (put a o.dst (v h.n)) (hput _) (λx hx=>by
        rcases List.mem_cons.1 hx with rfl|hx
        ·exact λ_=>⟨b,rfl⟩
        ·exact hp x hx) hok' hq'
       rw[mN]at g;have g':GD P N ops Q l (i+1) (put a o.dst (v h.n)) (toL h++[some b]) ((false,i,toL h,toL h++[some b])::past.map lB) (cl.map fX) tr:=by
        have:=g;simp only[List.map_cons,lB,mN]at this;exact this
       refine⟨_,.new (b:=b) hN hwt (λH1 H1' a' hag hpl=>?_) g',shift hnew (λ_ h=>List.mem_cons_of_mem _ h) (λ_ x hx hxc=>?_)⟩
       ·rw[xW]at hpl
        exact hop N a' H1 _ H1' (hagf hag) hpl
       ·have:=(List.all_eq_true.1 hb) x hx
        rw[hxc]at this;exact this
     |newR b v fp=>exact eff false (v h.n) (h.push b) hok' hq' λX a' hag hX _=>hop N a' _ _ _ (hagf hag) (wW.toL h).app (free1 hX).1
     |upd v A b =>
      obtain⟨⟨h1,h2⟩,h3⟩:=hop;refine eff false v (h.set A b) hok' hq' λX a' hag _ _=>?_;have:=h3 N a' (toL h++X) (hagf hag) (wW.toL h).app;rw[yBe,same,lS h1 h2];rwa [List.set_append_left _ _ (by rw[xW];exact h2)]at this
     |call g as0 =>
      have e1:goD call yld ops o.dst (evD P rsv call yld sz ops l) i f h past cl (.call g as0)=dY (λx=>rY ops o.dst (evD P rsv call yld sz ops l) true i f h past cl x.1 x.2) (call g as0 h):=rfl;rw[e1]at hok' hq';cases hcl:call g as0 h with
      |err s=>rw[hcl]at hok';cases hok'
      |two _ _=>rw[hcl]at hok';cases hok'
      |one x =>
       rw[hcl]at hok' hq';have hcc:=hc g as0 h (by rw[hcl];rfl);rw[hcl]at hcc;obtain⟨hen,hrun⟩:=hcc;have hrun':=hrun.mono (R':=λv H'=>v=x.1/\H'=toL x.2) λv H' ⟨y,hy,e1,e2⟩=>by cases hy;exact⟨e1,e2⟩
       exact eff true x.1 x.2 hok' hq' λX a' hag hX hD=>zNc (hD rfl) (λp b hb=>hD rfl _ b (by rw[List.getElem?_drop]at hb;exact hb)) (yBn hop (hagf hag) hen hrun')
     |yld A as0 =>
      have e1:goD call yld ops o.dst (evD P rsv call yld sz ops l) i f h past cl (.yld A as0)=dY (λx=>rY ops o.dst (evD P rsv call yld sz ops l) true i f h past cl x.1 x.2) (yld A as0 h):=rfl;rw[e1]at hok' hq';cases hcl:yld A as0 h with
      |err s=>rw[hcl]at hok';cases hok'
      |two _ _=>rw[hcl]at hok';cases hok'
      |one x =>
       rw[hcl]at hok' hq';have hcc:=hy A as0 h (by rw[hcl];rfl);rw[hcl]at hcc;obtain⟨d,hR⟩:=hcc;obtain⟨y,ys,ts,ho,hev⟩:=hop;have hR':dE P A d as0 (toL h) λr H2=>r=x.1/\H2=toL x.2:=by
        have:(λv H'=>∃y:Value × Hp,Mem y (Ou.one x)/\v=y.1/\H'=toL y.2)=λr H2=>r=x.1/\H2=toL x.2:=by
         funext v H'
         apply propext;exact⟨λ⟨y,hy,e1,e2⟩=>by cases hy;exact⟨e1,e2⟩,λ⟨e1,e2⟩=>⟨x,.one,e1,e2⟩⟩
        rwa [this]at hR
       refine eff true x.1 x.2 hok' hq' λX a' hag hX hD=>zNc (hD rfl) (λp b hb=>hD rfl _ b (by rw[List.getElem?_drop]at hb;exact hb)) ?_;obtain⟨z1,z2⟩:=hev a' (hagf hag);exact zZp y ys ts ho z1 z2 hR'
     |alts A l'=>cases hok'
end
end
end Go.Gh
end
section
set_option maxRecDepth 4000
namespace Go.Gh
open Go.RowKit
noncomputable section

def pF (r:wR):xR:=λe a H=>∃x,Mem x r/\x.1=e/\Sub (yI x.2.1) a/\H=toL x.2.2
theorem sub_self {f:Fm}:Sub (yI f) (yI f):=lN _ _ λt v h=>by rw[sY];exact h
theorem zGh {f:Fm}{a:AF}(h:∀t v,f.get t=some v->get a t=some v):Sub (yI f) a:=lN _ _ h
def zQz (sz fid:Nat)(c:Code):Prop:=∀t∈vQ c,vO fid=(t.1,t.2.1,t.2.2,sz)
def fC (P:Program)(ev:EvF):Prop:=∀fid sz ro c f h,(ev fid sz ro c f h).ok=true->∀N:Fr,N.sz=sz->(ro=false->N.n0.ro=none/\zQz sz fid c)->AWp P N c (pF (ev fid sz ro c f h)) (yI f) (toL h)
structure mB (P:Program)(ext:Cfg):Prop where
 orc:∀g x,ext.orc g=some x->∀o f h as0,yF P o f h (.call g as0)->yF P o f h (x as0)
 orb:∀g x,ext.orb g=some x->∀as0 h,(x as0 h).ok=true->xL P g=true/\Run P g as0 (toL h) λv H'=>∃y,Mem y (x as0 h)/\v=y.1/\H'=toL y.2
section
variable {P:Program} {N:Fr} {a:AF} {H:zI}
theorem pF.mono {r r':wR}(h:∀x,Mem x r->Mem x r'){e:Exit}{a:AF}{H:zI}:pF r e a H->pF r' e a H:=λ⟨x,h1,h2,h3,h4⟩=>⟨x,h x h1,h2,h3,h4⟩
theorem zSf :∀(as0:List Value) (k:Nat) (f:Fm) (t:Nat),(nO k as0 f).get t=if k<=t/\t<k+as0.length then as0[t-k]? else f.get t
 |[],k,f,t=>by rw[if_neg (by simp only[List.length_nil];omega)];rfl
 |v::r,k,f,t=>by
  unfold nO;rw[zSf r (k+1) _ t];by_cases h:k+1<=t/\t<k+1+r.length
  ·rw[if_pos h,if_pos (by simp;omega),show t-k=(t-(k+1))+1 by omega];rfl
  ·rw[if_neg h,Tri.get_set]
   by_cases e:t=k
   ·subst e;rw[if_pos rfl,if_pos (by simp),Nat.sub_self];rfl
   ·rw[if_neg e,if_neg (by simp;omega)]
theorem yGz :∀(vs:List Value) (k i:Nat) (v:Value),vs[i]?=some v->get (vY k vs) (k+i)=some v:=by
 intro vs
 induction vs with
 |nil=>intro k i v h;simp at h
 |cons u r ih =>
  intro k i v h;cases i with
  |zero=>simp only[List.getElem?_cons_zero,Option.some.injEq]at h;subst h;simp[vY,get]
  |succ i =>
   have:=ih (k+1) i v (by simpa using h);simp only[vY,get];rw[show Nat.beq k (k+(i+1))=false from by
    cases hq:Nat.beq k (k+(i+1))with
    |true=>have:=Nat.eq_of_beq_eq_true hq;omega
    |false=>rfl]
   rw[show k+(i+1)=k+1+i from by omega];exact this
theorem yPn (as0:List Value):Sub (yI (nO 0 as0 .e)) (vY 0 as0):=zGh λt v h=>by
 rw[zSf]at h;split at h
 ·have:=yGz as0 0 t v (by simpa using h)
  simpa using this
 ·cases h
theorem yIh {f:Fm}{h:Hp}{b:Nat}{T:TypeId}{v:Value}(e:zGr P f h b T=some v):∃A off n g,f.get b=some (zG A off n)/\h.get A=some g/\g.cells.length=n /\
  ((∃z s by',vM P T=some true/\yC P T=some (z,s,by')/\off+s<=g.cells.length/\v=.agg ((g.cells.drop off).take s).toArray)\/(vM P T=some false/\g.cells[off]?=some v)):=by
 unfold zGr dJ at e;split at e
 ·rename_i A off n hx
  split at e
  ·rename_i g hg
   obtain⟨h1,h2⟩:=qZ hg;refine⟨A,off,n,g,hx,h1,h2,?_⟩;unfold zCg at e;split at e
   ·rename_i hT
    unfold ofV at e;split at e
    ·rename_i u hu
     cases e;exact .inr ⟨hT,hu⟩
    ·cases e
   ·rename_i hT
    split at e
    ·rename_i z s by' hI
     cases hb:Nat.ble (off+s) g.cells.length with
     |false=>rw[hb]at e;cases e
     |true =>
      rw[hb]at e;simp only[cond_true]at e;unfold ofL at e;split at e
      ·rename_i l hl
       cases e;exact .inl ⟨z,s,by',hT,hI,xU.1 hb,by rw[<-(lR hl).1]⟩
      ·cases e
    ·cases e
   ·cases e
  ·cases e
 ·cases e
theorem yPt {f:Fm}{h:Hp}{a:AF}(hs:Sub (yI f) a):∀{rs:List ResultVar} {vs:List Value},oL P f h rs=some vs->oD P a (toL h) rs vs:=by
 have hg:∀{t v},f.get t=some v->get a t=some v:=λ{t v} e=>hs.get (by rw[sY];exact e);have cons:∀{v:Option Value} {r:Option (List Value)} {vs:List Value},cA v r=some vs->∃u us,v=some u/\r=some us/\vs=u::us:=by
  intro v r vs e;unfold cA at e;split at e
  ·cases e;exact⟨_,_,rfl,rfl,rfl⟩
  ·cases e
 intro rs
 induction rs with
 |nil=>intro vs e;cases e;trivial
 |cons x rs ih =>
  intro vs e;cases x with
  |tmp t =>
   obtain⟨u,us,h1,h2,rfl⟩:=cons e;exact⟨hg h1,ih h2⟩
  |cell b T =>
   obtain⟨u,us,h1,h2,rfl⟩:=cons e;obtain⟨A,off,n,g,k1,k2,k3,k4⟩:=yIh h1;exact⟨⟨A,off,n,g,hg k1,rT k2,k3,k4⟩,ih h2⟩
theorem yGn {sz fid:Nat}{fn:Func}{c:Code}(hL:∀d,vO d=sK P d)(hf:P.funcs[fid]?=some fn)(hb:fn.body=some c)(h1:Nat.ble (vQ c).length 1=true)(hsz:fn.ntmps=sz):zQz sz fid c:=by
 intro t ht;rw[hL];unfold sK;rw[hf];simp only[hb];have h1:=xU.1 h1
 match hr:vQ c,ht,h1 with
 |[x],ht,_ =>
  obtain rfl:=List.mem_singleton.1 ht;simp[hsz]
 |[],ht,_=>cases ht
theorem yCc {h:Hp}{r:Option (List Value)}{y:Value × Hp}:(lD h r).ok=true->∃vs,r=some vs/\lD h r=.one (tF vs,h):=by
 cases r with
 |none=>intro h;cases h
 |some vs=>intro _;exact⟨vs,rfl,rfl⟩
theorem zBg (hL:∀d,vO d=sK P d){ext:Cfg}(hX:mB P ext){ev:EvF}(hE:fC P ev):mR P (xH P ext ev):=by
 intro g as0 h hok;unfold xH at hok ⊢;cases horb:ext.orb g with
 |some x =>
  rw[horb]at hok;exact hX.orb g x horb as0 h hok
 |none =>
 rw[horb]at hok;have hok:(iO P ev g as0 h).ok=true:=hok;show xL P g=true/\Run P g as0 (toL h) λv H'=>∃x,Mem x (iO P ev g as0 h)/\v=x.1/\H'=toL x.2;have hok0:=hok;unfold iO at hok;split at hok
 ·cases hok
 rename_i fn hfn;unfold zKe at hok;split at hok
 ·cases hok
 rename_i c hb;have e0:iO P ev g as0 h=bif Nat.ble as0.length fn.ntmps && xL P g && Nat.ble (vQ c).length 1 then(ev g fn.ntmps false c (nO 0 as0 .e) h).bind (fM P fn.results.toList)else .err "entry" := by
  unfold iO;rw[hfn];simp only[hb];rfl
 rw[e0];rw[e0]at hok0;cases hc:Nat.ble as0.length fn.ntmps && xL P g && Nat.ble (vQ c).length 1 with
 |false=>rw[hc]at hok0;cases hok0
 |true =>
  rw[hc]at hok0;simp only[cond_true]at hok0 ⊢;simp only[Bool.and_eq_true]at hc;obtain⟨⟨c1,c2⟩,c3⟩:=hc;refine⟨c2,eL hfn hb c1 λ_=>?_⟩;obtain⟨q1,q2⟩:=sQ hok0;refine AWp.mono (AWp.sub (hE g fn.ntmps false c (nO 0 as0 .e) h q1 ⟨fn.ntmps,⟨(toL h).length,none⟩⟩ rfl λ_=>⟨rfl,yGn hL hfn hb c3 rfl⟩) (yPn as0)) ?_;rintro e a H ⟨x,hx,rfl,hs,rfl⟩;have hx2:=q2 x hx;have fin:(lD x.2.2 (oL P x.2.1 x.2.2 fn.results.toList)).ok=true->fM P fn.results.toList x=lD x.2.2 (oL P x.2.1 x.2.2 fn.results.toList) ->
    ∃vs,oD P a (toL x.2.2) fn.results.toList vs/\∃vs2 H2,oX ⟨vs.length,⟨(toL h).length,none⟩⟩ (vY 0 vs) (toL x.2.2) (vY 0 vs2) H2/\vs2.length=vs.length /\
     (λv H'=>∃y,Mem y ((ev g fn.ntmps false c (nO 0 as0 .e) h).bind (fM P fn.results.toList))/\v=y.1/\H'=toL y.2) (tF vs2) H2:=λh1 h2=>by
   obtain⟨vs,h3,h4⟩:=yCc (y:=(undef,x.2.2)) h1;exact⟨vs,yPt hs h3,vs,toL x.2.2,gD,rfl,(tF vs,x.2.2),rU.2 ⟨x,hx,by rw[h2,h4];exact .one⟩,rfl,rfl⟩
  obtain⟨e,f',h'⟩:=x;cases e with
  |normal=>exact fin hx2 rfl
  |ret=>exact fin hx2 rfl
  |_=>cases hx2
theorem zHe :∀{l:List Value} {b:List (Nat × Value)},lC l=some b->l=b.flatMap λx=>[.int .i64 (x.1:Int),x.2]
 |[],b,h=>by cases h;rfl
 |[_],b,h=>by unfold lC at h;split at h <;> rename_i e <;> first|(cases e;done)|cases h
 |x::v::r,b,h=>by
  unfold lC at h;split at h
  ·rename_i e;cases e
  ·rename_i t v' r' e
   cases e;split at h
   ·rename_i l hl
    cases h;rw[zHe hl];rfl
   ·cases h
  ·cases h
theorem cC {b:Option Blk}{st:Int}{d:Nat}{pj:Value}{rest:List Value}(h:lH b=some (st,d,pj,rest)):b=some ⟨.int .i64 st::.int .i64 (d:Int)::pj::rest,false⟩:=by
 unfold lH at h;split at h
 ·cases h;rfl
 ·cases h
theorem zFx {st want:Int}{pj:Value}(h:mW st pj want=true):st=want/\pj=.int .i64 0:=by
 unfold mW at h;split at h
 ·rw[Bool.and_eq_true,rS,rS]at h
  exact⟨of_decide_eq_true h.1,by rw[of_decide_eq_true h.2]⟩
 ·cases h
theorem zGi {l:List Value}(h:nH l=true):∃b:List (Nat × Value),l=b.flatMap λx=>[.int .i64 (x.1:Int),x.2]:=by
 unfold nH at h;split at h
 ·rename_i b hb;exact⟨b,zHe hb⟩
 ·cases h
theorem zFg :∀(y z:AF) (t:Nat),get (y++z) t=match get y t with|some v=>some v|none=>get z t
 |[],_,_=>rfl
 |(k,u)::y,z,t=>by
  have ih:=zFg y z t;show(bif Nat.beq k t then some u else get (y++z) t)=match (bif Nat.beq k t then some u else get y t)with|some v=>some v|none=>get z t
  cases Nat.beq k t with
  |true=>rfl
  |false=>exact ih
theorem zFb :∀(l:List (Nat × Value)) (f:Fm) (t:Nat),(sF l f).get t=match get l.reverse t with|some v=>some v|none=>f.get t
 |[],f,t=>rfl
 |x::r,f,t=>by
  unfold sF;rw[zFb r];rw[List.reverse_cons,zFg];cases hg:get r.reverse t with
  |some v=>rfl
  |none =>
   simp only;obtain⟨k,u⟩:=x;rw[Tri.get_set];unfold get;by_cases e:t=k
   ·subst e;rw[if_pos rfl,Nat.beq_refl];rfl
   ·rw[if_neg e,show Nat.beq k t=false from by
     cases hq:Nat.beq k t with
     |true=>exact absurd (Nat.eq_of_beq_eq_true hq).symm e
     |false=>rfl]
    rfl
theorem zMf :∀(l:List (Nat × Value)) (b:AF) (t:Nat),get (pS b l) t=get (l.reverse++b) t
 |[],b,t=>rfl
 |x::r,b,t=>by
  obtain⟨k,u⟩:=x;unfold pS;rw[zMf r,List.reverse_cons,List.append_assoc];rfl
theorem yKo (hL:∀d,vO d=sK P d){ev:EvF}(hE:fC P ev):aL P (vI P ev):=by
 intro A as0 h hok;have hok0:=hok;unfold vI at hok;split at hok
 rotate_left
 ·cases hok
 rename_i st d pj rest hl;have hA:=cC hl;cases hrd:mW st pj 0 with
 |false=>rw[hrd]at hok;cases hok
 |true =>
  rw[hrd]at hok;simp only[cond_true]at hok;obtain⟨rfl,rfl⟩:=zFx hrd;unfold zCt at hok;split at hok
  ·cases hok
  rename_i b hb;have hbb:=zHe hb;subst hbb;unfold goY at hok;generalize hlt:sK P d=lt at hok;obtain⟨ps,as',bd,sz⟩:=lt;simp only at hok;have e0:vI P ev A as0 h=bif Nat.beq as0.length ps.toList.length && ps.toList.all (λt=>Nat.blt t sz) && Nat.blt A h.n then(ev d sz true as' (sF (ps.toList.zip as0) (sF b.reverse .e)) h).bind (gR ev A d sz bd)else .err "yield arguments" := by
   unfold vI;rw[hl];simp only;rw[hrd];simp only[cond_true];rw[hb];unfold zCt goY;rw[hlt]
  rw[e0];cases hc:Nat.beq as0.length ps.toList.length && ps.toList.all (λt=>Nat.blt t sz) && Nat.blt A h.n with
  |false=>rw[hc]at hok;cases hok
  |true =>
   rw[hc]at hok;simp only[cond_true]at hok ⊢;simp only[Bool.and_eq_true,yP,xS]at hc;obtain⟨⟨c1,c2⟩,c3⟩:=hc;obtain⟨q1,q2⟩:=sQ hok;refine⟨(d:Int),by omega,b,ps,as',bd,sz,rT hA,by rw[Int.toNat_natCast,hL];exact hlt,by rw[c1];simp,λt ht=>xS.1 ((List.all_eq_true.1 c2) t ht),λl=>?_⟩;refine AWp.mono (AWp.sub (hE d sz true as' (sF (ps.toList.zip as0) (sF b.reverse .e)) h q1 ⟨sz,⟨(toL h).length,some l⟩⟩ rfl (λhh=>by cases hh)) ?_) ?_
   ·refine zGh λt v hv=>?_
    rw[zMf,zFg];rw[zFb]at hv;cases hg:get (ps.toList.zip as0).reverse t with
    |some u=>rw[hg]at hv;exact hv
    |none =>
     rw[hg]at hv;simp only at hv ⊢;rw[zFb,List.reverse_reverse]at hv;cases hg2:get b t with
     |some u=>rw[hg2]at hv;exact hv
     |none=>rw[hg2]at hv;cases hv
   ·rintro e a1 H1 ⟨x,hx,rfl,hs,rfl⟩
    have hx2:=q2 x hx;have hmem:∀y,Mem y (gR ev A d sz bd x)->Mem y ((ev d sz true as' (sF (ps.toList.zip as0) (sF b.reverse .e)) h).bind (gR ev A d sz bd)):=λy hy=>rU.2 ⟨x,hx,hy⟩;generalize (ev d sz true as' (sF (ps.toList.zip as0) (sF b.reverse .e)) h).bind (gR ev A d sz bd)=full at hmem ⊢;obtain⟨e,f1,h1⟩:=x;cases e with
    |normal =>
     have e1:gR ev A d sz bd (.normal,f1,h1)=zGc ev A d sz bd f1 h1:=rfl;rw[e1]at hx2 hmem;unfold zGc at hx2 hmem;split at hx2
     rotate_left
     ·cases hx2
     rename_i st1 d1 pj1 rest1 hl1;have hA1:=cC hl1;rw[hl1]at hmem;simp only at hmem;cases hc1:Nat.beq d d1 && mW st1 pj1 0 && nH rest1 with
     |false=>rw[hc1]at hx2;cases hx2
     |true =>
      rw[hc1]at hx2 hmem;simp only[cond_true]at hx2 hmem;simp only[Bool.and_eq_true,yP]at hc1;obtain⟨⟨rfl,k1⟩,k2⟩:=hc1;obtain⟨rfl,rfl⟩:=zFx k1;obtain⟨b1,rfl⟩:=zGi k2;obtain⟨q3,q4⟩:=sQ hx2;have hset:toL (h1.set A (gN 1 d (.int .i64 0) (b1.flatMap λx=>[.int .i64 (x.1:Int),x.2])))=(toL h1).set A (some ⟨yX 1 d (.int .i64 0) b1,false⟩):=by
       rw[lS (dI hA1 rfl) (qT hA1)];rfl
      refine⟨b1,rT hA1,?_⟩;rw[<-hset];refine AWp.mono (AWp.sub (hE d sz true bd f1 _ q3 ⟨sz,⟨(toL h).length,some l⟩⟩ rfl (λhh=>by cases hh)) hs) ?_;rintro e2 a2 H2 ⟨x2,hx3,rfl,hs2,rfl⟩;have hx4:=q4 x2 hx3;have hmem2:∀y,Mem y (zEm A d x2)->Mem y full:=λy hy=>hmem y (rU.2 ⟨x2,hx3,hy⟩);unfold zEm at hx4 hmem2;split at hx4
      rotate_left
      ·cases hx4
      rename_i st2 d2 pj2 rest2 hl2;have hA2:=cC hl2;rw[hl2]at hmem2;simp only at hmem2;cases hc2:Nat.beq d d2 && mW st2 pj2 1 && nH rest2 with
      |false=>rw[hc2]at hx4;cases hx4
      |true =>
       rw[hc2]at hx4 hmem2;simp only[cond_true]at hx4 hmem2;simp only[Bool.and_eq_true,yP]at hc2;obtain⟨⟨rfl,k3⟩,k4⟩:=hc2;obtain⟨rfl,rfl⟩:=zFx k3;obtain⟨b2,rfl⟩:=zGi k4;refine⟨b2,rT hA2,?_⟩;have hset2:∀(s:Int) (p:Value),(toL x2.2.2).set A (some ⟨yX s d p b2,false⟩)=toL (x2.2.2.set A (gN s d p (b2.flatMap λx=>[.int .i64 (x.1:Int),x.2]))):=λs p=>by
        rw[lS (dI hA2 rfl) (qT hA2)];rfl
       obtain⟨e2,f2,h2⟩:=x2;cases e2 with
       |normal=>exact⟨_,hmem2 _ .one,rfl,hset2 _ _⟩
       |ret=>exact⟨_,hmem2 _ .one,rfl,hset2 _ _⟩
       |exit id=>exact⟨_,hmem2 _ .one,rfl,hset2 _ _⟩
       |_=>cases hx4
    |_=>cases hx2
theorem zAq :∀(f:Fm) (n:Nat),∀x∈rZ f n,x.1<n
 |f,0,x,h=>by cases h
 |f,n+1,x,h=>by
  unfold rZ at h;split at h
  ·rcases List.mem_cons.1 h with rfl|h
   ·exact Nat.lt_succ_self _
   ·exact Nat.lt_succ_of_lt (zAq f n x h)
  ·exact Nat.lt_succ_of_lt (zAq f n x h)
theorem yOq (hL:∀d,vO d=sK P d){ext:Cfg}(hX:mB P ext){ev:EvF}(hE:fC P ev){fid sz:Nat}{g:Operand}{ps:Array Tmp}{as0 bd:Code}{f:Fm}{h:Hp}(hok:(iK P ext ev fid sz f h (xB f g)).ok=true)(hsz:N.sz=sz)(hro:N.n0.ro=none)(hlt:vO fid=(ps,as0,bd,sz)) :
  AWp P N (.rangeFunc g ps as0 bd) (pF (iK P ext ev fid sz f h (xB f g))) (yI f) (toL h):=by
 subst hsz;cases hx:xB f g with
 |none=>rw[hx]at hok;cases hok
 |some u =>
  rw[hx]at hok;unfold iK at hok ⊢;split at hok
  rotate_left
  ·cases hok
  rename_i g' us vs e0;cases e0;cases hen:xL P g' with
  |false=>rw[hen]at hok;cases hok
  |true =>
   rw[hen]at hok;simp only[cond_true]at hok ⊢;obtain⟨q1,q2⟩:=sQ hok;obtain⟨_,hrun⟩:=zBg hL hX hE g' _ _ q1;have hpl:=Place.app (toL h) (⟨yX 0 fid (.int .i64 0) (rZ f N.sz),false⟩:Blk);rw[<-mN,xW]at hpl;refine zTo hro (lY hx) hen hlt (lN _ _ λt v hv=>by rw[sY];exact hv) (zAq f N.sz) hpl hrun ?_;rintro r H2 ⟨x,hx2,rfl,rfl⟩;have hx3:=q2 x hx2;have hmem:∀y,Mem y (eG fid h.n f x)->Mem y ((xH P ext ev g' (us.toList++[.chan (some h.n)]++vs.toList) (h.push ⟨yX 0 fid (.int .i64 0) (rZ f N.sz),false⟩)).bind (eG fid h.n f)):=λy hy=>rU.2 ⟨x,hx2,hy⟩;generalize ((xH P ext ev g' (us.toList++[.chan (some h.n)]++vs.toList) (h.push ⟨yX 0 fid (.int .i64 0) (rZ f N.sz),false⟩)).bind (eG fid h.n f))=full at hmem ⊢;unfold eG at hx3 hmem;split at hx3
   rotate_left
   ·cases hx3
   rename_i st d pj rest hl;have hA:=cC hl;rw[hl]at hmem;simp only at hmem;cases hc:Nat.beq d fid && (eqI st 0 || eqI st 2) && nH rest with
   |false=>rw[hc]at hx3;cases hx3
   |true =>
    rw[hc]at hx3 hmem;simp only[cond_true]at hx3 hmem;simp only[Bool.and_eq_true,Bool.or_eq_true,yP,rS,decide_eq_true_eq]at hc;obtain⟨⟨rfl,k1⟩,k2⟩:=hc;obtain⟨b2,rfl⟩:=zGi k2;unfold zQd at hx3 hmem;split at hx3
    ·rename_i e hj
     rw[hj]at hmem;refine⟨st,pj,b2,e,rT hA,k1,hj,_,hmem _ .one,rfl,sub_self,?_⟩;simp only;rw[lS (dI hA rfl) (qT hA)];rfl
    ·cases hx3
theorem zWj {ext:Cfg}{ev:EvF}(hC:mR P (xH P ext ev)){o:Oper}{f:Fm}{h:Hp}{g:FuncId}{as0:List Value}(hop:yF P o f h (.call g as0))(has:as0.all yB=true):yF P o f h (zHh (xH P ext ev g as0 .none)):=by
 unfold zHh;split
 ·rename_i x hx
  refine yN λhcx=>?_;intro N a' H hag _;obtain⟨hen,hrun⟩:=hC g as0 .none (by rw[hx];rfl);refine⟨λB0 w0 φ w ac hr hf=>.inr (.inl ?_)⟩;obtain⟨vs,h1,h2⟩:=hop N a' φ (lens H) ac hag hf;refine⟨g,vs,by rw[h2];exact uU hen vs w,?_⟩;have hv0:yM φ.bare (lens (toL Hp.none)) as0 vs:=by
   refine⟨h1.size,λi v hi=>?_⟩;obtain⟨v',g1,g2⟩:=h1.get i v hi;have hcv:=(List.all_eq_true.1 has) v (List.mem_of_getElem? hi);have:=Val.det hcv g2;subst this;exact⟨v',g1,Val.const hcv⟩
  have hl:=hr.locked;have hr0:Rel w.heap.size w φ.bare (toL Hp.none) w:=⟨hl.below,hl.b0,λA g hA=>by rw[aA]at hA;simp at hA,λA g hA=>by rw[aA]at hA;simp at hA,λA A' g g' hA=>by rw[aA]at hA;simp at hA,hl.gw,hl.mks⟩;unfold Run at hrun;refine(hrun w.heap.size w φ.bare (lens (toL Hp.none)) φ.bare w vs (.refl _ _) hr0 hv0).mono ?_;rintro e w' ⟨φ',r,H',v',g1,g2,rfl,g4,y,hy,rfl,rfl⟩;rw[hx]at hy;cases hy;have hd:=Val.det hcx g4;subst hd;exact⟨φ,_,.refl _ _,hr.later g2.below,rfl,Val.const hcx⟩
 ·exact trivial
theorem zXl {k:Nat}{x:Value × Hp}{y:kJ}(h:gL k x=.blk y):∃A g,x.1=.slice (some ⟨A,y.off,some y.n⟩) y.len y.fl/\x.2.get A=some g/\k<=A/\g.cells=y.cells/\g.cells.all yB=true/\g.ro.b=false/\y.n=g.cells.length:=by
 unfold gL at h;split at h
 ·rename_i A off n len fl hx
  split at h
  ·rename_i g hg
   cases hk:Nat.ble k A with
   |false=>rw[hk]at h;cases h
   |true =>
    rw[hk]at h;simp only[cond_true]at h;unfold zBm at h;cases hc:g.cells.all yB && !g.ro.b && Nat.beq n g.cells.length with
    |false=>rw[hc]at h;cases h
    |true =>
     rw[hc]at h;simp only[Bool.and_eq_true,Bool.not_eq_true',yP]at hc;cases h;exact⟨A,g,hx,hg,xU.1 hk,rfl,hc.1.1,hc.1.2,hc.2⟩
  ·cases h
 ·rename_i v hv
  cases hc:yB x.1 with
  |false=>rw[hc]at h;cases h
  |true=>rw[hc]at h;cases h
theorem yMd {k:Nat}{x:Value × Hp}{v:Value}(h:gL k x=.cst v):x.1=v/\yB v=true:=by
 unfold gL at h;split at h
 ·split at h
  ·cases hk:Nat.ble k _ with
   |false=>rw[hk]at h;cases h
   |true =>
    rw[hk]at h;simp only[cond_true]at h;unfold zBm at h;rename_i g _;cases hc:g.cells.all yB && !g.ro.b && Nat.beq _ g.cells.length with
    |false=>rw[hc]at h;cases h
    |true=>rw[hc]at h;cases h
  ·cases h
 ·cases hc:yB x.1 with
  |false=>rw[hc]at h;cases h
  |true=>rw[hc]at h;cases h;exact⟨rfl,hc⟩
theorem yDi {x y:kJ}(h:lW x y=true):x=y:=by
 obtain⟨a1,a2,a3,a4,a5⟩:=x;obtain⟨b1,b2,b3,b4,b5⟩:=y;unfold lW at h;simp only[Bool.and_eq_true,yP]at h;obtain⟨⟨⟨⟨rfl,rfl⟩,rfl⟩,rfl⟩,h5⟩:=h;rw[nU (zDg 1) h5]
theorem zBc {k:Nat}:∀{r:Ou (Value × Hp)} {y:kJ},pA k r=.blk y->r.ok=true/\∀x,Mem x r->gL k x=.blk y
 |.err _,y,h=>by cases h
 |.one x,y,h=>⟨rfl,λx' hx=>by cases hx;exact h⟩
 |.two a b,y,h=>by
  unfold pA zEh at h;split at h
  ·rename_i x1 x2 h1 h2
   cases hs:lW x1 x2 with
   |false=>rw[hs]at h;cases h
   |true =>
    rw[hs]at h;cases h;have:=yDi hs;subst this;obtain⟨p1,p2⟩:=zBc h1;obtain⟨p3,p4⟩:=zBc h2;refine⟨by unfold Ou.ok;rw[p1,p3];rfl,λx hx=>?_⟩;cases hx with
    |l hx=>exact p2 x hx
    |r hx=>exact p4 x hx
  ·cases h
theorem yLh {k:Nat}:∀{r:Ou (Value × Hp)} {v:Value},pA k r=.cst v->∃x,r=.one x/\gL k x=.cst v
 |.err _,v,h=>by cases h
 |.one x,v,h=>⟨x,rfl,h⟩
 |.two a b,v,h=>by
  unfold pA zEh at h;split at h
  ·cases hs:lW _ _ with
   |false=>rw[hs]at h;cases h
   |true=>rw[hs]at h;cases h
  ·cases h
theorem zKz {φ:Fi}{L L':zP}{h:Hp}(hL:∀A b n,h.get A=some b->L A=some n->L' A=some n):∀(m:Nat) {v u:Value},wU h m v=true->Val φ L v u->Val φ L' v u:=by
 have has:∀{A},pG h A=true->∃b,h.get A=some b:=λ{A} e=>Option.isSome_iff_exists.1 e;have key:∀(m:Nat),(∀m'<m,∀{v u:Value},wU h m' v=true->Val φ L v u->Val φ L' v u)->∀{v u:Value},wU h m v=true->Val φ L v u->Val φ L' v u:=by
  intro m ih v u hc hv;have arr:∀{m':Nat} {a b:Array Value},m'<m->a.toList.all (wU h m')=true->a.size=b.size->(∀i (h:i<a.size) (h':i<b.size),Val φ L a[i] b[i])->∀i (h:i<a.size) (h':i<b.size),Val φ L' a[i] b[i]:=by
   intro m' a b hm ha _ h2 i hi hi';exact ih m' hm ((List.all_eq_true.1 ha) a[i] (Array.mem_toList_iff.2 (Array.getElem_mem hi))) (h2 i hi hi')
  cases hv with
  |bool b=>exact .bool b
  |int k n=>exact .int k n
  |str s=>exact .str s
  |pnil=>exact .pnil
  |snil=>exact .snil
  |mnil=>exact .mnil
  |fnil=>exact .fnil
  |inil=>exact .inil
  |ptr A o v n c h1 h2 h3 =>
   obtain⟨b,hb⟩:=has (A:=A) (by unfold wU at hc;exact hc);exact .ptr A o v n c (hL A b n hb h1) h2 h3
  |slc A o v n len fl cap c h1 h2 h3 h4 h5 =>
   obtain⟨b,hb⟩:=has (A:=A) (by unfold wU at hc;exact hc);exact .slc A o v n len fl cap c (hL A b n hb h1) h2 h3 h4 h5
  |sdead c cap hm=>exact .sdead c cap hm
  |full A o v n len c h1 h2 h3 h4 =>
   obtain⟨b,hb⟩:=has (A:=A) (by
    have e:wU h m (.slice (some ⟨A,o,none⟩) len (v+1))=pG h A:=by
     unfold wU;cases A <;> cases o <;> cases len <;> rfl
    rw[<-e];exact hc)
   exact .full A o v n len c (hL A b n hb h1) h2 h3 h4
  |map A n r h1 h2 =>
   obtain⟨b,hb⟩:=has (A:=A) (by unfold wU at hc;exact hc);exact .map A n r (hL A b n hb h1) h2
  |yld A n r h1 h2 =>
   obtain⟨b,hb⟩:=has (A:=A) (by unfold wU at hc;exact hc);exact .yld A n r (hL A b n hb h1) h2
  |itr A n r h1 h2 =>
   obtain⟨b,hb⟩:=has (A:=A) (by unfold wU at hc;exact hc);exact .itr A n r (hL A b n hb h1) h2
  |bag A n r h1 h2 =>
   obtain⟨b,hb⟩:=has (A:=A) (by unfold wU at hc;exact hc);exact .bag A n r (hL A b n hb h1) h2
  |func f a b c d h1 h2 h3 h4 =>
   cases m with
   |zero=>cases hc
   |succ m =>
    unfold wU at hc;rw[Bool.and_eq_true]at hc;exact .func f a b c d h1 (arr (Nat.lt_succ_self m) hc.1 h1 h2) h3 (arr (Nat.lt_succ_self m) hc.2 h3 h4)
  |iface t v v' h1 =>
   cases m with
   |zero=>cases hc
   |succ m=>exact .iface t v v' (ih m (Nat.lt_succ_self m) (by unfold wU at hc;exact hc) h1)
  |agg a b h1 h2 =>
   cases m with
   |zero=>cases hc
   |succ m=>exact .agg a b h1 (arr (Nat.lt_succ_self m) (by unfold wU at hc;exact hc) h1 h2)
  |tuple a b h1 h2 =>
   cases m with
   |zero=>cases hc
   |succ m=>exact .tuple a b h1 (arr (Nat.lt_succ_self m) (by unfold wU at hc;exact hc) h1 h2)
 intro m
 induction m using Nat.strongRecOn with
 |_ m ih=>exact key m ih
theorem zTj {h:Hp}{H:zI}(hall:wW h H):∀A b n,h.get A=some b->lens H A=some n->lens (toL h) A=some n:=λA b n hb hn=>by
 rw[wH (hall A b hb)]at hn;rw[wH (rT hb)];exact hn
theorem zYn {B0:Nat}{w0:World}{φ:Fi}{w:World}{h:Hp}{H:zI}(hr:Rel B0 w0 φ H w)(hall:wW h H)(hc:eY h=true):Rel B0 w0 φ (toL h) w:=by
 refine⟨hr.below,hr.b0,λA g hA=>?_,λA g hA=>hr.own A g (hall A g (aV hA)),λA A' g g' hA hro hA'=>hr.inj A A' g g' (hall A g (aV hA)) hro (hall A' g' (aV hA')),hr.gw,hr.mks⟩;have hg:=aV hA;obtain⟨o,c,h1,h2,h3,h4⟩:=(hr.blk A g (hall A g hg)).any;refine⟨o,c,h1,h2,h3,λi v hi=>?_⟩;obtain⟨v',g1,g2⟩:=h4 i v hi;refine⟨v',g1,zKz (zTj hall) 4 ?_ g2⟩;have:=(List.all_eq_true.1 hc) A (List.mem_range.2 (qT hg));rw[hg]at this;exact(List.all_eq_true.1 this) v (List.mem_of_getElem? hi)
theorem zOh {ext:Cfg}{ev:EvF}(hC:mR P (xH P ext ev)){o:Oper}{f:Fm}{h:Hp}{g:FuncId}{as0:List Value}(hop:yF P o f h (.call g as0))(hok:(xH P ext ev g as0 h.shut).ok=true)(hcl:eY h=true)(has:as0.all (wU h 4)=true){a':AF}{H:zI}(hag:Ag o (yI f) a')(hall:wW h H)
  {B0:Nat} {w0:World} {φ:Fi} {w:World} {ac:Act} (hr:Rel B0 w0 φ H w) (hf:xA φ (lens H) N a' ac) :
  ∃vs,(execOp ac.eval o).run P w=.ok (.enter g vs) w/\Calls P g vs w λe w'=>∃φ' x v',Mem x (xH P ext ev g as0 h.shut)/\Rel w.heap.size w φ' (toL x.2) w'/\e=.returned v'/\Val φ' (lens (toL x.2)) x.1 v':=by
 obtain⟨hen,hrun⟩:=hC g as0 h.shut hok;obtain⟨vs,h1,h2⟩:=hop N a' φ _ ac hag hf;refine⟨vs,by rw[h2];exact uU hen vs w,?_⟩;have hr0:=(zYn hr hall hcl).locked;rw[<-kK]at hr0;have h1':yM φ (lens (toL h)) as0 vs:=⟨h1.size,λi v hi=>by
  obtain⟨v',g1,g2⟩:=h1.get i v hi;exact⟨v',g1,zKz (zTj hall) 4 ((List.all_eq_true.1 has) v (List.mem_of_getElem? hi)) g2⟩⟩
 have hv:yM φ.bare (lens (toL h.shut)) as0 vs:=by
  rw[kK,kC];exact h1'.bare
 unfold Run at hrun;refine(hrun w.heap.size w φ.bare (lens (toL h.shut)) φ.bare w vs (.refl _ _) hr0 hv).mono ?_;rintro e w' ⟨φ',r,H',v',g1,g2,rfl,g4,y,hy,rfl,rfl⟩;exact⟨φ',y,v',hy,g2,rfl,g4⟩
theorem yIx {ext:Cfg}{ev:EvF}(hC:mR P (xH P ext ev)){o:Oper}{f:Fm}{h:Hp}{g:FuncId}{as0:List Value}(hop:yF P o f h (.call g as0))(hcl:eY h=true)(has:as0.all (wU h 4)=true):yF P o f h (zSg (pA h.n (xH P ext ev g as0 h.shut))):=by
 cases hk:pA h.n (xH P ext ev g as0 h.shut)with
 |no=>exact trivial
 |cst v =>
  obtain⟨x,hx,hxk⟩:=yLh hk;obtain⟨hx1,hcv⟩:=yMd hxk;intro N a' H hag hall;refine⟨λB0 w0 φ w ac hr hf=>.inr (.inl ?_)⟩;obtain⟨vs,h1,h2⟩:=zOh hC hop (by rw[hx];rfl) hcl has hag hall hr hf;refine⟨g,vs,h1,h2.mono ?_⟩;rintro e w' ⟨φ',y,v',hy,k2,rfl,k4⟩;rw[hx]at hy;cases hy;rw[hx1]at k4;have:=Val.det hcv k4;subst this;exact⟨φ,_,.refl _ _,hr.later k2.below,rfl,Val.const hcv⟩
 |blk y =>
  obtain⟨hok,hall0⟩:=zBc hk;obtain⟨yo,yn,yl,yf,yc⟩:=y;intro N a' H A0 H' hag hall hpl;refine⟨λB0 w0 φ w ac hr hf=>.inr (.inl ?_)⟩;obtain⟨vs,h1,h2⟩:=zOh hC hop hok hcl has hag hall hr hf;refine⟨g,vs,h1,h2.mono ?_⟩;rintro e w' ⟨φ3,x,v',hx,k2,rfl,k4⟩;obtain⟨A,gb,e1,e2,e3,e4,e5,e6,e7⟩:=zXl (hall0 x hx);have hgA:=rT e2;obtain⟨hown,hbase⟩:=k2.own A gb hgA e6;simp only at e1 e4 e7 hpl;rw[e1]at k4;generalize hvv:v'=u at k4;cases k4 with
  |slc _ _ _ n _ _ cap c hL hle hc hm hh =>
   rw[wH hgA]at hL;simp only[Option.some.injEq]at hL;obtain⟨z1,z2,z3⟩:=hh (by omega);obtain⟨cc,T,fz,q1,q2,q3,q4,q5,q6⟩:=(k2.blk A gb hgA).exT z3;obtain⟨x1,x2⟩:=yJg hr k2.below hpl (l0:=φ3 A) hown hbase λhext=>by
    refine⟨_,cc,q1,.cells z3 q2 (λ_=>q4 e6) (by nofun),by show(φ3 A).base+yc.length<=cc.size;rw[<-e4];exact q3,λi v hi=>?_⟩;have hi':gb.cells[i]?=some v:=by rw[e4];exact hi
    obtain⟨v2,p1,p2⟩:=q5 i v hi';have hcv:=(List.all_eq_true.1 e5) v (List.mem_of_getElem? hi');have:=Val.det hcv p2;subst this;exact⟨_,p1,Val.const hcv⟩
   refine⟨_,_,x1,x2,rfl,?_⟩;refine .slc A0 yo yn yc.length _ _ cap c hpl.lens (by rw[e7,e4];exact Nat.le_refl _) hc hm λ_=>?_;rw[yU];exact⟨z1,z2,z3⟩
theorem zNg {ext:Cfg}(hX:mB P ext){ev:EvF}(hC:mR P (xH P ext ev)):zEk P (qG P ext ev):=by
 intro o f h r hr;unfold qG;split
 ·rename_i g as0
  unfold runO;split
  ·rename_i x hx
   exact hX.orc g x hx o f h as0 hr
  ·unfold runW
   split
   ·exact hr
   ·refine yN λhc=>?_
    rw[Bool.and_eq_true]at hc;exact yIx hC hr hc.1 hc.2
   ·exact yN λhas=>zWj hC hr has
 ·exact hr
theorem yKs {ext:Cfg}{ev:EvF}(hC:mR P (xH P ext ev))(hY:aL P (vI P ev))(hX:mB P ext){sz:Nat}(hsz:N.sz=sz){id:Nat}{ops:Array Oper}{d:Bool}{f:Fm}{h:Hp}(hok:(fN P ext ev sz ops f h d).ok=true) :
  AWp P N (.region id ops d) (pF (fN P ext ev sz ops f h d)) (yI f) (toL h):=by
 unfold fN at hok ⊢;cases d with
 |false =>
  simp only[cond_false]at hok ⊢;exact kP (yHi hC hY (zNg hX hC) hsz _ _ _ hok λx hx=>⟨x,hx,rfl,sub_self,rfl⟩)
 |true =>
  simp only[cond_true]at hok ⊢;cases hc:tH ops && P.follows .mixedOrders with
  |false=>rw[hc]at hok;cases hok
  |true =>
   rw[hc]at hok;simp only[cond_true]at hok ⊢;rw[Bool.and_eq_true]at hc;have hnorm:∀(l:List Oper) (i:Nat) (f:Fm) (h:Hp) (past:List Pst) (cl:List Clm) (x:Exit × Fm × Hp),Mem x (evD P (qG P ext ev) (xH P ext ev) (vI P ev) sz ops l i f h past cl)->x.1=.normal:=by
    intro l
    induction l with
    |nil=>intro i f h past cl x hx;cases hx;rfl
    |cons o l ih =>
     intro i f h past cl x hx;have e0:evD P (qG P ext ev) (xH P ext ev) (vI P ev) sz ops (o::l) i f h past cl=bif uM sz o then stD P (qG P ext ev) (xH P ext ev) (vI P ev) ops o (evD P (qG P ext ev) (xH P ext ev) (vI P ev) sz ops l) i f h past cl (wanted ops.toList f o)else .err "slot" := rfl
     rw[e0]at hx;cases hd:uM sz o with
     |false=>rw[hd]at hx;cases hx
     |true =>
      rw[hd]at hx;simp only[cond_true]at hx;cases hw:wanted ops.toList f o with
      |none=>rw[hw]at hx;cases hx
      |some b =>
       rw[hw]at hx;cases b with
       |false=>exact ih _ _ _ _ _ x hx
       |true =>
        have hx':Mem x (goD (xH P ext ev) (vI P ev) ops o.dst (evD P (qG P ext ev) (xH P ext ev) (vI P ev) sz ops l) i f h past cl (qG P ext ev h (tG P f h o.op))):=hx;generalize qG P ext ev h (tG P f h o.op)=r at hx';have eff:∀(c:Bool) (v:Value) (h':Hp),Mem x (rY ops o.dst (evD P (qG P ext ev) (xH P ext ev) (vI P ev) sz ops l) c i f h past cl v h')->x.1=.normal:=by
         intro c v h' hm;unfold rY at hm;cases he:bM ops i h past cl h' with
         |false=>rw[he]at hm;cases hm
         |true=>rw[he]at hm;exact ih _ _ _ _ _ x hm
        have one:∀(r:Ou (Value × Hp)),Mem x (dY (λx=>rY ops o.dst (evD P (qG P ext ev) (xH P ext ev) (vI P ev) sz ops l) true i f h past cl x.1 x.2) r)->x.1=.normal:=by
         intro r hm;cases r with
         |one y=>exact eff _ _ _ hm
         |err s=>cases hm
         |two _ _=>cases hm
        cases r with
        |no s=>cases hx'
        |val v fp =>
         cases fp with
         |nil=>exact ih _ _ _ _ _ x hx'
         |cons A0 fp0 =>
          have e1:goD (xH P ext ev) (vI P ev) ops o.dst (evD P (qG P ext ev) (xH P ext ev) (vI P ev) sz ops l) i f h past cl (.val v (A0::fp0))=bif pE ops i (A0::fp0) h past [] then evD P (qG P ext ev) (xH P ext ev) (vI P ev) sz ops l (i+1) (wG f o.dst v) h past (⟨i,A0::fp0,h⟩::cl)else .err "drawn a read" := rfl
          rw[e1]at hx';cases hb:pE ops i (A0::fp0) h past []with
          |false=>rw[hb]at hx';cases hx'
          |true=>rw[hb]at hx';exact ih _ _ _ _ _ x hx'
        |all v=>exact eff _ _ _ hx'
        |new b v =>
         have e1:goD (xH P ext ev) (vI P ev) ops o.dst (evD P (qG P ext ev) (xH P ext ev) (vI P ev) sz ops l) i f h past cl (.new b v)=bif dD ops i past then evD P (qG P ext ev) (xH P ext ev) (vI P ev) sz ops l (i+1) (wG f o.dst (v h.n)) (h.push b) (⟨false,false,i,h,h.push b⟩::past) cl else .err "drawn a new block" := rfl
         rw[e1]at hx';cases hb:dD ops i past with
         |false=>rw[hb]at hx';cases hx'
         |true=>rw[hb]at hx';exact ih _ _ _ _ _ x hx'
        |newR b v fp=>exact eff _ _ _ hx'
        |upd v A b=>exact eff _ _ _ hx'
        |call g as0=>exact one _ hx'
        |yld A as0=>exact one _ hx'
        |alts A l'=>cases hx'
   obtain⟨tr,g,_⟩:=yEi (N:=N) (Q:=λa H=>pF (evD P (qG P ext ev) (xH P ext ev) (vI P ev) sz ops ops.toList 0 f h [] []) .normal a H) hC hY (zNg hX hC) hsz ops.toList 0 f h [] [] (yI f) (sY f) (λx hx=>by cases hx) hok
    (λx b hx hb=>⟨x,hx,hnorm _ _ _ _ _ _ x hx,zGh λt v hv=>by rw[hb];exact hv,rfl⟩)
   exact zTd hc.2 hc.1 g
theorem zWu (hL:∀d,vO d=sK P d){ext:Cfg}(hX:mB P ext):∀n,fC P (evN P ext n):=by
 intro n
 induction n using Nat.strongRecOn with
 |_ n IH =>
  cases n with
  |zero=>intro fid sz ro c f h hok;cases hok
  |succ n =>
   have ih:=IH n (Nat.lt_succ_self n);have hC:=zBg hL hX ih;have hY:=yKo hL ih;intro fid sz ro c f h hok N hsz hro;have e0:∀m fid sz ro c f h,evN P ext (m+1) fid sz ro c f h=nZ P ext (evN P ext m) fid sz ro c f h:=λ_ _ _ _ _ _ _=>rfl;rw[e0]at hok ⊢;cases c with
   |skip=>exact zHt ⟨_,.one,rfl,sub_self,rfl⟩
   |label id=>exact yEz ⟨_,.one,rfl,sub_self,rfl⟩
   |ret=>exact bN ⟨_,.one,rfl,sub_self,rfl⟩
   |exit id=>exact zQn ⟨_,.one,rfl,sub_self,rfl⟩
   |seq x y =>
    have hok':((evN P ext n fid sz ro x f h).bind (iY (evN P ext n fid sz ro y))).ok=true:=hok;obtain⟨q1,q2⟩:=sQ hok';refine oB (AWp.mono (ih fid sz ro x f h q1 N hsz λhr=>⟨(hro hr).1,λt ht=>(hro hr).2 t (List.mem_append_left _ ht)⟩) ?_);rintro e a H ⟨z,hz,rfl,hs,rfl⟩;have hz2:=q2 z hz;have hmem:∀w,Mem w (iY (evN P ext n fid sz ro y) z)->Mem w (nZ P ext (evN P ext n) fid sz ro (.seq x y) f h):=λw hw=>rU.2 ⟨z,hz,hw⟩;obtain⟨e,f',h'⟩:=z;cases e with
    |normal=>exact AWp.mono (AWp.sub (ih fid sz ro y f' h' hz2 N hsz λhr=>⟨(hro hr).1,λt ht=>(hro hr).2 t (List.mem_append_right _ ht)⟩) hs) λe a H hh=>hh.mono hmem
    |_=>exact⟨_,hmem _ .one,rfl,hs,rfl⟩
   |cond c x y =>
    have hok':(bQ (evN P ext n fid sz ro x f h) (evN P ext n fid sz ro y f h) (xB f c)).ok=true:=hok;show AWp P N _ (pF (bQ (evN P ext n fid sz ro x f h) (evN P ext n fid sz ro y f h) (xB f c))) _ _;unfold bQ at hok' ⊢;split at hok'
    ·rename_i b hb
     refine eA (lY hb) (λe=>?_) λe=>?_
     ·subst e;exact ih fid sz ro x f h hok' N hsz λhr=>⟨(hro hr).1,λt ht=>(hro hr).2 t (List.mem_append_left _ ht)⟩
     ·subst e;exact ih fid sz ro y f h hok' N hsz λhr=>⟨(hro hr).1,λt ht=>(hro hr).2 t (List.mem_append_right _ ht)⟩
    ·cases hok'
   |block id c =>
    have hok':((evN P ext n fid sz ro c f h).bind (zFk id)).ok=true:=hok;obtain⟨q1,q2⟩:=sQ hok';refine zFa (AWp.mono (ih fid sz ro c f h q1 N hsz λhr=>⟨(hro hr).1,(hro hr).2⟩) ?_);rintro e a H ⟨z,hz,rfl,hs,rfl⟩;have hmem:∀w,Mem w (zFk id z)->Mem w (nZ P ext (evN P ext n) fid sz ro (.block id c) f h):=λw hw=>rU.2 ⟨z,hz,hw⟩;obtain⟨e,f',h'⟩:=z;cases e with
    |exit id' =>
     unfold mL;simp only;by_cases hid:id'=id
     ·rw[if_pos hid]
      exact⟨_,hmem (.normal,f',h') (by show Mem _ (Ou.one _);rw[yP.2 hid];exact .one),rfl,hs,rfl⟩
     ·rw[if_neg hid]
      refine⟨_,hmem (.exit id',f',h') ?_,rfl,hs,rfl⟩;show Mem _ (Ou.one (bif Nat.beq id' id then _ else _,_));cases hb:Nat.beq id' id with
      |true=>exact absurd (yP.1 hb) hid
      |false=>exact .one
    |_=>exact⟨_,hmem _ .one,rfl,hs,rfl⟩
   |scope c =>
    have hok':((evN P ext n fid sz ro c f h).bind zGx).ok=true:=hok;obtain⟨q1,q2⟩:=sQ hok';refine yIr (AWp.mono (ih fid sz ro c f h q1 N hsz λhr=>⟨(hro hr).1,(hro hr).2⟩) ?_);rintro e a H ⟨z,hz,rfl,hs,rfl⟩;have hz2:=q2 z hz;have hmem:∀w,Mem w (zGx z)->Mem w (nZ P ext (evN P ext n) fid sz ro (.scope c) f h):=λw hw=>rU.2 ⟨z,hz,hw⟩;obtain⟨e,f',h'⟩:=z;cases e with
    |goto l=>cases hz2
    |_=>exact⟨_,hmem _ .one,rfl,hs,rfl⟩
   |region id ops d=>exact yKs hC hY hX hsz hok
   |rangeFunc g ps as0 bd =>
    have hok':(bif ro then Ou.err "a loop over a function in a round" else iK P ext (evN P ext n) fid sz f h (xB f g)).ok=true:=hok;show AWp P N _ (pF (bif ro then Ou.err "a loop over a function in a round" else iK P ext (evN P ext n) fid sz f h (xB f g))) _ _;cases ro with
    |true=>cases hok'
    |false =>
     obtain⟨h1,h2⟩:=hro rfl;exact yOq hL hX ih hok' hsz h1 (h2 (ps,as0,bd) (List.mem_singleton.2 rfl))
   |loop c =>
    refine zRw (S:=Nat × Fm × Hp) (λs=>yI s.2.1) (λs=>toL s.2.2) (λs=>s.1<=n+1/\(evN P ext s.1 fid sz ro (.loop c) s.2.1 s.2.2).ok=true/\∀x,Mem x (evN P ext s.1 fid sz ro (.loop c) s.2.1 s.2.2)->Mem x (nZ P ext (evN P ext n) fid sz ro (.loop c) f h)) (λs=>s.1) (n+1,f,h) ⟨Nat.le_refl _,hok,λ_ hx=>hx⟩ gD ?_;rintro⟨m,f1,h1⟩ ⟨hm,hok1,hmem1⟩;simp only at hm hok1 hmem1 ⊢;cases m with
    |zero=>cases hok1
    |succ m =>
     have hok2:((evN P ext m fid sz ro c f1 h1).bind (iY (evN P ext m fid sz ro (.loop c)))).ok=true:=hok1;obtain⟨q1,q2⟩:=sQ hok2;refine AWp.mono (IH m (by omega) fid sz ro c f1 h1 q1 N hsz λhr=>⟨(hro hr).1,(hro hr).2⟩) ?_;rintro e a H ⟨z,hz,rfl,hs,rfl⟩;have hz2:=q2 z hz;have hmem:∀w,Mem w (iY (evN P ext m fid sz ro (.loop c)) z)->Mem w (nZ P ext (evN P ext n) fid sz ro (.loop c) f h):=λw hw=>hmem1 w (rU.2 ⟨z,hz,hw⟩);obtain⟨e,f',h'⟩:=z;cases e with
     |normal=>exact⟨(m,f',h'),⟨by simp only;omega,hz2,hmem⟩,by simp only;omega,zQp hs⟩
     |_=>exact⟨_,hmem _ .one,rfl,hs,rfl⟩
   |_=>cases hok
theorem zNx (hL:∀d,vO d=sK P d){ext:Cfg}(hX:mB P ext){n:Nat}{g:FuncId}{as0:List Value}{h:Hp}(hok:(xH P ext (evN P ext n) g as0 h).ok=true) :
  Run P g as0 (toL h) λv H'=>∃x,Mem x (xH P ext (evN P ext n) g as0 h)/\v=x.1/\H'=toL x.2:=(zBg hL hX (zWu hL hX n) g as0 h hok).2
end
end
end Go.Gh
end
section
set_option maxRecDepth 4000
namespace Go.Proofs.YtbidadebolllkaaGreatDoor
open Go.Gh Go.RowKit
noncomputable section
theorem zAw {φ:Fi}{L:zP}{p:Value}{vs:Array Value}(h:yM φ L [p] vs):∃p',vs=#[p']/\Val φ L p p':=by
 obtain⟨p',h1,h2⟩:=h.get 0 p rfl;refine⟨p',?_,h2⟩;have hs:=h.size;apply Array.ext
 ·simpa using hs
 ·intro i hi hi'
  obtain rfl:i=0:=by simp at hi';omega
  rw[Array.getElem?_eq_getElem hi]at h1;simpa using h1
theorem yGr {φ:Fi}{L:zP}{p q:Value}{vs:Array Value}(h:yM φ L [p,q] vs):∃p' q',vs=#[p',q']/\Val φ L p p'/\Val φ L q q':=by
 obtain⟨p',h1,h2⟩:=h.get 0 p rfl;obtain⟨q',h3,h4⟩:=h.get 1 q rfl;refine⟨p',q',?_,h2,h4⟩;have hs:=h.size;apply Array.ext
 ·simpa using hs
 ·intro i hi hi'
  match i,hi,hi' with
  |0,hi,_=>rw[Array.getElem?_eq_getElem hi]at h1;simpa using h1
  |1,hi,_=>rw[Array.getElem?_eq_getElem hi]at h3;simpa using h3
theorem zGt {P:Program}{o:Oper}{f:Fm}{h:Hp}{g:FuncId}{as0:List Value}{v:Value}(hop:yF P o f h (.call g as0))
  (k:∀φ L vs w,yM φ L as0 vs->∃v',Val φ L v v'/\(callFunc g vs).run P w=.ok (.value v') w):yF P o f h (.val v []):=by
 intro N a' H hag _;refine⟨λB0 w0 φ w ac hr hf=>?_⟩;obtain⟨vs,h1,h2⟩:=hop N a' φ (lens H) ac hag hf;obtain⟨v',k1,k2⟩:=k φ (lens H) vs w h1;exact⟨v',k1,.inl (by rw[h2];exact k2)⟩
theorem zUc (b:ByteArray):yQ b=b.data.toList:=by cases b with|mk d=>cases d;rfl
def zEf (as0:List Value):OpR:=match as0 with
 |[p]=>.val p []
 |_=>.no "NoEscape"
theorem yCu {o:Oper}{f:Fm}{h:Hp}{as0:List Value}(hop:yF Tryz.prog o f h (.call 195 as0)):yF Tryz.prog o f h (zEf as0):=by
 unfold zEf;split
 ·refine zGt hop λφ L vs w hv=>?_
  obtain⟨p',rfl,hp⟩:=zAw hv;refine⟨p',hp,?_⟩;rw[run_callFunc_extern Tryz.func195 (by kernel_rfl) (by kernel_rfl) (by kernel_rfl) (e:=Extern.AbiNoEscape.same) (by kernel_rfl),Lib.run_noEscape];rfl
 ·exact trivial
def bR :List UInt8->Nat->Nat->Int
 |[],_,_=>-1
 |b::l,c,i=>bif Nat.beq b.toNat c then(i:Int)else bR l c (i+1)
theorem zMz (b c:UInt8):(b == c)=Nat.beq b.toNat c.toNat:=by
 cases hb:Nat.beq b.toNat c.toNat with
 |true=>rw[UInt8.toNat_inj.1 (yP.1 hb)];simp
 |false =>
  rw[beq_eq_false_iff_ne];intro e;subst e;rw[Nat.beq_refl]at hb;cases hb
theorem zQa (c:UInt8):∀(l:List UInt8) (i:Nat),bR l c.toNat i=if Lib.indexByte l c=-1 then -1 else Lib.indexByte l c+i
 |[],i=>rfl
 |b::l,i=>by
  unfold bR Lib.indexByte;rw[zMz];cases Nat.beq b.toNat c.toNat with
  |true=>simp
  |false =>
   simp only[cond_false,Bool.false_eq_true,if_false,beq_iff_eq];rw[zQa c l (i+1)];have:=Lib.indexByte_ge l c;by_cases h:Lib.indexByte l c=-1
   ·simp[h]
   ·rw[if_neg h,if_neg h,if_neg (by omega)];omega
def zFt (as0:List Value):OpR:=match as0 with
 |[.string b,.int .u8 (.ofNat c)]=>bif Nat.blt c 256 then .val (I (bR (yQ b) c 0)) [] else .no "IndexByteString"
 |_=>.no "IndexByteString"
theorem zRv {φ:Fi}{L:zP}{p q:Value}{vs:Array Value}(h:yM φ L [p,q] vs)(hp:scalar p=true)(hq:scalar q=true):vs=#[p,q]:=by
 obtain⟨p',q',rfl,h1,h2⟩:=yGr h;rw[h1.scalar hp,h2.scalar hq]
theorem yOl {o:Oper}{f:Fm}{h:Hp}{as0:List Value}(hop:yF Tryz.prog o f h (.call 347 as0)):yF Tryz.prog o f h (zFt as0):=by
 unfold zFt;split
 ·rename_i b c
  refine yN λhc=>zGt hop λφ L vs w hv=>⟨_,.int _ _,?_⟩;have hc:=xS.1 hc;rw[zRv hv rfl rfl,run_callFunc_extern Tryz.func347 (by kernel_rfl) (by kernel_rfl) (by kernel_rfl) (e:=Extern.BytealgIndexByte.indexByte) (by kernel_rfl)];have:=Lib.run_indexByteString (P:=Tryz.prog) b (Int.ofNat c) w;rw[this];have hc8:(Int.ofNat c).toNat.toUInt8.toNat=c:=by
   show(UInt8.ofNat c).toNat=c;rw[UInt8.toNat_ofNat'];exact Nat.mod_eq_of_lt (by omega)
  have e:=zQa (Int.ofNat c).toNat.toUInt8 (yQ b) 0;rw[hc8]at e;rw[e,zUc];show Result.ok (Next.value (.int .i64 _)) w=_
  congr 3
  split <;> simp_all
 ·exact trivial
def iU :List UInt8->Nat->Nat->Nat
 |[],_,i=>i
 |b::l,c,i=>bif Nat.beq b.toNat c then iU l c (i+1)else iU l c i
theorem zHp (c:UInt8):∀(l:List UInt8) (i:Nat),iU l c.toNat i=Lib.countByte l c+i
 |[],i=>by unfold iU Lib.countByte;simp
 |b::l,i=>by
  have ih:=zHp c l;unfold iU;unfold Lib.countByte at ih ⊢;rw[List.count_cons,zMz];cases Nat.beq b.toNat c.toNat with
  |true=>simp only[cond_true,if_true];rw[ih];omega
  |false=>simp only[cond_false,Bool.false_eq_true,if_false];rw[ih];omega
def zBq (as0:List Value):OpR:=match as0 with
 |[.string b,.int .u8 (.ofNat c)]=>bif Nat.blt c 256 then .val (I (iU (yQ b) c 0:Nat)) [] else .no "CountString"
 |_=>.no "CountString"
theorem yKt {o:Oper}{f:Fm}{h:Hp}{as0:List Value}(hop:yF Tryz.prog o f h (.call 326 as0)):yF Tryz.prog o f h (zBq as0):=by
 unfold zBq;split
 ·rename_i b c
  refine yN λhc=>zGt hop λφ L vs w hv=>⟨_,.int _ _,?_⟩;have hc:=xS.1 hc;rw[zRv hv rfl rfl,run_callFunc_extern Tryz.func326 (by kernel_rfl) (by kernel_rfl) (by kernel_rfl) (e:=Extern.BytealgCount.count) (by kernel_rfl)];have:=Lib.run_countString (P:=Tryz.prog) b (Int.ofNat c) w;rw[this];have hc8:(Int.ofNat c).toNat.toUInt8.toNat=c:=by
   show(UInt8.ofNat c).toNat=c;rw[UInt8.toNat_ofNat'];exact Nat.mod_eq_of_lt (by omega)
  have e:=zHp (Int.ofNat c).toNat.toUInt8 (yQ b) 0;rw[hc8]at e;rw[e,zUc];rfl
 ·exact trivial
def zFf (as0:List Value):OpR:=match as0 with
 |[.int .i64 (.ofNat n)]=>bif Nat.ble n lim then .new ⟨[],⟨false,some 5⟩⟩ (λA=>.slice (some ⟨A,0,some 0⟩) n 1)else .no "MakeNoZero"
 |_=>.no "MakeNoZero"
theorem yBd {o:Oper}{f:Fm}{h:Hp}{as0:List Value}(hop:yF Tryz.prog o f h (.call 288 as0)):yF Tryz.prog o f h (zFf as0):=by
 unfold zFf;split
 ·rename_i n
  refine yN λhn=>?_;have hn:=xU.1 hn;have hlim:=oJ;intro N a' H A H' hag hpl;refine⟨λB0 w0 φ w ac hr hf=>.inl ?_⟩;obtain⟨vs,h1,h2⟩:=hop N a' φ (lens H) ac hag hf;obtain⟨p',rfl,hp⟩:=zAw h1;have:=hp.scalar rfl;subst this;have hT:Tryz.prog.underlying 169=some (.slice 5):=by kernel_rfl
  obtain⟨cs,k1,k2,k3⟩:=Lib.run_makeNoZero (P:=Tryz.prog) w #[3] 169 5 hT n (by omega);obtain⟨g1,g2⟩:=pY (w':=w.drew.drew.alloc (.cells cs 5)) (us:=#[]) hr (fz:=(0,0)) hpl ⟨rfl,λi v h=>by simp at h⟩ rfl rfl rfl rfl (by simp) (λq hq=>by simp at hq) (λi _ h=>by simp at h) (λt ht=>by cases ht;rfl);refine⟨_,.slice (some ⟨w.heap.size,0,none⟩) n cs.size,_,g1,g2,?_,.inl ?_⟩
  ·refine .slc A 0 0 0 n 1 cs.size _ hpl.lens (Nat.le_refl _) k2 (k3 (by unfold maxLen;omega)) λ_=>?_
   rw[yU];exact⟨rfl,λ_=>by simp,rfl⟩
  ·rw[h2,run_callFunc_extern Tryz.func288 (by kernel_rfl) (by kernel_rfl) (by kernel_rfl) (e:=Extern.BytealgMakeNoZero.makeNoZero #[3] #[169]) (by kernel_rfl)]
   have e:(Value.int .i64 (Int.ofNat n))=.int .i64 (n:Int):=rfl;rw[e,k1];rfl
 ·exact trivial
def lV :Nat->Nat->List UInt8
 |0,_=>[]
 |f+1,u=>bif Nat.blt u 10 then [UInt8.ofNat (48+u)] else lV f (u/10)++[UInt8.ofNat (48+u%10)]
theorem zJr :∀(f u:Nat),u<10^f->0<f->lV f u=Lib.decDigits u
 |0,u,_,h=>by omega
 |f+1,u,h,_=>by
  unfold lV;rw[Lib.decDigits];by_cases h1:u<10
  ·rw[xS.2 h1,cond_true,dif_pos h1]
  ·have:Nat.blt u 10=false:=by
    cases hb:Nat.blt u 10 with
    |false=>rfl
    |true=>exact absurd (xS.1 hb) h1
   rw[this,cond_false,dif_neg h1];have h2:u/10<10^f:=by
    rw[Nat.div_lt_iff_lt_mul (by omega)];rw[Nat.pow_succ]at h;exact h
   have h3:0<f:=by
    cases f with
    |zero=>simp at h;omega
    |succ f=>omega
   rw[zJr f (u/10) h2 h3]
def zHf (as0:List Value):OpR:=match as0 with
 |[.int .i64 (.ofNat n)]=>bif Nat.blt n 1000000 then .val (S (lV 6 n)) [] else .no "Itoa"
 |_=>.no "Itoa"
theorem yEm {o:Oper}{f:Fm}{h:Hp}{as0:List Value}(hop:yF Tryz.prog o f h (.call 87 as0)):yF Tryz.prog o f h (zHf as0):=by
 unfold zHf;split
 ·rename_i n
  refine yN λhn=>?_;have hn:=xS.1 hn;intro N a' H hag _;refine⟨λB0 w0 φ w ac hr hf=>?_⟩;obtain⟨vs,h1,h2⟩:=hop N a' φ (lens H) ac hag hf;obtain⟨p',rfl,hp⟩:=zAw h1;have:=hp.scalar rfl;subst this;refine⟨S (lV 6 n),.str _,.inr ⟨_,_,by rw[h2];exact uU (by kernel_rfl) _ w,?_⟩⟩;have hg:=hr.gw.on hr.below (Nat.le_trans hr.b0 hr.below.size);refine(Tryz.strconv_Itoa (n:Int) (by omega) (by omega) w (Lib.TabBelow.here hg)).mono λe w' ⟨h1,k,os,h2⟩=>⟨?_,by rw[h2];exact Lib.below_grow _ w (Nat.le_refl _) k os⟩;rw[h1];have e:Lib.itoa (n:Int)=lV 6 n:=by
   unfold Lib.itoa;rw[if_neg (by omega),zJr 6 n (by omega) (by omega)];rfl
  rw[e]
 ·exact trivial
end
end Go.Proofs.YtbidadebolllkaaGreatDoor
end
section
set_option maxRecDepth 4000
namespace Go.Gh
open Go.RowKit Go.MapKept
noncomputable section
section
variable {P:Program} {N:Fr} {ops:Array Oper} {o:Oper} {a:AF} {H:zI}
def frL (val:Nat->Value)(ls:Array Bool):List Oper->Nat->AF->AF
 |[],_,a=>a
 |p::l,k,a=>bif ls.getD k false then put (frL val ls l (k+1) a) p.dst (val k)else frL val ls l (k+1) a
theorem gK {val:Nat->Value}{ls:Array Bool}{a:AF}{t:Nat}:∀{l:List Oper} {k:Nat},(∀(j:Nat) p,l[j]?=some p->p.dst=some t->ls.getD (k+j) false=false)->get (frL val ls l k a) t=get a t
 |[],_,_=>rfl
 |p::l,k,h=>by
  unfold frL;have ih:=gK (val:=val) (ls:=ls) (a:=a) (t:=t) (l:=l) (k:=k+1) λj q hq hd=>by rw[show k+1+j=k+(j+1)by omega];exact h (j+1) q (by simpa using hq) hd
  cases hb:ls.getD k false with
  |false=>exact ih
  |true =>
   simp only[cond_true];rw[sC];by_cases hd:p.dst=some t
   ·have:=h 0 p rfl hd
    rw[Nat.add_zero,hb]at this;cases this
   ·rw[if_neg hd];exact ih
theorem dA {val:Nat->Value}{ls:Array Bool}{a:AF}{t:Nat}:∀{l:List Oper} {k j:Nat} {p:Oper},l[j]?=some p->p.dst=some t->ls.getD (k+j) false=true->(∀(i:Nat) q,l[i]?=some q->q.dst=some t->i=j)->get (frL val ls l k a) t=some (val (k+j))
 |[],_,_,_,h,_,_,_=>by simp at h
 |q::l,k,0,p,h,hd,hl,hu=>by
  simp only[List.getElem?_cons_zero,Option.some.injEq]at h;subst h;unfold frL;rw[Nat.add_zero]at hl;rw[hl,cond_true,sC,if_pos hd,Nat.add_zero]
 |q::l,k,j+1,p,h,hd,hl,hu=>by
  have ih:=dA (val:=val) (ls:=ls) (a:=a) (t:=t) (l:=l) (k:=k+1) (j:=j) (p:=p) (by simpa using h) hd (by rwa [show k+1+j=k+(j+1)by omega]) λi r hr hd=>by
   have:=hu (i+1) r (by simpa using hr) hd;omega
  rw[show k+1+j=k+(j+1)by omega]at ih;unfold frL;cases hb:ls.getD k false with
  |false=>exact ih
  |true =>
   simp only[cond_true];rw[sC];by_cases hq:q.dst=some t
   ·have:=hu 0 q rfl hq
    omega
   ·rw[if_neg hq];exact ih
theorem zSu {φ:Fi}{L:zP}{N:Fr}{b b':AF}{ac:Act}(h:∀t,get b' t=get b t)(hf:xA φ L N b ac):xA φ L N b' ac:=⟨hf.size,λt v ht=>hf.slot t v (by rw[<-h];exact ht)⟩
def xC (Q:Nat->Oper->Prop):List Oper->Nat->Prop
 |[],_=>True
 |o::l,k=>Q k o/\xC Q l (k+1)
theorem xC.cons {Q:Nat->Oper->Prop}{o:Oper}{l:List Oper}{k:Nat}(h:Q k o)(r:xC Q l (k+1)):xC Q (o::l) k:=⟨h,r⟩
theorem xC.at {Q:Nat->Oper->Prop}:∀{l:List Oper} {k:Nat},xC Q l k->∀(i:Nat) o,l[i]?=some o->Q (k+i) o
 |[],_,_,_,_,h=>by simp at h
 |p::l,k,h,0,o,ho=>by
  simp only[List.getElem?_cons_zero,Option.some.injEq]at ho;subst ho;exact h.1
 |p::l,k,h,i+1,o,ho=>by
  have:=xC.at h.2 i o (by simpa using ho);rwa [show k+1+i=k+(i+1)by omega]at this
theorem yFq {id:Nat}{Q:xR}(G:Array Bool->zI)(val:Nat->Value)(hm:P.follows .mixedOrders=true)(hchk:tH ops=true){Y:zI}(hY:qX Y)(h0:G (Array.replicate ops.size false)=H++Y)
  (hg:∀(i:Nat) o,ops.toList[i]?=some o->o.guard=none) (hdst:∀(i:Nat) o,ops.toList[i]?=some o->wK o N=true)
  (step:∀ls:Array Bool,ls.size=ops.size->(∀j k,ls.getD j false=true->vC ops j k=true->ls.getD k false=true)->xC (λi o=>ls.getD i false=false->(∀k,vC ops i k=true->ls.getD k false=true) ->
   ∀b,(∀t,(oK o).contains t=true->∀(k:Nat) p,ops.toList[k]?=some p->p.dst=some t->ls.getD k false=true->get b t=some (val k))->(∀t,(oK o).contains t=true->(ops.toList.all λp=>!zRo p t)=true->get b t=get a t) ->
   vH P N o b (G ls) (val i) (G (ls.setIfInBounds i true))) ops.toList 0)
  (fin:∀(b:AF) (ls:Array Bool),ls.size=ops.size->(∀i,i<ops.size->ls.getD i false=true)->(∀(k t:Nat) p,ops.toList[k]?=some p->p.dst=some t->get b t=some (val k))->Q .normal b (G ls)):AWp P N (.region id ops true) Q a H:=by
 unfold AWp;intro B0 w0 φs Ls φ w ac hdm he hr hf;refine wpIn_region_any hm ?_;have hrep:∀j,(Array.replicate ops.size false).getD j false=false:=λj=>by
  rcases Nat.lt_or_ge j ops.size with h|h <;> simp[h]
 have hlen:ops.toList.length=ops.size:=by simp
 have uq:∀{i j:Nat} {p q:Oper} {t:Nat},ops.toList[i]?=some p->p.dst=some t->ops.toList[j]?=some q->q.dst=some t->j=i:=λh1 h2 h3 h4=>eQ (oF hchk h1) h2 h3 h4;have Wr:∀(ls:Array Bool) (t k:Nat) p,ops.toList[k]?=some p->p.dst=some t->ls.getD k false=true->get (frL val ls ops.toList 0 a) t=some (val k):=λls t k p hp hd hl=>by
  have:=dA (val:=val) (ls:=ls) (a:=a) (k:=0) hp hd (by rw[Nat.zero_add];exact hl) λj q hq hqd=>uq hp hd hq hqd;rwa [Nat.zero_add]at this
 have fin:=λls hs hall=>fin (frL val ls ops.toList 0 a) ls hs hall λk t p hp hd=>Wr ls t k p hp hd (hall k (by have:=(List.getElem?_eq_some_iff.1 hp).1;omega));have main:∀(fuel:Nat) (ls:Array Bool) (φ:Fi) (ac:Act) (w:World),ls.size=ops.size->(∀j k,ls.getD j false=true->vC ops j k=true->ls.getD k false=true)->EA φs Ls φ (lens (G ls)) ac.defers->Rel B0 w0 φ (G ls) w->xA φ (lens (G ls)) N (frL val ls ops.toList 0 a) ac->cnt ops.size ls<=fuel ->
   wpAnyIn (fc N) 0 P .any ops (QC B0 w0 N φs Ls Q) fuel ls ac w:=by
  intro fuel
  induction fuel with
  |zero =>
   intro ls φ ac w hs hcl he hr hf hc;have hall:∀i,i<ops.size->ls.getD i false=true:=by
    intro i hi;cases hl:ls.getD i false with
    |true=>rfl
    |false=>have:=cQ hi (by rw[hs];exact hi) hl;omega
   refine⟨?_,φ,_,_,he,hr,hf,fin ls hs hall⟩;rw[List.eq_nil_iff_forall_not_mem];intro i hi;obtain⟨h0,o,ho,_⟩:=mem_ready.1 hi;have:=hall i (Array.getElem?_eq_some_iff.1 ho).1;rw[cP h0]at this;cases this
  |succ fuel ih =>
   intro ls φ ac w hs hcl he hr hf hc;refine⟨λhrd=>?_,λi hi=>?_⟩
   ·have hall:∀i,i<ops.size->ls.getD i false=true:=by
     intro i
     induction i using Nat.strongRecOn with
     |_ i ihi =>
      intro hi;cases hl:ls.getD i false with
      |true=>rfl
      |false =>
       have ho:ops[i]?=some ops[i]:=Array.getElem?_eq_getElem hi;have:i∈Region.ready .any ops ls:=by
        rw[mem_ready];refine⟨?_,ops[i],ho,λe he hb=>?_⟩
        ·have hs2:i<ls.size:=by rw[hs];exact hi
         simp[hs2]at hl ⊢;exact hl
        ·have:=zRg (oF hchk (show ops.toList[i]?=some ops[i] by rw[Array.getElem?_toList];exact ho)) he (by rw[<-zBl];exact hb)
         exact ihi e.on this (by omega)
       rw[hrd]at this;cases this
    exact⟨φ,_,_,he,hr,hf,fin ls hs hall⟩
   ·obtain⟨h0,o,ho,hedge⟩:=mem_ready.1 hi
    have hio:=(Array.getElem?_eq_some_iff.1 ho).1;have hil:i<ls.size:=by rw[hs];exact hio
    have hun:ls.getD i false=false:=cP h0;have hol:ops.toList[i]?=some o:=by simpa using ho
    have hready:∀k,vC ops i k=true->ls.getD k false=true:=λk hk=>by
     obtain⟨o',ho',e,he,hb,rfl⟩:=zMq hk;rw[ho]at ho';cases ho';exact hedge e he hb
    have hcnt:cnt ops.size (ls.setIfInBounds i true)<=fuel:=by have:=cQ hio hil hun;omega
    have hce:=(step ls hs hcl).at i o hol;rw[Nat.zero_add]at hce;have hce:=hce hun hready (frL val ls ops.toList 0 a) (λt _ k p hp hd hl=>Wr ls t k p hp hd hl) λt _ hno=>gK λj q hq hqd=>by
     have:=(List.all_eq_true.1 hno) q (List.mem_of_getElem? hq);rw[zHb.2 hqd]at this;cases this
    have hN:=hdst i o hol;have hnext:∀t,get (frL val (ls.setIfInBounds i true) ops.toList 0 a) t=get (put (frL val ls ops.toList 0 a) o.dst (val i)) t:=by
     intro t;rw[sC];by_cases hd:o.dst=some t
     ·rw[if_pos hd]
      have:=dA (val:=val) (ls:=ls.setIfInBounds i true) (a:=a) (k:=0) hol hd (by rw[Nat.zero_add,rB hil];exact .inl rfl) λj q hq hqd=>uq hol hd hq hqd;rwa [Nat.zero_add]at this
     ·rw[if_neg hd]
      by_cases hx:∃(j:Nat) (p:Oper),ops.toList[j]?=some p/\p.dst=some t
      ·obtain⟨j,p,hp,hpd⟩:=hx
       have hji:j≠i:=λe=>by subst e;rw[hol]at hp;cases hp;exact hd hpd
       cases hb:ls.getD j false with
       |true =>
        have e1:=dA (val:=val) (ls:=ls.setIfInBounds i true) (a:=a) (k:=0) hp hpd (by rw[Nat.zero_add,rB hil];exact .inr hb) λj' q hq hqd=>uq hp hpd hq hqd;have e2:=dA (val:=val) (ls:=ls) (a:=a) (k:=0) hp hpd (by rw[Nat.zero_add];exact hb) λj' q hq hqd=>uq hp hpd hq hqd;rw[e1,e2]
       |false =>
        have hj:∀(j':Nat) q,ops.toList[j']?=some q->q.dst=some t->j'=j:=λj' q hq hqd=>uq hp hpd hq hqd;have hb2:(ls.setIfInBounds i true).getD j false=false:=by
         cases hb2:(ls.setIfInBounds i true).getD j false with
         |false=>rfl
         |true =>
          rcases(rB hil).1 hb2 with e|e
          ·exact absurd e hji
          ·rw[hb]at e;cases e
        have e1:get (frL val (ls.setIfInBounds i true) ops.toList 0 a) t=get a t:=gK λj' q hq hqd=>by rw[hj j' q hq hqd,Nat.zero_add];exact hb2
        have e2:get (frL val ls ops.toList 0 a) t=get a t:=gK λj' q hq hqd=>by rw[hj j' q hq hqd,Nat.zero_add];exact hb
        rw[e1,e2]
      ·rw[gK λj' q hq hqd=>absurd ⟨j',q,hq,hqd⟩ hx,gK λj' q hq hqd=>absurd ⟨j',q,hq,hqd⟩ hx]
    unfold wpOpIn;rw[ho];simp only;rw[if_pos (by simp[Region.wanted,hg i o hol])];refine⟨λ_ _=>trivial,?_⟩;have fin2:∀φ' v' w',Ext φ (lens (G ls)) φ' (lens (G (ls.setIfInBounds i true)))->Rel B0 w0 φ' (G (ls.setIfInBounds i true)) w'->Val φ' (lens (G (ls.setIfInBounds i true))) (val i) v' ->
      wpAnyIn (fc N) 0 P .any ops (QC B0 w0 N φs Ls Q) fuel (ls.setIfInBounds i true) (ac.put o.dst v') w':=λφ' v' w' q1 q2 q3 =>
     ih _ φ' _ w' (by simp[hs]) (λj k hj hw=>by
      rw[rB hil]at hj ⊢;rcases hj with rfl|hj
      ·exact .inr (hready k hw)
      ·exact .inr (hcl j k hj hw)) (he.trans q1).put q2 (zSu hnext ((hf.mono q1).put (sZ hN) q3)) hcnt
    rcases hce.go B0 w0 φ w ac hr hf with⟨φ',v',w',q1,q2,q3,q4⟩|⟨f,args,q4,q5⟩|⟨l,f,tmps,as0,bd,q4,q5⟩
    ·rcases q4 with q4|⟨rfl,q4⟩
     ·rw[vS q4 (λ_ h=>by cases h)];exact fin2 φ' _ w' q1 q2 q3
     ·rw[vS q4 (λ_ h=>by cases h)];exact fin2 φ' _ w' q1 q2 q3
    ·rw[vS q4 (λ_ h=>by cases h)]
     refine⟨(λh=>by cases h),(callsIn_wide (n:=0)).2 (q5.mono ?_)⟩;rintro e w2 ⟨φ',v',q1,q2,rfl,q3⟩;exact fin2 φ' v' w2 q1 q2 q3
    ·rw[vS q4 (λ_ h=>by cases h)]
     refine⟨(λh=>by cases h),RoundIn.mono (F:=Fence.wide) q5 ?_⟩;rintro e w2 ⟨φ',v',q1,q2,rfl,q3⟩;exact fin2 φ' v' w2 q1 q2 q3
 have hfr:xA φ (lens H) N (frL val (Array.replicate ops.size false) ops.toList 0 a) ac:=zSu (λt=>gK λj q _ _=>hrep _) hf;refine main ops.size _ φ ac _ (by simp) (λj k hj=>by rw[hrep]at hj;cases hj) (by rw[h0,uL hY];exact he) (by rw[h0];exact gP hY (hr.later (Below.refl _ _).drew)) (by rw[h0,uL hY];exact hfr) ?_;unfold cnt;exact Nat.le_trans List.countP_le_length (by simp)

def wE (l:List (Value × Value)):List Value:=l.flatMap λx=>[x.1,x.2]
theorem zBi :∀(l:List (Value × Value)),(wE l).length=2*l.length
 |[]=>rfl
 |x::l=>by have:=zBi l;simp only[wE,List.flatMap_cons,List.length_append,List.length_cons,List.length_nil]at this ⊢;omega
theorem zEg {φ:Fi}{L:zP}{x:Value × Value}{l:List (Value × Value)}{es:List MapEntry}(h:xX φ L (wE (x::l)) es):∃e es',es=e::es'/\Val φ L x.1 e.key/\Val φ L x.2 e.val/\xX φ L (wE l) es':=by
 have e:wE (x::l)=x.1::x.2::wE l:=rfl;rw[e]at h;cases h with
 |cons hk hv r=>exact⟨_,_,rfl,hk,hv,r⟩
theorem yIn {φ:Fi}{L:zP}{l l':List (Value × Value)}(hp:l.Perm l'):∀{es:List MapEntry},xX φ L (wE l) es->∃es',xX φ L (wE l') es'/\es.Perm es':=by
 induction hp with
 |nil=>intro es h;exact⟨es,h,.refl _⟩
 |cons x _ ih =>
  intro es h;obtain⟨e,es',rfl,h1,h2,h3⟩:=zEg h;obtain⟨es2,h4,h5⟩:=ih h3;exact⟨e::es2,.cons h1 h2 h4,h5.cons e⟩
 |swap x y l =>
  intro es h;obtain⟨e,es',rfl,h1,h2,h3⟩:=zEg h;obtain⟨e2,es2,rfl,h4,h5,h6⟩:=zEg h3;exact⟨e2::e::es2,.cons h4 h5 (.cons h1 h2 h6),.swap _ _ _⟩
 |trans _ _ ih1 ih2 =>
  intro es h;obtain⟨es1,h1,h2⟩:=ih1 h;obtain⟨es2,h3,h4⟩:=ih2 h1;exact⟨es2,h3,h2.trans h4⟩
theorem yKk (l m:List (Value × Value)):wE (l++m)=wE l++wE m:=by unfold wE;rw[List.flatMap_append]
theorem yJy (T:TypeId)(ho:o.op=.makeMap T none){A0:Nat}{H':zI}(hpl:Place H A0 H' ⟨[],false⟩):xG P N o a H (.complex .f32 A0 0) H':=by
 refine qI (λB0 w0 φ w ac r hf=>?_);obtain⟨h1,h2⟩:=lM (w':=w.alloc (.map #[] 0)) (l0:=⟨w.heap.size,0,4,true⟩) r hpl rfl rfl rfl rfl rfl rfl λhext=>by
  refine⟨.map #[] 0,(vZ []).toArray,?_,.bag (es:=#[]) (es':=[]) (clock:=0) rfl rfl rfl rfl (.refl _) .nil (λe h=>by cases h),by simp[vZ],λi v hi=>by simp at hi⟩;exact(heap_alloc w _).1
 refine⟨_,.map (some w.heap.size),_,h1,h2,?_,?_⟩
 ·exact .bag _ 0 _ hpl.lens (by rw[yU];exact⟨⟨rfl,rfl⟩,rfl⟩)
 ·unfold execOp
  simp only[ho,Option.map_none,Instr.makeMap,Sem.run_bind,Sem.run_pure,Result.andThen_ok];simp[run_newObj]
theorem yNk (T:TypeId)(x k y:Operand){A K E:Nat}{l l':List (Value × Value)}{s:List UInt8}{v:Value}(ho:o.op=.insert T x k y)(hx:ev a x=some (.complex .f32 A 0))(hk:ev a k=some (S s))(hy:ev a y=some v)
  (hA:H[A]?=some (some ⟨wE l,false⟩)) (hT:P.underlying T=some (.map K E)) (hK:P.underlying K=some .string) (hq:wZ (.s s) (wE l) 0=some none) (hp:l'.Perm (l++[(S s,v)])) :
  xG P N o a H undef (H.set A (some ⟨wE l',false⟩)):=by
 refine kR (λB0 w0 φ w ac r hf=>?_);obtain⟨h1,hmp,hsz,hbase,es,es',cl,h2,h3,hpm,hd,hkk⟩:=zQm r hA (zN hf hx);have h4:=(zN hf hk).scalar rfl;have h5:=zN hf hy;generalize hvv:ac.eval y=v' at h5;have hlt:=r.lt hA;have hks:∀e∈es.toList,IsKey .string e.key:=λe he=>by
  obtain⟨s,hs⟩:=hkk e (hpm.mem_iff.2 he);rw[hs];trivial
 obtain⟨m,m1,m2⟩:=zUw (P:=P) (w:=w) hK h3 hpm hd hkk hq;have hm:m=none:=by
  rcases m2 with⟨_,e⟩|⟨i,v,j,u,e,_⟩
  ·exact e
  ·cases e
 subst hm;have hno:∀x∈es.toList,x.key≠S s:=by
  rcases findNow_spec (d:=.string) (k:=S s) trivial es.toList 0 hks with⟨_,g2⟩|⟨j,e,g1,_,_⟩
  ·exact g2
  ·have e1:=run_findKey (P:=P) (w:=w) hK g1
   rw[m1]at e1;cases e1
 have hent:xX φ (lens H) (wE (l++[(S s,v)])) (es'++[⟨S s,v',cl⟩]):=by
  rw[yKk];exact h3.push (x:=S s) (v:=v) (e:=⟨S s,v',cl⟩) (.str _) h5
 obtain⟨es2,g1,g2⟩:=yIn hp.symm hent;have hl1:=zBi l;have hl2:=zBi l';have hl3:=hp.length_eq;simp at hl3;obtain⟨k1,k2⟩:=nP (w':={ w with heap:=w.heap.setIfInBounds (φ A).b (.map (es.push { key:=S s,val:=v',born:=cl }) (cl+1)) }) (g':=⟨wE l',false⟩) (l':=φ A) r hA rfl rfl rfl rfl (by simp) (λq _ hq=>(heap_set h2).2 q hq) (.inl rfl) hbase
  (.inr ⟨by simp only;omega,λ_=>rfl⟩)
  (λhext=>by
   rw[mZ]at hext ⊢;have he':=g1.mono hext;refine⟨_,_,(heap_set h2).1,.bag (es':=es2) hmp hbase hsz he'.len ?_ ?_ ?_,?_,λi u hi=>?_⟩
   ·refine g2.symm.trans ?_
    rw[Array.toList_push];exact hpm.append_right _
   ·refine(g2.pairwise_iff (λ{_ _} h=>Ne.symm h)).1 ?_
    rw[List.pairwise_append];refine⟨hd,List.pairwise_singleton _ _,λx hx y hy=>?_⟩;rw[List.mem_singleton]at hy;subst hy;exact hno x (hpm.mem_iff.1 hx)
   ·intro e he
    rcases List.mem_append.1 (g2.mem_iff.2 he)with h|h
    ·exact hkk e h
    ·rw[List.mem_singleton]at h;subst h;exact⟨_,rfl⟩
   ·have:=he'.len;rw[hbase];simp only[List.size_toArray,bF];omega
   ·obtain⟨u',q1,q2⟩:=he'.row i u hi
    exact⟨u',by rw[hbase,Nat.zero_add];simpa using q1,q2⟩)
 refine⟨_,_,k1,k2,?_⟩;unfold execOp;simp only[ho,h1,h4,hvv,Instr.mapUpdate,Sem.run_bind,run_underlying hT,Result.andThen_ok,MapKept.run_getObj_map h2,Sem.run_pure,run_checkKey hK (show IsKey .string (S s)from trivial),m1,MapKept.run_setObj_map _ h2]
theorem zHm {x:Operand}{xs:List Operand}{ts:Array TypeId}{g:FuncId}{as0:List Value}{v:Value}{H':zI}(ho:o.op=.call { callee:=.value x,args:=xs.toArray,argTypes:=ts })(hx:ev a x=some (.func (.func g) #[] #[]))(hxs:evs a xs=some as0)
  (hen:xL P g=true) (hr:Run P g as0 H λr H2=>r=v/\H2=H'):vH P N o a H v H':=by
 refine⟨λB0 w0 φ w ac hrel hf=>.inr (.inl ?_)⟩;have h1:=zN hf hx;have h2:=pD hf hxs;generalize hu:ac.eval x=u at h1;unfold Run at hr;cases h1 with
 |func _ _ b _ d e1 e2 e3 e4 =>
  have hb:b=#[]:=Array.eq_empty_of_size_eq_zero e1.symm;have hd:d=#[]:=Array.eq_empty_of_size_eq_zero e3.symm;subst hb;subst hd;refine⟨g,(xs.map ac.eval).toArray,?_,(hr B0 w0 φ (lens H) φ w _ (.refl _ _) hrel h2).mono ?_⟩
  ·unfold execOp
   simp only[ho,resolve,List.map_toArray,hu,Deferred.ofValue,Sem.run_bind,Sem.run_pure,Result.andThen_ok,invoke];rw[uU hen];simp
  ·rintro e w' ⟨φ',r,H2,v',g1,g2,rfl,g4,rfl,rfl⟩
   exact⟨φ',v',g1,g2,rfl,g4⟩
end
end
end Go.Gh
end
section
set_option maxRecDepth 4000
namespace Go.Proofs.YtbidadebolllkaaGreatDoor
open Go.Gh Go.RowKit
noncomputable section
section
variable {P:Program} {N:Fr} {a:AF} {H:zI}
abbrev tcl (n k:Nat):Value:=.func (.func 179) #[] #[zG (n+k) 0 1,zG (n+(k+1)) 0 1]
end
theorem zAi {p q:Addr}{H H1 H2:zI}{A1 A2:Nat}(h1:Gh.Place H A1 H1 ⟨[.pointer (some p)],false⟩)(h2:Gh.Place H1 A2 H2 ⟨[.pointer (some q)],false⟩) :
  Run Tryz.prog 122 [.pointer (some p),.pointer (some q)] H λv H'=>v=.func (.func 179) #[] #[zG A1 0 1,zG A2 0 1]/\H'=H2:=by
 refine eL Tryz.func122 rfl rfl λ_=>?_;refine oB (kP ?_);refine rA rfl (lI (cO (m:=⟨false,none⟩) 132 (.tmp 0) (λt ht=>by cases ht) rfl rfl h1) rfl ?_);refine rA rfl (lI (cO (m:=⟨false,none⟩) 99 (.tmp 1) (λt ht=>by cases ht) rfl rfl h2) rfl ?_);refine rA rfl (iT (iP _ rfl rfl) rfl ?_);refine kY ?_;refine oB (kP ?_);refine rA rfl (iT (mM (.func 179) [] [.tmp 2,.tmp 3] (us:=[]) (vs:=[zG A1 0 1,zG A2 0 1]) rfl rfl rfl) rfl ?_);refine rA rfl (iT (iP _ rfl rfl) rfl ?_);refine kY ?_;refine bN ?_;exact⟨[_],⟨rfl,trivial⟩,[_],H2,gD,rfl,rfl,rfl⟩
def aF (n A off m:Nat):Nat->Value:=λi=>([.complex .f32 n 0,zG A off m,zG A off m,zG A off m,zG A (off+0) m,zG A (off+0+1) m,tcl n 1,undef,zG A off m,zG A off m,zG A off m,zG A (off+0) m,zG A (off+0+2) m,tcl n 3,undef,zG A off m,zG A off m,zG A off m,zG A (off+0) m,zG A (off+0+3) m,tcl n 5,undef,zG A off m,.func (.func 123) #[zG A off m] #[],undef,zG A off m,.func (.func 124) #[zG A off m] #[],undef,zG A off m,.func (.func 125) #[zG A off m] #[],undef,zG A off m,.func (.func 126) #[zG A off m] #[],undef,zG A off m,.func (.func 127) #[zG A off m] #[],undef,.complex .f32 n 0,.complex .f32 n 0]:List Value).getD i undef
def eD (n A off m:Nat):List (Nat × Value × Value):=[(7,S [36,100,97,116,101],tcl n 1),(14,S [36,118,101,114,115,105,111,110],tcl n 3),(21,S [36,99,111,109,109,101,110,116],tcl n 5),(24,S [36,116,105,109,101,115,99,97,108,101],.func (.func 123) #[zG A off m] #[]),(27,S [36,115,99,111,112,101],.func (.func 124) #[zG A off m] #[]),(30,S [36,117,112,115,99,111,112,101],.func (.func 125) #[zG A off m] #[]),(33,S [36,118,97,114],.func (.func 126) #[zG A off m] #[]),(36,S [36,101,110,100,100,101,102,105,110,105,116,105,111,110,115],.func (.func 127) #[zG A off m] #[])]
def xJ (n A off m:Nat)(g:Nat->Bool):List (Value × Value):=((eD n A off m).filter λx=>g x.1).map (·.2)
def gU (b:Bool)(v:Value):Option Blk:=bif b then some ⟨[v],false⟩else none
def yZ (n A off m:Nat)(g:Nat->Bool):zI:=[bif g 0 then some ⟨wE (xJ n A off m g),false⟩else none,gU (g 6) (zG A off m),gU (g 6) (zG A (off+0+1) m),gU (g 13) (zG A off m),gU (g 13) (zG A (off+0+2) m),gU (g 20) (zG A off m),gU (g 20) (zG A (off+0+3) m)]
theorem zKu {g g':Nat->Bool}{i:Nat}{x:Value × Value}(hg:g i=false)(hg':g' i=true)(ho:∀j,j≠i->g' j=g j):∀{l:List (Nat × Value × Value)},(l.map (·.1)).Nodup->(i,x)∈l ->
  ((l.filter λy=>g' y.1).map (·.2)).Perm ((l.filter λy=>g y.1).map (·.2)++[x])
 |[],_,h=>by cases h
 |y::l,hn,h=>by
  simp only[List.map_cons,List.nodup_cons]at hn;obtain⟨n1,n2⟩:=hn;by_cases hy:y.1=i
  ·have hyx:y=(i,x):=by
    rcases List.mem_cons.1 h with h|h
    ·exact h.symm
    ·exact absurd (List.mem_map.2 ⟨_,h,rfl⟩) (by rw[<-hy];exact λh=>n1 h)
   subst hyx;have hrest:(l.filter λy=>g' y.1)=l.filter λy=>g y.1:=List.filter_congr λz hz=>ho z.1 λe=>n1 (List.mem_map.2 ⟨z,hz,e⟩);rw[List.filter_cons_of_pos (p:=λ(y:Nat × Value × Value)=>g' y.1) hg',List.filter_cons_of_neg (p:=λ(y:Nat × Value × Value)=>g y.1) (by simp[hg]),hrest,List.map_cons];exact(List.perm_append_singleton _ _).symm
  ·have hmem:(i,x)∈l:=by
    rcases List.mem_cons.1 h with h|h
    ·exact absurd (by rw[<-h]) hy
    ·exact h
   have ih:=zKu hg hg' ho n2 hmem;cases hb:g y.1 with
   |true =>
    rw[List.filter_cons_of_pos (p:=λ(y:Nat × Value × Value)=>g' y.1) (by rw[ho y.1 hy];exact hb),List.filter_cons_of_pos (p:=λ(y:Nat × Value × Value)=>g y.1) hb,List.map_cons,List.map_cons];exact ih.cons _
   |false =>
    rw[List.filter_cons_of_neg (p:=λ(y:Nat × Value × Value)=>g' y.1) (by rw[ho y.1 hy,hb];simp),List.filter_cons_of_neg (p:=λ(y:Nat × Value × Value)=>g y.1) (by simp[hb])];exact ih
theorem nC {P:Program}{N:Fr}{o:Oper}{a:AF}{H G':zI}(T:TypeId)(x k y:Operand){A K E:Nat}{l l':List (Value × Value)}{s:List UInt8}{v:Value}(ho:o.op=.insert T x k y)(hx:ev a x=some (.complex .f32 A 0))(hk:ev a k=some (S s))(hy:ev a y=some v)
  (hA:H[A]?=some (some ⟨wE l,false⟩)) (hT:P.underlying T=some (.map K E)) (hK:P.underlying K=some .string) (hq:wZ (.s s) (wE l) 0=some none) (hp:l'.Perm (l++[(S s,v)])) (e:G'=H.set A (some ⟨wE l',false⟩)):vH P N o a H undef G':=by
 rw[e];exact(yNk T x k y ho hx hk hy hA hT hK hq hp).ceff
def zBa (key:List UInt8)(v:Value):Bool:=match v with
 |.string b=>!sN (yQ b) key
 |_=>false
theorem zRh {key:List UInt8}:∀{l:List (Value × Value)} (i:Nat),(∀x∈l,zBa key x.1=true)->wZ (.s key) (wE l) i=some none
 |[],_,_=>rfl
 |x::l,i,h=>by
  have e:wE (x::l)=x.1::x.2::wE l:=rfl;rw[e];have hx:=h x List.mem_cons_self;unfold zBa at hx;split at hx
  ·rename_i b hb
   unfold wZ;rw[hb];show(bif sN (yQ b) key then some (some (i,x.2))else wZ (.s key) (wE l) (i+1))=some none;rw[Bool.not_eq_true']at hx;rw[hx,cond_false];exact zRh (i+1) λy hy=>h y (List.mem_cons_of_mem _ hy)
  ·cases hx
theorem mI {n A off m:Nat}{g:Nat->Bool}{i:Nat}{key:List UInt8}(hg:g i=false)(h:((eD n A off m).all λy=>Nat.beq y.1 i || zBa key y.2.1)=true):wZ (.s key) (wE (xJ n A off m g)) 0=some none:=by
 refine zRh 0 λx hx=>?_;unfold xJ at hx;obtain⟨y,hy,rfl⟩:=List.mem_map.1 hx;obtain⟨h1,h2⟩:=List.mem_filter.1 hy;have:=(List.all_eq_true.1 h) y h1;rw[Bool.or_eq_true]at this;rcases this with h3|h3
 ·rw[yP.1 h3,hg]at h2;cases h2
 ·exact h3
theorem mS {n A off m:Nat}{g g':Nat->Bool}{i:Nat}{x:Value × Value}(hg:g i=false)(hg':g' i=true)(ho:∀j,j≠i->g' j=g j)(hx:(i,x)∈eD n A off m):(xJ n A off m g').Perm (xJ n A off m g++[x]) :=
 zKu hg hg' ho (by show([7,14,21,24,27,30,33,36]:List Nat).Nodup;decide) hx
theorem zJz {n A off m:Nat}{g g':Nat->Bool}(h:∀j∈([0,6,7,13,14,20,21,24,27,30,33,36]:List Nat),g' j=g j):yZ n A off m g'=yZ n A off m g:=by
 have hM:xJ n A off m g'=xJ n A off m g:=by
  unfold xJ
  congr 1
  refine List.filter_congr λx hx=>h x.1 ?_;have h2:((eD n A off m).all λx=>([0,6,7,13,14,20,21,24,27,30,33,36]:List Nat).contains x.1)=true:=rfl;have:=(List.all_eq_true.1 h2) x hx;simpa using this
 unfold yZ;rw[hM,h 0 (by decide),h 6 (by decide),h 13 (by decide),h 20 (by decide)]
theorem pM {H X:zI}(i:Nat):(H++X)[H.length+i]?=X[i]?:=by rw[List.getElem?_append_right (by omega),Nat.add_sub_cancel_left]
theorem gH {H X X':zI}{i:Nat}{b:Blk}(h1:X[i]?=some none)(h2:X'=X.set i (some b))   : Gh.Place (H++X) (H.length+i) (H++X') b:=by
 have:=Gh.Place.hole (H:=H++X) (A:=H.length+i) (by rw[pM];exact h1) b;rwa [List.set_append_right _ _ (by omega),Nat.add_sub_cancel_left,<-h2]at this
theorem zLb {P:Program}{T:TypeId}(h:(match yC P T with|some (_,s,_)=>Nat.blt 0 s|none=>false)=true):∃z s b,yC P T=some (z,s,b)/\s≠0:=by
 split at h
 ·rename_i z s b hI;exact⟨z,s,b,hI,by have:=xS.1 h;omega⟩
 ·cases h
theorem sJ {ls:Array Bool}{i:Nat}(h:i<ls.size):(ls.setIfInBounds i true).getD i false=true:=(rB h).2 (.inl rfl)
theorem gne {ls:Array Bool}{i j:Nat}(h:j≠i):(ls.setIfInBounds i true).getD j false=ls.getD j false:=getD_set_ne false (Ne.symm h)
theorem wL {P:Program}{N:Fr}{o:Oper}{b:AF}{G G':zI}{v:Value}(e:G'=G)(h:vH P N o b G v G):vH P N o b G v G':=by rw[e];exact h
theorem aG {n A off m:Nat}{g g':Nat->Bool}(h:∀j∈([7,14,21,24,27,30,33,36]:List Nat),g' j=g j):xJ n A off m g'=xJ n A off m g:=by
 unfold xJ
 congr 1
 refine List.filter_congr λx hx=>h x.1 ?_;have h2:((eD n A off m).all λx=>([7,14,21,24,27,30,33,36]:List Nat).contains x.1)=true:=rfl;have:=(List.all_eq_true.1 h2) x hx;simpa using this
theorem zXt {n A off m:Nat}{g:Nat->Bool}(h:∀j∈([7,14,21,24,27,30,33,36]:List Nat),g j=false):xJ n A off m g=[]:=by
 rw[aG (g:=λ_=>false) h];rfl
theorem yNp {n A off m:Nat}{g g':Nat->Bool}(h0:g 0=false)(h1:g' 0=true)(hM:xJ n A off m g'=[])(h6:g' 6=g 6)(h13:g' 13=g 13)(h20:g' 20=g 20) :
  (yZ n A off m g)[0]?=some none/\yZ n A off m g'=(yZ n A off m g).set 0 (some ⟨[],false⟩):=by
 unfold yZ;rw[h0,h1,hM,h6,h13,h20];exact⟨rfl,rfl⟩
theorem nF {n A off m:Nat}{g g':Nat->Bool}(h0:g 0=true)(h1:g' 0=true)(h6:g' 6=g 6)(h13:g' 13=g 13)(h20:g' 20=g 20) :
  (yZ n A off m g)[0]?=some (some ⟨wE (xJ n A off m g),false⟩)/\yZ n A off m g'=(yZ n A off m g).set 0 (some ⟨wE (xJ n A off m g'),false⟩):=by
 unfold yZ;rw[h0,h1,h6,h13,h20];exact⟨rfl,rfl⟩
theorem yNc {n A off m:Nat}{g g':Nat->Bool}(h0:g' 0=g 0)(hM:xJ n A off m g'=xJ n A off m g)(hc:g 6=false)(hc':g' 6=true)(h1:g' 13=g 13)(h2:g' 20=g 20) :
  (yZ n A off m g)[1]?=some none/\((yZ n A off m g).set 1 (some ⟨[zG A off m],false⟩))[2]?=some none/\yZ n A off m g'=((yZ n A off m g).set 1 (some ⟨[zG A off m],false⟩)).set 2 (some ⟨[zG A (off+0+1) m],false⟩):=by
 unfold yZ;rw[h0,hM,hc,hc',h1,h2];exact⟨rfl,rfl,rfl⟩
theorem yGc {n A off m:Nat}{g g':Nat->Bool}(h0:g' 0=g 0)(hM:xJ n A off m g'=xJ n A off m g)(hc:g 13=false)(hc':g' 13=true)(h1:g' 6=g 6)(h2:g' 20=g 20) :
  (yZ n A off m g)[3]?=some none/\((yZ n A off m g).set 3 (some ⟨[zG A off m],false⟩))[4]?=some none/\yZ n A off m g'=((yZ n A off m g).set 3 (some ⟨[zG A off m],false⟩)).set 4 (some ⟨[zG A (off+0+2) m],false⟩):=by
 unfold yZ;rw[h0,hM,hc,hc',h1,h2];exact⟨rfl,rfl,rfl⟩
theorem yOw {n A off m:Nat}{g g':Nat->Bool}(h0:g' 0=g 0)(hM:xJ n A off m g'=xJ n A off m g)(hc:g 20=false)(hc':g' 20=true)(h1:g' 6=g 6)(h2:g' 13=g 13) :
  (yZ n A off m g)[5]?=some none/\((yZ n A off m g).set 5 (some ⟨[zG A off m],false⟩))[6]?=some none/\yZ n A off m g'=((yZ n A off m g).set 5 (some ⟨[zG A off m],false⟩)).set 6 (some ⟨[zG A (off+0+3) m],false⟩):=by
 unfold yZ;rw[h0,hM,hc,hc',h1,h2];exact⟨rfl,rfl,rfl⟩
set_option maxRecDepth 8000 in
theorem yFf {A off m:Nat}{H:zI}:Run Tryz.prog 65 [zG A off m] H λv H'=>v=.complex .f32 H.length 0/\H'=H++yZ H.length A off m (λ_=>true):=by
 refine eL Tryz.func65 rfl rfl λ_=>?_;refine oB (kP ?_);refine rA rfl (iT (iP _ rfl rfl) rfl ?_);refine kY ?_;refine oB ?_;have hT:Tryz.prog.underlying 137=some (.map 9 144):=by kernel_rfl
 have hK:Tryz.prog.underlying 9=some .string:=by kernel_rfl
 obtain⟨z78,s78,b78,hI78,hs78⟩:=zLb (P:=Tryz.prog) (T:=78) (by kernel_rfl);obtain⟨z9,s9,b9,hI9,hs9⟩:=zLb (P:=Tryz.prog) (T:=9) (by kernel_rfl);have hF0:rQ Tryz.prog 136 0=some (78,0):=by kernel_rfl
 have hF1:rQ Tryz.prog 78 1=some (9,1):=by kernel_rfl
 have hF2:rQ Tryz.prog 78 2=some (9,2):=by kernel_rfl
 have hF3:rQ Tryz.prog 78 3=some (9,3):=by kernel_rfl
 have hen:xL Tryz.prog 122=true:=by kernel_rfl
 refine yFq (λls=>H++yZ H.length A off m λj=>ls.getD j false) (aF H.length A off m) (by kernel_rfl) (by kernel_rfl) (Y:=List.replicate 7 none) (lQ 7) ?_ ?_ ?_ ?_ ?_
 ·show H++yZ H.length A off m (λj=>(Array.replicate 39 false).getD j false)=_
  have:(λj=>(Array.replicate 39 false).getD j false)=λ_=>false:=by
   funext j
   rcases Nat.lt_or_ge j 39 with h|h <;> simp[h]
  rw[this];rfl
 ·intro i o ho
  have:=(List.all_eq_true (p:=λo=>o.guard.isNone)).1 (by kernel_rfl) o (List.mem_of_getElem? ho);simpa using this
 ·intro i o ho
  exact(List.all_eq_true (p:=λo=>wK o ⟨33,⟨H.length,none⟩⟩)).1 (by kernel_rfl) o (List.mem_of_getElem? ho)
 ·intro ls hs hcl
  have hsz:ls.size=39:=hs;have pure_:∀i,i ∉ ([0,6,7,13,14,20,21,24,27,30,33,36]:List Nat)->H++yZ H.length A off m (λj=>(ls.setIfInBounds i true).getD j false)=H++yZ H.length A off m (λj=>ls.getD j false):=λi hi =>
   congrArg (H++·) (zJz λj hj=>gne λe=>hi (e▸hj))
  refine xC.cons (λhun hrd b hw hz=>?_) ?_
  ·obtain⟨q1,q2⟩:=yNp (n:=H.length) (A:=A) (off:=off) (m:=m) (g:=λj=>ls.getD j false) (g':=λj=>(ls.setIfInBounds 0 true).getD j false) hun (sJ (by omega)) (zXt λj hj=>by
    show(ls.setIfInBounds 0 true).getD j false=false;rw[gne (by rintro rfl;revert hj;decide)];cases hb:ls.getD j false with
    |false=>rfl
    |true =>
     have:=hcl j 0 hb (by
      simp only[List.mem_cons,List.not_mem_nil,or_false]at hj;rcases hj with rfl|rfl|rfl|rfl|rfl|rfl|rfl|rfl <;> rfl)
     rw[hun]at this;cases this) (gne (by decide)) (gne (by decide)) (gne (by decide))
   have hpl:=gH (H:=H) q1 q2;exact(yJy 137 rfl hpl).ceff
  refine xC.cons (λhun hrd b hw hz=>?_) ?_
  ·exact wL (pure_ 1 (by decide)) (rP (.tmp 0) rfl (hz 0 rfl (by kernel_rfl))).pcall.ceff
  refine xC.cons (λhun hrd b hw hz=>?_) ?_
  ·exact wL (pure_ 2 (by decide)) (rP (.tmp 0) rfl (hz 0 rfl (by kernel_rfl))).pcall.ceff
  refine xC.cons (λhun hrd b hw hz=>?_) ?_
  ·exact wL (pure_ 3 (by decide)) (dR (.tmp 5) rfl (hw 5 rfl 2 _ rfl rfl (hrd 2 rfl))).pcall.ceff
  refine xC.cons (λhun hrd b hw hz=>?_) ?_
  ·exact wL (pure_ 4 (by decide)) (nG 136 (.tmp 6) 0 rfl (hw 6 rfl 3 _ rfl rfl (hrd 3 rfl)) hF0 hI78 hs78).pcall.ceff
  refine xC.cons (λhun hrd b hw hz=>?_) ?_
  ·exact wL (pure_ 5 (by decide)) (nG 78 (.tmp 7) 1 rfl (hw 7 rfl 4 _ rfl rfl (hrd 4 rfl)) hF1 hI9 hs9).pcall.ceff
  refine xC.cons (λhun hrd b hw hz=>?_) ?_
  ·obtain⟨q1,q2,q3⟩:=yNc (n:=H.length) (A:=A) (off:=off) (m:=m) (g:=λj=>ls.getD j false) (g':=λj=>(ls.setIfInBounds 6 true).getD j false) (gne (by decide)) (aG λj hj=>gne (by rintro rfl;revert hj;decide)) hun (sJ (by omega)) (gne (by decide)) (gne (by decide))
   have h1:=hw 4 rfl 1 _ rfl rfl (hrd 1 rfl);have h2:=hw 8 rfl 5 _ rfl rfl (hrd 5 rfl);refine zHm (x:=.func 122) (xs:=[.tmp 4,.tmp 8]) (as0:=[zG A off m,aF H.length A off m 5]) rfl rfl ?_ hen (zAi (gH (H:=H) (i:=1) q1 rfl) (gH (H:=H) (i:=2) q2 q3));show(match get b 4,(match get b 8,some []with|some v,some vs=>some (v::vs)|_,_=>none)with|some v,some vs=>some (v::vs)|_,_=>none)=_;rw[h1,h2];rfl
  refine xC.cons (λhun hrd b hw hz=>?_) ?_
  ·have h0:=hrd 0 rfl
   obtain⟨q1,q2⟩:=nF (n:=H.length) (A:=A) (off:=off) (m:=m) (g:=λj=>ls.getD j false) (g':=λj=>(ls.setIfInBounds 7 true).getD j false) h0 ((gne (by decide)).trans h0) (gne (by decide)) (gne (by decide)) (gne (by decide));exact nC 137 (.tmp 3) (.const (S [36,100,97,116,101])) (.tmp 9) (H:=H++yZ H.length A off m λj=>ls.getD j false) (A:=H.length) (l:=xJ H.length A off m λj=>ls.getD j false) (l':=xJ H.length A off m λj=>(ls.setIfInBounds 7 true).getD j false) rfl (hw 3 rfl 0 _ rfl rfl h0) rfl (hw 9 rfl 6 _ rfl rfl (hrd 6 rfl)) (by have:=pM (H:=H) (X:=yZ H.length A off m λj=>ls.getD j false) 0;rw[q1]at this;exact this) hT hK (mI (i:=7) hun rfl) (mS (i:=7) hun (sJ (by omega)) (λj hj=>gne hj) (List.mem_of_getElem? (i:=0) rfl)) (by rw[List.set_append_right _ _ (Nat.le_refl _),Nat.sub_self,<-q2])
  refine xC.cons (λhun hrd b hw hz=>?_) ?_
  ·exact wL (pure_ 8 (by decide)) (rP (.tmp 0) rfl (hz 0 rfl (by kernel_rfl))).pcall.ceff
  refine xC.cons (λhun hrd b hw hz=>?_) ?_
  ·exact wL (pure_ 9 (by decide)) (rP (.tmp 0) rfl (hz 0 rfl (by kernel_rfl))).pcall.ceff
  refine xC.cons (λhun hrd b hw hz=>?_) ?_
  ·exact wL (pure_ 10 (by decide)) (dR (.tmp 11) rfl (hw 11 rfl 9 _ rfl rfl (hrd 9 rfl))).pcall.ceff
  refine xC.cons (λhun hrd b hw hz=>?_) ?_
  ·exact wL (pure_ 11 (by decide)) (nG 136 (.tmp 12) 0 rfl (hw 12 rfl 10 _ rfl rfl (hrd 10 rfl)) hF0 hI78 hs78).pcall.ceff
  refine xC.cons (λhun hrd b hw hz=>?_) ?_
  ·exact wL (pure_ 12 (by decide)) (nG 78 (.tmp 13) 2 rfl (hw 13 rfl 11 _ rfl rfl (hrd 11 rfl)) hF2 hI9 hs9).pcall.ceff
  refine xC.cons (λhun hrd b hw hz=>?_) ?_
  ·obtain⟨q1,q2,q3⟩:=yGc (n:=H.length) (A:=A) (off:=off) (m:=m) (g:=λj=>ls.getD j false) (g':=λj=>(ls.setIfInBounds 13 true).getD j false) (gne (by decide)) (aG λj hj=>gne (by rintro rfl;revert hj;decide)) hun (sJ (by omega)) (gne (by decide)) (gne (by decide))
   have h1:=hw 10 rfl 8 _ rfl rfl (hrd 8 rfl);have h2:=hw 14 rfl 12 _ rfl rfl (hrd 12 rfl);refine zHm (x:=.func 122) (xs:=[.tmp 10,.tmp 14]) (as0:=[zG A off m,aF H.length A off m 12]) rfl rfl ?_ hen (zAi (gH (H:=H) (i:=3) q1 rfl) (gH (H:=H) (i:=4) q2 q3));show(match get b 10,(match get b 14,some []with|some v,some vs=>some (v::vs)|_,_=>none)with|some v,some vs=>some (v::vs)|_,_=>none)=_;rw[h1,h2];rfl
  refine xC.cons (λhun hrd b hw hz=>?_) ?_
  ·have h0:=hrd 0 rfl
   obtain⟨q1,q2⟩:=nF (n:=H.length) (A:=A) (off:=off) (m:=m) (g:=λj=>ls.getD j false) (g':=λj=>(ls.setIfInBounds 14 true).getD j false) h0 ((gne (by decide)).trans h0) (gne (by decide)) (gne (by decide)) (gne (by decide));exact nC 137 (.tmp 3) (.const (S [36,118,101,114,115,105,111,110])) (.tmp 15) (H:=H++yZ H.length A off m λj=>ls.getD j false) (A:=H.length) (l:=xJ H.length A off m λj=>ls.getD j false) (l':=xJ H.length A off m λj=>(ls.setIfInBounds 14 true).getD j false) rfl (hw 3 rfl 0 _ rfl rfl h0) rfl (hw 15 rfl 13 _ rfl rfl (hrd 13 rfl)) (by have:=pM (H:=H) (X:=yZ H.length A off m λj=>ls.getD j false) 0;rw[q1]at this;exact this) hT hK (mI (i:=14) hun rfl) (mS (i:=14) hun (sJ (by omega)) (λj hj=>gne hj) (List.mem_of_getElem? (i:=1) rfl)) (by rw[List.set_append_right _ _ (Nat.le_refl _),Nat.sub_self,<-q2])
  refine xC.cons (λhun hrd b hw hz=>?_) ?_
  ·exact wL (pure_ 15 (by decide)) (rP (.tmp 0) rfl (hz 0 rfl (by kernel_rfl))).pcall.ceff
  refine xC.cons (λhun hrd b hw hz=>?_) ?_
  ·exact wL (pure_ 16 (by decide)) (rP (.tmp 0) rfl (hz 0 rfl (by kernel_rfl))).pcall.ceff
  refine xC.cons (λhun hrd b hw hz=>?_) ?_
  ·exact wL (pure_ 17 (by decide)) (dR (.tmp 17) rfl (hw 17 rfl 16 _ rfl rfl (hrd 16 rfl))).pcall.ceff
  refine xC.cons (λhun hrd b hw hz=>?_) ?_
  ·exact wL (pure_ 18 (by decide)) (nG 136 (.tmp 18) 0 rfl (hw 18 rfl 17 _ rfl rfl (hrd 17 rfl)) hF0 hI78 hs78).pcall.ceff
  refine xC.cons (λhun hrd b hw hz=>?_) ?_
  ·exact wL (pure_ 19 (by decide)) (nG 78 (.tmp 19) 3 rfl (hw 19 rfl 18 _ rfl rfl (hrd 18 rfl)) hF3 hI9 hs9).pcall.ceff
  refine xC.cons (λhun hrd b hw hz=>?_) ?_
  ·obtain⟨q1,q2,q3⟩:=yOw (n:=H.length) (A:=A) (off:=off) (m:=m) (g:=λj=>ls.getD j false) (g':=λj=>(ls.setIfInBounds 20 true).getD j false) (gne (by decide)) (aG λj hj=>gne (by rintro rfl;revert hj;decide)) hun (sJ (by omega)) (gne (by decide)) (gne (by decide))
   have h1:=hw 16 rfl 15 _ rfl rfl (hrd 15 rfl);have h2:=hw 20 rfl 19 _ rfl rfl (hrd 19 rfl);refine zHm (x:=.func 122) (xs:=[.tmp 16,.tmp 20]) (as0:=[zG A off m,aF H.length A off m 19]) rfl rfl ?_ hen (zAi (gH (H:=H) (i:=5) q1 rfl) (gH (H:=H) (i:=6) q2 q3));show(match get b 16,(match get b 20,some []with|some v,some vs=>some (v::vs)|_,_=>none)with|some v,some vs=>some (v::vs)|_,_=>none)=_;rw[h1,h2];rfl
  refine xC.cons (λhun hrd b hw hz=>?_) ?_
  ·have h0:=hrd 0 rfl
   obtain⟨q1,q2⟩:=nF (n:=H.length) (A:=A) (off:=off) (m:=m) (g:=λj=>ls.getD j false) (g':=λj=>(ls.setIfInBounds 21 true).getD j false) h0 ((gne (by decide)).trans h0) (gne (by decide)) (gne (by decide)) (gne (by decide));exact nC 137 (.tmp 3) (.const (S [36,99,111,109,109,101,110,116])) (.tmp 21) (H:=H++yZ H.length A off m λj=>ls.getD j false) (A:=H.length) (l:=xJ H.length A off m λj=>ls.getD j false) (l':=xJ H.length A off m λj=>(ls.setIfInBounds 21 true).getD j false) rfl (hw 3 rfl 0 _ rfl rfl h0) rfl (hw 21 rfl 20 _ rfl rfl (hrd 20 rfl)) (by have:=pM (H:=H) (X:=yZ H.length A off m λj=>ls.getD j false) 0;rw[q1]at this;exact this) hT hK (mI (i:=21) hun rfl) (mS (i:=21) hun (sJ (by omega)) (λj hj=>gne hj) (List.mem_of_getElem? (i:=2) rfl)) (by rw[List.set_append_right _ _ (Nat.le_refl _),Nat.sub_self,<-q2])
  refine xC.cons (λhun hrd b hw hz=>?_) ?_
  ·exact wL (pure_ 22 (by decide)) (rP (.tmp 0) rfl (hz 0 rfl (by kernel_rfl))).pcall.ceff
  refine xC.cons (λhun hrd b hw hz=>?_) ?_
  ·have h1:=hw 22 rfl 22 _ rfl rfl (hrd 22 rfl)
   refine wL (pure_ 23 (by decide)) (mM (.func 123) [.tmp 22] [] (us:=[zG A off m]) (vs:=[]) rfl ?_ rfl).pcall.ceff;show(match get b 22,some []with|some v,some vs=>some (v::vs)|_,_=>none)=_;rw[h1];rfl
  refine xC.cons (λhun hrd b hw hz=>?_) ?_
  ·have h0:=hrd 0 rfl
   obtain⟨q1,q2⟩:=nF (n:=H.length) (A:=A) (off:=off) (m:=m) (g:=λj=>ls.getD j false) (g':=λj=>(ls.setIfInBounds 24 true).getD j false) h0 ((gne (by decide)).trans h0) (gne (by decide)) (gne (by decide)) (gne (by decide));exact nC 137 (.tmp 3) (.const (S [36,116,105,109,101,115,99,97,108,101])) (.tmp 23) (H:=H++yZ H.length A off m λj=>ls.getD j false) (A:=H.length) (l:=xJ H.length A off m λj=>ls.getD j false) (l':=xJ H.length A off m λj=>(ls.setIfInBounds 24 true).getD j false) rfl (hw 3 rfl 0 _ rfl rfl h0) rfl (hw 23 rfl 23 _ rfl rfl (hrd 23 rfl)) (by have:=pM (H:=H) (X:=yZ H.length A off m λj=>ls.getD j false) 0;rw[q1]at this;exact this) hT hK (mI (i:=24) hun rfl) (mS (i:=24) hun (sJ (by omega)) (λj hj=>gne hj) (List.mem_of_getElem? (i:=3) rfl)) (by rw[List.set_append_right _ _ (Nat.le_refl _),Nat.sub_self,<-q2])
  refine xC.cons (λhun hrd b hw hz=>?_) ?_
  ·exact wL (pure_ 25 (by decide)) (rP (.tmp 0) rfl (hz 0 rfl (by kernel_rfl))).pcall.ceff
  refine xC.cons (λhun hrd b hw hz=>?_) ?_
  ·have h1:=hw 24 rfl 25 _ rfl rfl (hrd 25 rfl)
   refine wL (pure_ 26 (by decide)) (mM (.func 124) [.tmp 24] [] (us:=[zG A off m]) (vs:=[]) rfl ?_ rfl).pcall.ceff;show(match get b 24,some []with|some v,some vs=>some (v::vs)|_,_=>none)=_;rw[h1];rfl
  refine xC.cons (λhun hrd b hw hz=>?_) ?_
  ·have h0:=hrd 0 rfl
   obtain⟨q1,q2⟩:=nF (n:=H.length) (A:=A) (off:=off) (m:=m) (g:=λj=>ls.getD j false) (g':=λj=>(ls.setIfInBounds 27 true).getD j false) h0 ((gne (by decide)).trans h0) (gne (by decide)) (gne (by decide)) (gne (by decide));exact nC 137 (.tmp 3) (.const (S [36,115,99,111,112,101])) (.tmp 25) (H:=H++yZ H.length A off m λj=>ls.getD j false) (A:=H.length) (l:=xJ H.length A off m λj=>ls.getD j false) (l':=xJ H.length A off m λj=>(ls.setIfInBounds 27 true).getD j false) rfl (hw 3 rfl 0 _ rfl rfl h0) rfl (hw 25 rfl 26 _ rfl rfl (hrd 26 rfl)) (by have:=pM (H:=H) (X:=yZ H.length A off m λj=>ls.getD j false) 0;rw[q1]at this;exact this) hT hK (mI (i:=27) hun rfl) (mS (i:=27) hun (sJ (by omega)) (λj hj=>gne hj) (List.mem_of_getElem? (i:=4) rfl)) (by rw[List.set_append_right _ _ (Nat.le_refl _),Nat.sub_self,<-q2])
  refine xC.cons (λhun hrd b hw hz=>?_) ?_
  ·exact wL (pure_ 28 (by decide)) (rP (.tmp 0) rfl (hz 0 rfl (by kernel_rfl))).pcall.ceff
  refine xC.cons (λhun hrd b hw hz=>?_) ?_
  ·have h1:=hw 26 rfl 28 _ rfl rfl (hrd 28 rfl)
   refine wL (pure_ 29 (by decide)) (mM (.func 125) [.tmp 26] [] (us:=[zG A off m]) (vs:=[]) rfl ?_ rfl).pcall.ceff;show(match get b 26,some []with|some v,some vs=>some (v::vs)|_,_=>none)=_;rw[h1];rfl
  refine xC.cons (λhun hrd b hw hz=>?_) ?_
  ·have h0:=hrd 0 rfl
   obtain⟨q1,q2⟩:=nF (n:=H.length) (A:=A) (off:=off) (m:=m) (g:=λj=>ls.getD j false) (g':=λj=>(ls.setIfInBounds 30 true).getD j false) h0 ((gne (by decide)).trans h0) (gne (by decide)) (gne (by decide)) (gne (by decide));exact nC 137 (.tmp 3) (.const (S [36,117,112,115,99,111,112,101])) (.tmp 27) (H:=H++yZ H.length A off m λj=>ls.getD j false) (A:=H.length) (l:=xJ H.length A off m λj=>ls.getD j false) (l':=xJ H.length A off m λj=>(ls.setIfInBounds 30 true).getD j false) rfl (hw 3 rfl 0 _ rfl rfl h0) rfl (hw 27 rfl 29 _ rfl rfl (hrd 29 rfl)) (by have:=pM (H:=H) (X:=yZ H.length A off m λj=>ls.getD j false) 0;rw[q1]at this;exact this) hT hK (mI (i:=30) hun rfl) (mS (i:=30) hun (sJ (by omega)) (λj hj=>gne hj) (List.mem_of_getElem? (i:=5) rfl)) (by rw[List.set_append_right _ _ (Nat.le_refl _),Nat.sub_self,<-q2])
  refine xC.cons (λhun hrd b hw hz=>?_) ?_
  ·exact wL (pure_ 31 (by decide)) (rP (.tmp 0) rfl (hz 0 rfl (by kernel_rfl))).pcall.ceff
  refine xC.cons (λhun hrd b hw hz=>?_) ?_
  ·have h1:=hw 28 rfl 31 _ rfl rfl (hrd 31 rfl)
   refine wL (pure_ 32 (by decide)) (mM (.func 126) [.tmp 28] [] (us:=[zG A off m]) (vs:=[]) rfl ?_ rfl).pcall.ceff;show(match get b 28,some []with|some v,some vs=>some (v::vs)|_,_=>none)=_;rw[h1];rfl
  refine xC.cons (λhun hrd b hw hz=>?_) ?_
  ·have h0:=hrd 0 rfl
   obtain⟨q1,q2⟩:=nF (n:=H.length) (A:=A) (off:=off) (m:=m) (g:=λj=>ls.getD j false) (g':=λj=>(ls.setIfInBounds 33 true).getD j false) h0 ((gne (by decide)).trans h0) (gne (by decide)) (gne (by decide)) (gne (by decide));exact nC 137 (.tmp 3) (.const (S [36,118,97,114])) (.tmp 29) (H:=H++yZ H.length A off m λj=>ls.getD j false) (A:=H.length) (l:=xJ H.length A off m λj=>ls.getD j false) (l':=xJ H.length A off m λj=>(ls.setIfInBounds 33 true).getD j false) rfl (hw 3 rfl 0 _ rfl rfl h0) rfl (hw 29 rfl 32 _ rfl rfl (hrd 32 rfl)) (by have:=pM (H:=H) (X:=yZ H.length A off m λj=>ls.getD j false) 0;rw[q1]at this;exact this) hT hK (mI (i:=33) hun rfl) (mS (i:=33) hun (sJ (by omega)) (λj hj=>gne hj) (List.mem_of_getElem? (i:=6) rfl)) (by rw[List.set_append_right _ _ (Nat.le_refl _),Nat.sub_self,<-q2])
  refine xC.cons (λhun hrd b hw hz=>?_) ?_
  ·exact wL (pure_ 34 (by decide)) (rP (.tmp 0) rfl (hz 0 rfl (by kernel_rfl))).pcall.ceff
  refine xC.cons (λhun hrd b hw hz=>?_) ?_
  ·have h1:=hw 30 rfl 34 _ rfl rfl (hrd 34 rfl)
   refine wL (pure_ 35 (by decide)) (mM (.func 127) [.tmp 30] [] (us:=[zG A off m]) (vs:=[]) rfl ?_ rfl).pcall.ceff;show(match get b 30,some []with|some v,some vs=>some (v::vs)|_,_=>none)=_;rw[h1];rfl
  refine xC.cons (λhun hrd b hw hz=>?_) ?_
  ·have h0:=hrd 0 rfl
   obtain⟨q1,q2⟩:=nF (n:=H.length) (A:=A) (off:=off) (m:=m) (g:=λj=>ls.getD j false) (g':=λj=>(ls.setIfInBounds 36 true).getD j false) h0 ((gne (by decide)).trans h0) (gne (by decide)) (gne (by decide)) (gne (by decide));exact nC 137 (.tmp 3) (.const (S [36,101,110,100,100,101,102,105,110,105,116,105,111,110,115])) (.tmp 31) (H:=H++yZ H.length A off m λj=>ls.getD j false) (A:=H.length) (l:=xJ H.length A off m λj=>ls.getD j false) (l':=xJ H.length A off m λj=>(ls.setIfInBounds 36 true).getD j false) rfl (hw 3 rfl 0 _ rfl rfl h0) rfl (hw 31 rfl 35 _ rfl rfl (hrd 35 rfl)) (by have:=pM (H:=H) (X:=yZ H.length A off m λj=>ls.getD j false) 0;rw[q1]at this;exact this) hT hK (mI (i:=36) hun rfl) (mS (i:=36) hun (sJ (by omega)) (λj hj=>gne hj) (List.mem_of_getElem? (i:=7) rfl)) (by rw[List.set_append_right _ _ (Nat.le_refl _),Nat.sub_self,<-q2])
  refine xC.cons (λhun hrd b hw hz=>?_) ?_
  ·exact wL (pure_ 37 (by decide)) (rP (.tmp 3) rfl (hw 3 rfl 0 _ rfl rfl (hrd 0 rfl))).pcall.ceff
  refine xC.cons (λhun hrd b hw hz=>?_) ?_
  ·exact wL (pure_ 38 (by decide)) (iP (.tmp 32) rfl (hw 32 rfl 37 _ rfl rfl (hrd 37 rfl))).pcall.ceff
  exact trivial
 ·intro b ls hs hall hb
  refine bN ?_;have h2:=hb 38 2 _ rfl rfl;have hG:yZ H.length A off m (λj=>ls.getD j false)=yZ H.length A off m λ_=>true:=zJz λj hj=>hall j (by
   simp only[List.mem_cons,List.not_mem_nil,or_false]at hj;show j<39;omega)
  exact⟨[_],⟨h2,trivial⟩,[_],_,gD,rfl,rfl,by show H++_=H++_;rw[hG]⟩
end
end Go.Proofs.YtbidadebolllkaaGreatDoor
end
