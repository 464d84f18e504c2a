/- Part 11 of the proof of the law TopCutScale: texts merged. No condition. -/
import Derived.Test.YtbidadebolllkaaGreatDoorZTopCutScaleJ
set_option linter.unusedSimpArgs false
set_option linter.unusedVariables false
section
set_option maxRecDepth 4000
namespace Go.Gh
open Go.RowKit
theorem zH.frame {P:Program}{f:FuncId}{as0:List Value}{p r:SH}{R:Value->SH->Prop}(k:zH P f as0 p R):zH P f as0 (r++p) λv q=>∃q',R v q'/\q=r++q':=by
 unfold zH at k ⊢;intro H i;have hn:=i.nd;rw[List.map_append,List.nodup_append]at hn;obtain⟨n1,n2,n3⟩:=hn;refine(k H (.start (λx hx=>i.sat x (List.mem_append_right _ hx)) n2)).mono ?_;rintro v H' ⟨q,hR,j⟩;refine⟨r++q,⟨q,hR,rfl⟩,⟨λx hx=>?_,?_,λx hx hl=>?_,j.len,λA hA hne=>j.keep A hA λy hy=>hne y (List.mem_append_right _ hy)⟩⟩
 ·rcases List.mem_append.1 hx with hx|hx
  ·have hs:=i.sat x (List.mem_append_left _ hx)
   have hl:x.1<H.length:=(List.getElem?_eq_some_iff.1 hs).1;rw[j.keep x.1 hl λy hy e=>n3 _ (List.mem_map_of_mem hx) _ (List.mem_map_of_mem hy) e.symm];exact hs
  ·exact j.sat x hx
 ·rw[List.map_append,List.nodup_append]
  refine⟨n1,j.nd,λa ha b hb e=>?_⟩;obtain⟨x,hx,rfl⟩:=List.mem_map.1 ha;obtain⟨y,hy,rfl⟩:=List.mem_map.1 hb;have hs:=i.sat x (List.mem_append_left _ hx);have hl:x.1<H.length:=(List.getElem?_eq_some_iff.1 hs).1;obtain⟨z,hz,ez⟩:=j.own y hy (by rw[<-e];exact hl);exact n3 _ (List.mem_map_of_mem hx) _ (List.mem_map_of_mem hz) (e.trans ez.symm)
 ·rcases List.mem_append.1 hx with hx|hx
  ·exact⟨x,List.mem_append_left _ hx,rfl⟩
  ·obtain⟨z,hz,ez⟩:=j.own x hx hl
   exact⟨z,List.mem_append_right _ hz,ez⟩
end Go.Gh
namespace Go.Proofs.YtbidadebolllkaaGreatDoor
open Go.Gh Go.RowKit

def bdM :Nat->Nat
 |0=>107
 |1=>108
 |2=>109
 |3=>110
 |4=>111
 |_=>112
abbrev nJ (bb i:Nat):Value:=.func (.func (bdM i)) #[zG bb 0 18] #[]
theorem yDp (i:Nat)(h:i<6):xL Tryz.prog (bdM i)=true:=by
 obtain rfl|rfl|rfl|rfl|rfl|rfl:i=0\/i=1\/i=2\/i=3\/i=4\/i=5:=by omega
 all_goals kernel_rfl
theorem yDt (bb Af:Nat)(J:Nat->SH->Prop)(E:Prop)(hF q0:SH)(h0:J 0 q0)(hst:∀i q,i<6->J i q->zH Tryz.prog (bdM i) [zG bb 0 18] q λr q'=>(r=I 0/\J (i+1) q')\/(E/\∃e:Int,e≠0/\r=I e/\q'=hF))
  (hpk:∀i q,J i q->∃h1,Pick q Af ⟨(List.range 6).map (nJ bb),false⟩ h1) :
  zH Tryz.prog 106 [gsl Af 0 (6*1) 6 1] q0 λr q=>(r=I 0/\J 6 q)\/(E/\∃e:Int,e≠0/\r=I e/\q=hF):=by
 have hll:((List.range 6).map (nJ bb)).length=6:=by rw[List.length_map,List.length_range]
 refine yG Tryz.func106 rfl rfl ?_
 repeat'(first|apply zE|apply zD|apply zC|refine jg ?_ ?_|apply zB|apply zM|exact jS|fail)
 all_goals try exact jX
 refine yH (S:=Nat × SH) (λx=>[(6,gsl Af 0 (6*1) 6 1),(7,I 6),(8,I x.1)]) (λx=>x.2) (λx=>x.1<=6/\J x.1 x.2) (λx=>6-x.1) (0,q0) ⟨Nat.zero_le _,h0⟩ jB (by exact zA.nil) ?_;rintro⟨i,q⟩ ⟨hi,hJ⟩;dsimp only at hi hJ ⊢;by_cases hil:i<6
 ·obtain⟨h1,hp⟩:=hpk i q hJ
  have hen:=yDp i hil;have hcl:((List.range 6).map (nJ bb))[0+((i:Int)).toNat*1]?=some (nJ bb i):=by
   rw[oO (f:=nJ bb) (l:=List.range 6) (i:=i) (by rw[List.length_range];exact hil),zQj hil]
  have hS:=hst i q hil hJ;generalize (List.range 6).map (nJ bb)=fs at *;change (fs)[0+((i:Int)).toNat*1]?=some (.func (.func (bdM i)) #[zG bb 0 18] #[])at hcl;generalize bdM i=f at *
  repeat'(first|apply zE|apply zD|apply zC|refine jg ?_ ?_|(apply ja;exact jH)|(apply jm;exact jI)|(apply zZ;exact rfl;exact rfl;(focus first|assumption);exact rfl;exact⟨_,hS,jN⟩;rintro _ _ (⟨rfl,hJ'⟩|⟨hE,e,he,rfl,rfl⟩))|(apply zX;exact rfl)|refine jd ?_|apply zB|apply zV|apply zQ|apply xM|apply zL|apply zJ|apply zM|exact jO|((with_reducible apply Ln.mk);first|omega)|exact jW|((with_reducible apply Ce.mk);first|exact ‹_›)|exact True.intro|exact rfl)
  all_goals first
   |contradiction
   |exact⟨(i+1,_),⟨hil,hJ'⟩,by show 6-(i+1)<6-i;omega,jB,by exact zA.nil⟩
   |exact jF (k:=by exact .inr ⟨hE,e,he,rfl,rfl⟩)
 ·obtain rfl:i=6:=by omega
  repeat'(first|apply zE|apply zD|apply zC|refine jg ?_ ?_|(apply zX;exact rfl)|apply zB|apply zW|apply zT|apply zJ|apply zU|exact jS|fail)
  all_goals first|exact jX|exact jF (k:=by exact .inl ⟨rfl,hJ⟩)
noncomputable def bld (t:Trc):Option Trc :=
 if txO t=false then none else if dcO t=false then none else
 if(yE t.ss t.vs).2.all (tyB (yY t.gs (yE t.ss t.vs).1))=false then none else
 if(yY t.gs (yE t.ss t.vs).1).all nzS=false then none else
 if ¬(0<=t.en/\t.en<=1099511627776)then none else
 match tmG 0 [] t.en t.ga with
 |none=>none
 |some x=>if x.1.length<=16/\tot 0 (((yY t.gs (yE t.ss t.vs).1).map nmS).map (clS (tmE x.2 ((yY t.gs (yE t.ss t.vs).1).map nmS)) x.1))<=4096 then
   some ⟨t.sc,t.da,t.ve,t.co,(xN t.ss).1,(yE t.ss t.vs).2,((yY t.gs (yE t.ss t.vs).1).map nmS).map (clS (tmE x.2 ((yY t.gs (yE t.ss t.vs).1).map nmS)) x.1),x.1,tmE x.2 ((yY t.gs (yE t.ss t.vs).1).map nmS)⟩else none
def bdJ (t:Trc)(s w g a:Value)(bb:Nat)(h:SH):Nat->SH->Prop
 |0,q=>q=(bb,⟨[I t.sc,S t.da,S t.ve,S t.co,s,w,g,a,I t.en,I 0,S [],S [],S [],nS,nS,nS,nS,I 0],false⟩)::h
 |1,q=>txO t=true/\q=(bb,⟨[I t.sc,S t.da,S t.ve,S t.co,s,w,g,a,I t.en,I t.sc,S t.da,S t.ve,S t.co,nS,nS,nS,nS,I 0],false⟩)::h
 |2,q=>(txO t=true/\dcO t=true)/\BdS t s w g a bb h (xN t.ss).1 (yE t.ss t.vs).2 (yY t.gs (yE t.ss t.vs).1) [] 0 q
 |3,q=>(txO t=true/\dcO t=true/\(yE t.ss t.vs).2.all (tyB (yY t.gs (yE t.ss t.vs).1))=true)/\BdS t s w g a bb h (xN t.ss).1 (yE t.ss t.vs).2 (yY t.gs (yE t.ss t.vs).1) [] 0 q
 |4,q=>(txO t=true/\dcO t=true/\(yE t.ss t.vs).2.all (tyB (yY t.gs (yE t.ss t.vs).1))=true/\(yY t.gs (yE t.ss t.vs).1).all nzS=true)/\BdS t s w g a bb h (xN t.ss).1 (yE t.ss t.vs).2 ((yY t.gs (yE t.ss t.vs).1).map nmS) [] 0 q
 |5,q=>∃O e,(txO t=true/\dcO t=true/\(yE t.ss t.vs).2.all (tyB (yY t.gs (yE t.ss t.vs).1))=true/\(yY t.gs (yE t.ss t.vs).1).all nzS=true/\(0<=t.en/\t.en<=1099511627776)/\tmG 0 [] t.en t.ga=some (O,e)) /\
   BdS t s w g a bb h (xN t.ss).1 (yE t.ss t.vs).2 ((yY t.gs (yE t.ss t.vs).1).map nmS) O (tmE e ((yY t.gs (yE t.ss t.vs).1).map nmS)) q
 |_,q=>∃x,bld t=some x/\(x.sc=t.sc/\x.da=t.da/\x.ve=t.ve/\x.co=t.co)/\BdS t s w g a bb h x.ss x.vs x.gs x.ga x.en q
theorem gF {t:Trc}(h:dcO t=true):chk t.ss t.vs=0/\(∀n∈(yE t.ss t.vs).1,n<t.gs.length)/\(yE t.ss t.vs).1.length<=64:=by
 unfold dcO at h;rw[Bool.and_eq_true,Bool.and_eq_true,decide_eq_true_eq,decide_eq_true_eq,List.all_eq_true]at h;exact⟨h.1,λn hn=>of_decide_eq_true (h.2.1 n hn),h.2.2⟩
theorem zGk {t:Trc}(h:dcO t=true):∀g∈yY t.gs (yE t.ss t.vs).1,g∈t.gs:=by
 obtain⟨h1,h2,-⟩:=gF h;obtain⟨h3,-⟩:=kW h1;intro g hg;obtain⟨n,hn,rfl⟩:=List.mem_map.1 hg;have:=h2 n hn;have:=h3 n hn;exact xD (by omega)
theorem fI {t:Trc}(hf:Sm t)(h:dcO t=true)(hz:(yY t.gs (yE t.ss t.vs).1).all nzS=true):∀g∈(yY t.gs (yE t.ss t.vs).1).map nmS,Cl g:=by
 intro g hg;obtain⟨x,hx,rfl⟩:=List.mem_map.1 hg;have hm:=zGk h x hx;obtain⟨b1,b2⟩:=hf.cs x hm;have hz:=List.all_eq_true.1 hz x hx;unfold nzS at hz;rw[Bool.and_eq_true]at hz;have hl:=oY x.1 x.2.2 (ini x.1 x.2.1);exact⟨by show(nrm x.1 (ini x.1 x.2.1) x.2.2).length<=1000;omega,λc hc=>b2 c (sX _ _ c hc),hz.1,zYu hz.2,λc hc=>((dH.1 hz.2).2 c (sX _ _ c hc)).2⟩
theorem BdS.tk {t:Trc}{s w g a:Value}{bb:Nat}{h q:SH}{S':List Scp}{V:List Vr}{C:List Sgc}{G:List (Int × Int)}{en:Int}(k:BdS t s w g a bb h S' V C G en q):zA q h:=by
 obtain⟨s2,v2,g3,A2,X,q2,rfl,-,-,-,-,ht⟩:=k;exact .drop (zA.drops ht)
theorem yMu (t:Trc)(s w g a:Value)(bb:Nat)(h:SH)(hf:Sm t)(h1:Has h (zF scF t.ss) 3 t.ss.length s)(h2:Has h (zF vrF t.vs) 7 t.vs.length w)(h3:tY h t.gs g)(h4:Has h (zF prF t.ga) 2 t.ga.length a)(i:Nat)(q:SH)(hi:i<6)(hJ:bdJ t s w g a bb h i q) :
  zH Tryz.prog (bdM i) [zG bb 0 18] q λr q'=>(r=I 0/\bdJ t s w g a bb h (i+1) q')\/(bld t=none/\∃e:Int,e≠0/\r=I e/\q'=h):=by
 have hsl:dcO t=true->(yY t.gs (yE t.ss t.vs).1).length<=100:=λhd=>by
  have:=(gF hd).2.2;unfold yY;rw[List.length_map];omega
 obtain rfl|rfl|rfl|rfl|rfl|rfl:i=0\/i=1\/i=2\/i=3\/i=4\/i=5:=by omega
 ·obtain rfl:q=_:=hJ
  refine(yJq t s w g a bb h hf).mono λr q' k=>?_;rcases k with⟨k1,k2,k3⟩|⟨k1,k2⟩
  ·exact .inl ⟨k2,k1,k3⟩
  ·exact .inr ⟨by unfold bld;rw[if_pos k1],k2⟩
 ·obtain⟨hx,rfl⟩:txO t=true/\q=_:=hJ
  refine(yJu t s w g a bb h hf h1 h2 h3).mono λr q' k=>?_;rcases k with⟨k1,k2,k3⟩|⟨k1,k2⟩
  ·exact .inl ⟨k2,⟨hx,k1⟩,k3⟩
  ·exact .inr ⟨by unfold bld;rw[if_neg (by rw[hx];decide),if_pos k1],k2⟩
 ·obtain⟨⟨hx,hd⟩,hB⟩:=hJ
  obtain⟨hc,-,-⟩:=gF hd;have hl:=@aR t.ss t.vs;have hf5:=hf.vs;refine(zXs t s w g a bb h q _ _ _ _ _ hB (by omega) (hsl hd) (λj hj=>?_)).mono λr q' k=>?_
  ·have:=(kW hc).2 j (by omega)
   unfold yY;rw[List.length_map];exact this
  rcases k with⟨k1,k2,rfl⟩|⟨k1,k2⟩
  ·exact .inl ⟨k2,⟨hx,hd,k1⟩,hB⟩
  ·exact .inr ⟨by unfold bld;rw[if_neg (by rw[hx];decide),if_neg (by rw[hd];decide),if_pos k1],k2⟩
 ·obtain⟨⟨hx,hd,ht⟩,hB⟩:=hJ
  refine(yCq t s w g a bb h q _ _ _ _ _ hB (hsl hd) (λx hx=>?_)).mono λr q' k=>?_
  ·have:=hf.cs x (zGk hd x hx)
   exact⟨by omega,this.2⟩
  rcases k with⟨k1,k2,k3⟩|⟨k1,k2⟩
  ·exact .inl ⟨k2,⟨hx,hd,ht,k1⟩,k3⟩
  ·exact .inr ⟨by unfold bld;rw[if_neg (by rw[hx];decide),if_neg (by rw[hd];decide),if_neg (by rw[ht];decide),if_pos k1],k2⟩
 ·obtain⟨⟨hx,hd,ht,hz⟩,hB⟩:=hJ
  have hCl:=fI hf hd hz;refine(zZo t s w g a bb h q _ _ _ hB h4 (by rw[List.length_map];exact hsl hd) hf.ga (λx hx=>⟨by have:=(hCl x hx).le;omega,λc hc=>⟨by have:=iN (hCl x hx).nf.io c hc;omega,(hCl x hx).nf.le c hc⟩⟩)).mono λr q' k=>?_;rcases k with⟨O,e,k1,k2,k3,k4⟩|⟨k1,k2⟩
  ·exact .inl ⟨k3,O,e,⟨hx,hd,ht,hz,k1,k2⟩,k4⟩
  ·refine .inr ⟨?_,k2⟩
   unfold bld;rw[if_neg (by rw[hx];decide),if_neg (by rw[hd];decide),if_neg (by rw[ht];decide),if_neg (by rw[hz];decide)];by_cases he:0<=t.en/\t.en<=1099511627776
   ·rw[if_neg (λk=>k he),k1 he]
   ·rw[if_pos he]
 ·obtain⟨O,e,⟨hx,hd,ht,hz,he,hm⟩,hB⟩:=hJ
  have hCl:=fI hf hd hz;obtain⟨q1,q2,q3,-,q5,-⟩:=zIv (O:=[]) ⟨trivial,λk=>absurd rfl k,λg hg=>by cases hg⟩ hm;have hE:=@zLn ((yY t.gs (yE t.ss t.vs).1).map nmS) e;have hEm:=hE.2.1 (q2 he.2) (λg hg c hc=>(hCl g hg).nf.le c hc);rw[List.length_nil,Nat.zero_add]at q3;have hf7:=hf.ga;have hbl:bld t=if O.length<=16/\tot 0 (((yY t.gs (yE t.ss t.vs).1).map nmS).map (clS (tmE e ((yY t.gs (yE t.ss t.vs).1).map nmS)) O))<=4096 then
    some ⟨t.sc,t.da,t.ve,t.co,(xN t.ss).1,(yE t.ss t.vs).2,((yY t.gs (yE t.ss t.vs).1).map nmS).map (clS (tmE e ((yY t.gs (yE t.ss t.vs).1).map nmS)) O),O,tmE e ((yY t.gs (yE t.ss t.vs).1).map nmS)⟩else none:=by
   unfold bld;rw[if_neg (by rw[hx];decide),if_neg (by rw[hd];decide),if_neg (by rw[ht];decide),if_neg (by rw[hz];decide),if_neg (λk=>k he),hm]
  refine(yOi t s w g a bb h q _ _ _ _ _ hB (by rw[List.length_map];exact hsl hd) hCl q1.1 q1.2 ⟨by omega,hEm⟩ (by omega)).mono λr q' k=>?_;rcases k with⟨k1,k2,k3⟩|⟨k1,k2⟩
  ·rw[if_pos k1]at hbl
   exact .inl ⟨k2,_,hbl,⟨rfl,rfl,rfl,rfl⟩,k3⟩
  ·rw[if_neg k1]at hbl
   exact .inr ⟨hbl,k2⟩
theorem yDg {t:Trc}{s w g a:Value}{bb Af:Nat}{h h1:SH}{b:Blk}(hp:Pick h Af b h1)(i:Nat)(q:SH)(hJ:bdJ t s w g a bb h i q):∃h1,Pick q Af b h1:=by
 have ht:zA q h:=by
  rcases i with _|_|_|_|_|_|i
  ·obtain rfl:q=_:=hJ;exact .drop .nil
  ·obtain⟨-,rfl⟩:txO t=true/\q=_:=hJ;exact .drop .nil
  ·obtain⟨-,hB⟩:=hJ;exact hB.tk
  ·obtain⟨-,hB⟩:=hJ;exact hB.tk
  ·obtain⟨-,hB⟩:=hJ;exact hB.tk
  ·obtain⟨O,e,-,hB⟩:=hJ;exact hB.tk
  ·obtain⟨x,-,-,hB⟩:=hJ;exact hB.tk
 obtain⟨h2,k,-⟩:=ht.pick hp;exact⟨h2,k⟩
end Go.Proofs.YtbidadebolllkaaGreatDoor
end
section
set_option maxRecDepth 4000
namespace Go.Proofs.YtbidadebolllkaaGreatDoor
open Go.Gh Go.RowKit

theorem yGt {x0 x1 x2 x3 x4 x5 x6 x7 x8 y0 y1 y2 y3 y4 y5 y6 y7 y8 z0 z1 z2 z3 z4 z5 z6 z7 z8:Value}:rJ [z0,z1,z2,z3,z4,z5,z6,z7,z8,y0,y1,y2,y3,y4,y5,y6,y7,y8] 0 [x0,x1,x2,x3,x4,x5,x6,x7,x8] [x0,x1,x2,x3,x4,x5,x6,x7,x8,y0,y1,y2,y3,y4,y5,y6,y7,y8]:=⟨show 9<=18 by decide,rfl⟩
theorem yKm {x0 x1 x2 x3 x4 x5 x6 x7 x8 y0 y1 y2 y3 y4 y5 y6 y7 y8:Value}:xF [x0,x1,x2,x3,x4,x5,x6,x7,x8,y0,y1,y2,y3,y4,y5,y6,y7,y8] (0+9) [y0,y1,y2,y3,y4,y5,y6,y7,y8] :=
 zHs (l:=[x0,x1,x2,x3,x4,x5,x6,x7,x8,y0,y1,y2,y3,y4,y5,y6,y7,y8]) (o:=0+9) (n:=9) (show 0+9+9<=18 by decide)
abbrev zTr :Value:=.agg ⟨[I 0,S [],S [],S [],nS,nS,nS,nS,I 0]⟩
def BlR (t:Trc)(h:SH)(r:Value)(q:SH):Prop:=(∃x v',bld t=some x/\r=.tuple #[v',I 0]/\TrH q x v'/\zA q h)\/(bld t=none/\∃e:Int,e≠0/\r=.tuple #[zTr,I e]/\q=h)
theorem zYo (t:Trc)(v:Value)(h:SH)(hv:TrH h t v)(hf:Sm t):zH Tryz.prog 45 [v] h (BlR t h):=by
 obtain⟨s,w,g,a,rfl,h1,h2,h3,h4⟩:=hv;obtain⟨ad1,fl1,rfl,-⟩:=id h1;obtain⟨ad2,fl2,rfl,-⟩:=id h2;obtain⟨ad3,fl3,rfl⟩:∃ad fl,g=.slice ad t.gs.length fl:=by obtain⟨xs,_,⟨ad,fl,e,_⟩,_⟩:=h3;exact⟨ad,fl,e⟩
 obtain⟨ad4,fl4,rfl,-⟩:=id h4;unfold trV;have hS:=λ(bb Af:Nat) (r:SH)=>zH.frame (r:=r) (yDt bb Af (bdJ t (.slice ad1 t.ss.length fl1) (.slice ad2 t.vs.length fl2) (.slice ad3 t.gs.length fl3) (.slice ad4 t.ga.length fl4) bb ((Af,⟨(List.range 6).map (nJ bb),false⟩)::h)) (bld t=none) ((Af,⟨(List.range 6).map (nJ bb),false⟩)::h)
  _ rfl (λi q hi hJ=>yMu t _ _ _ _ bb _ hf (h1.re (.drop .nil)) (h2.re (.drop .nil)) (h3.re (.drop .nil)) (h4.re (.drop .nil)) i q hi hJ) (λi q hJ=>yDg .head i q hJ))
 replace hS:∀(bb Af n1 n2:Nat) (c1 c2:Blk),zH Tryz.prog 106 [gsl Af 0 (6*1) 6 1] ((bb,⟨[I t.sc,S t.da,S t.ve,S t.co,.slice ad1 t.ss.length fl1,.slice ad2 t.vs.length fl2,.slice ad3 t.gs.length fl3,.slice ad4 t.ga.length fl4,I t.en,I 0,S [],S [],S [],nS,nS,nS,nS,I 0],false⟩)::(Af,⟨[.func (.func 107) #[zG bb 0 18] #[],.func (.func 108) #[zG bb 0 18] #[],.func (.func 109) #[zG bb 0 18] #[],.func (.func 110) #[zG bb 0 18] #[],.func (.func 111) #[zG bb 0 18] #[],.func (.func 112) #[zG bb 0 18] #[]],false⟩)::(n1,c1)::(n2,c2)::h) λr' q =>
   (r'=I 0/\∃x a1 f1 a2 f2 a3 f3 A2 X q2,bld t=some x/\q=(n1,c1)::(n2,c2)::(bb,⟨[I t.sc,S t.da,S t.ve,S t.co,.slice ad1 t.ss.length fl1,.slice ad2 t.vs.length fl2,.slice ad3 t.gs.length fl3,.slice ad4 t.ga.length fl4,I t.en,I t.sc,S t.da,S t.ve,S t.co,(.slice a1 x.ss.length f1),(.slice a2 x.vs.length f2),os A2 3 x.gs.length,(.slice a3 x.ga.length f3),I x.en],false⟩)::(ob A2 (zF sgF X) x.gs.length++q2) /\
    (∀q',zA q' (ob A2 (zF sgF X) x.gs.length++q2)->TrH q' x (.agg ⟨[I t.sc,S t.da,S t.ve,S t.co,(.slice a1 x.ss.length f1),(.slice a2 x.vs.length f2),os A2 3 x.gs.length,(.slice a3 x.ga.length f3),I x.en]⟩))/\zA q2 h) \/
   (bld t=none/\∃e:Int,e≠0/\r'=I e/\q=(n1,c1)::(n2,c2)::(Af,⟨[.func (.func 107) #[zG bb 0 18] #[],.func (.func 108) #[zG bb 0 18] #[],.func (.func 109) #[zG bb 0 18] #[],.func (.func 110) #[zG bb 0 18] #[],.func (.func 111) #[zG bb 0 18] #[],.func (.func 112) #[zG bb 0 18] #[]],false⟩)::h):=λbb Af n1 n2 c1 c2=>zH.take (.cons (.tail (.tail .head)) (.cons (.tail (.tail .head)) .nil)) ((hS bb Af [(n1,c1),(n2,c2)]).mono λr' q ⟨q',k,hq⟩=>by
  rcases k with⟨k1,x,k2,⟨x1,x2,x3,x4⟩,k3⟩|⟨k1,e,k2,k3,k4⟩
  ·obtain⟨s2,v2,g3,A2,X,q2,rfl,b1,b2,b3,⟨b4,b5⟩,b6⟩:=k3
   obtain⟨a1,f1,rfl,-⟩:=id b1;obtain⟨a2,f2,rfl,-⟩:=id b2;obtain⟨a3,f3,rfl,-⟩:=id b3;refine .inl ⟨k1,x,a1,f1,a2,f2,a3,f3,A2,X,q2,k2,hq,λq' ht=>?_,b6.trans (.drop .nil)⟩;have ht2:zA q' q2:=ht.trans (zA.drops .nil);exact⟨_,_,os A2 3 x.gs.length,_,by unfold trV;rw[x1,x2,x3,x4],b1.re ht2,b2.re ht2,⟨X,b4,rW.re ht,λi hi=>(b5 i hi).re ht2⟩,b3.re ht2⟩
  ·exact .inr ⟨k1,e,k2,k3,by rw[hq,k4];rfl⟩)
 refine yG Tryz.func45 rfl rfl ?_
 repeat'((fail_if_success (show SWp _ _ (Code.seq (Code.region 1 _ _) _) _ _ _));(fail_if_success (show SWp _ _ (Code.region 1 _ _) _ _ _));first|apply zE|apply zD|apply zC|refine jg ?_ ?_|refine jy ?_|refine jx ?_|apply zB|exact jS|intro A)
 rename_i b1;obtain⟨b2,rfl⟩:∃m,m=A:=⟨_,rfl⟩
 repeat'((fail_if_success (show SWp _ _ (Code.seq (Code.region 2 _ _) _) _ _ _));(fail_if_success (show SWp _ _ (Code.region 2 _ _) _ _ _));first|apply zE|apply zD|apply zC|refine jg ?_ ?_|(apply jl;exact jI)|refine jx ?_|(apply xZ zK;exact rfl;exact rfl;(focus first|with_reducible exact yFa);exact rfl;(focus repeat(first|exact yT.nil|(apply yT.agg;exact rfl;exact rfl;(first|exact yGt))));exact rfl)|apply zB|exact jS|exact jL|exact jU|exact True.intro|intro A|exact rfl)
 obtain⟨bb,rfl⟩:∃m,m=A:=⟨_,rfl⟩
 repeat'(first|apply zE|apply zD|apply zC|refine jg ?_ ?_|(apply jl;exact jI)|(apply js;exact jJ)|(apply xZ zK;exact rfl;exact rfl;(focus first|with_reducible exact oS);exact rfl;(focus repeat(first|exact yT.nil));exact rfl)|refine jb ?_|(apply rK;iterate 3 exact rfl)|(refine jc ?_ (c:=by exact⟨_,hS bb _ b2 b1 _ _,jC⟩);rintro _ _ (⟨rfl,x,a1,f1,a2,f2,a3,f3,A2,X,q2,hb,rfl,hT,ht⟩|⟨hb,e,he,rfl,rfl⟩))|(apply zX;exact rfl)|(apply tC;exact rfl;exact ‹_›)|apply zB|apply zV|apply zL|apply zJ|exact jS|exact jL|exact jP|((with_reducible apply Su.mk);first|exact yKm)|exact True.intro|intro A|exact rfl)
 all_goals first
  |contradiction
  |(apply yA;(exact(show zO _ _ _ _ [_,_] from jY));exact .inr ⟨hb,e,he,rfl,rfl⟩;exact jT)
  |(apply yA;(exact(show zO _ _ _ _ [_,_] from jY));exact .inl ⟨x,_,hb,rfl,hT _ .nil,(zA.drops .nil:zA _ q2).trans ht⟩;exact jT)
theorem TrH.sl {h:SH}{t:Trc}{v:Value}(k:TrH h t v):∃a1 f1 a2 f2 a3 f3 a4 f4,v=.agg ⟨[I t.sc,S t.da,S t.ve,S t.co,.slice a1 t.ss.length f1,.slice a2 t.vs.length f2,.slice a3 t.gs.length f3,.slice a4 t.ga.length f4,I t.en]⟩:=by
 obtain⟨s,w,g,a,rfl,h1,h2,h3,h4⟩:=k;obtain⟨ad1,fl1,rfl,-⟩:=h1;obtain⟨ad2,fl2,rfl,-⟩:=h2;obtain⟨xs,_,⟨ad3,fl3,rfl,_⟩,_⟩:=h3;obtain⟨ad4,fl4,rfl,-⟩:=h4;exact⟨_,_,_,_,_,_,_,_,rfl⟩
noncomputable def vT (t:Trc):Bool:=match bld t with
 |some x=>teq x t
 |none=>false
theorem kX {t:Trc}:vT t=true↔bld t=some t:=by
 unfold vT;cases hb:bld t with
 |none=>exact⟨λk=>Bool.noConfusion k,λk=>by cases k⟩
 |some x=>exact⟨λk=>by rw[zHc.1 k],λk=>zHc.2 (Option.some.inj k)⟩
theorem yBw (l m:List Scp)(u v:Value)(h:SH)(hu:Has h (zF scF l) 3 l.length u)(hv:Has h (zF scF m) 3 m.length v)(h2:m.length<=100000) :
  zH Tryz.prog 26 [u,v] h λr q=>r=B (decide (l=m))/\q=h:=by
 by_cases e:l.length=m.length
 ·exact yJr l m u v h hu hv (by omega) h2
 ·rw[decide_eq_false λg=>e (by rw[g])]
  obtain⟨ad,fl,rfl,-⟩:=hu;obtain⟨ad2,fl2,rfl,-⟩:=hv;refine yJ Tryz.func26 rfl rfl ?_
  repeat'(first|apply zE|apply zD|apply zC|refine jg ?_ ?_|refine jd ?_|apply zB|apply zV|apply zJ|exact jS|fail)
  all_goals first|exact jX|exact jG
structure Sz2 (t:Trc):Prop where
 vs:t.vs.length<=1000
 gs:t.gs.length<=1000
 ga:t.ga.length<=1000
 cs:∀g∈t.gs,g.2.2.length<=100000
theorem zTy (a b:Trc)(u v:Value)(h:SH)(hu:TrH h a u)(hv:TrH h b v)(ha:Sz2 a)(hb:Sz2 b)(hbs:b.ss.length<=1000):zH Tryz.prog 9 [u,v] h λr q=>r=B (teq a b)/\q=h:=by
 obtain⟨s,w,g,l,rfl,h1,h2,h3,h4⟩:=hu;obtain⟨s',w',g',l',rfl,k1,k2,k3,k4⟩:=hv;obtain⟨a2,a3,a4,a5⟩:=ha;obtain⟨b2,b3,b4,b5⟩:=hb;have e1:=λh x y=>yBw a.ss b.ss s s' h x y (by omega);have e2:=λh x y=>yQi a.vs b.vs w w' h x y (by omega) (by omega);have e3:=λh x y=>yEx a.gs b.gs g g' h x y (by omega) (by omega) a5 b5;have e4:=λh x y=>yMz a.ga b.ga l l' h x y (by omega) (by omega);obtain⟨ad1,fl1,rfl,-⟩:=id h1;obtain⟨ad2,fl2,rfl,-⟩:=id h2;obtain⟨ad4,fl4,rfl,-⟩:=id h4;obtain⟨ae1,fe1,rfl,-⟩:=id k1;obtain⟨ae2,fe2,rfl,-⟩:=id k2;obtain⟨ae4,fe4,rfl,-⟩:=id k4;obtain⟨ad3,fl3,rfl⟩:∃ad fl,g=.slice ad a.gs.length fl:=by obtain⟨xs,_,⟨ad,fl,e,_⟩,_⟩:=h3;exact⟨ad,fl,e⟩
 obtain⟨ae3,fe3,rfl⟩:∃ad fl,g'=.slice ad b.gs.length fl:=by obtain⟨xs,_,⟨ad,fl,e,_⟩,_⟩:=k3;exact⟨ad,fl,e⟩
 unfold teq trV;refine yJ Tryz.func9 rfl rfl ?_
 repeat'(first|apply zE|apply zD|apply zC|refine jg ?_ ?_|(apply jm;exact jI)|refine jx ?_|(apply zZ;exact rfl;exact rfl;exact rfl;exact rfl;exact⟨_,e1 _ (h1.re jD) (k1.re jD),zA.nil⟩;rintro _ _ ⟨rfl,rfl⟩)|(apply zZ;exact rfl;exact rfl;exact rfl;exact rfl;exact⟨_,e2 _ (h2.re jD) (k2.re jD),zA.nil⟩;rintro _ _ ⟨rfl,rfl⟩)|(apply zZ;exact rfl;exact rfl;exact rfl;exact rfl;exact⟨_,e3 _ (h3.re jD) (k3.re jD),zA.nil⟩;rintro _ _ ⟨rfl,rfl⟩)|(apply zZ;exact rfl;exact rfl;exact rfl;exact rfl;exact⟨_,e4 _ (h4.re jD) (k4.re jD),zA.nil⟩;rintro _ _ ⟨rfl,rfl⟩)|refine jw ?_|refine jk ?_|(apply rX;(iterate 3 exact rfl);all_goals intro hc)|apply zB|apply zJ|exact jS|exact jL|exact jE|exact True.intro|intro A|exact rfl)
 all_goals first
  |contradiction
  |exact jF (k:=by exact⟨congrArg B (decide_eq_false λg=>by obtain⟨g1,g2,g3,g4,g5,g6,g7,g8,g9⟩:=g;contradiction).symm,rfl⟩)
  |exact jF (k:=by exact⟨congrArg B (decide_eq_decide.2 ⟨λg=>⟨by assumption,by assumption,by assumption,by assumption,by assumption,by assumption,by assumption,by assumption,g⟩,λg=>g.2.2.2.2.2.2.2.2⟩),rfl⟩)
theorem yCx {t x:Trc}(hf:Sm t)(h:bld t=some x):Sz2 x:=by
 unfold bld at h;by_cases hx:txO t=false
 ·rw[if_pos hx]at h;cases h
 rw[if_neg hx]at h;by_cases hd:dcO t=false
 ·rw[if_pos hd]at h;cases h
 rw[if_neg hd]at h;by_cases ht:(yE t.ss t.vs).2.all (tyB (yY t.gs (yE t.ss t.vs).1))=false
 ·rw[if_pos ht]at h;cases h
 rw[if_neg ht]at h;by_cases hz:(yY t.gs (yE t.ss t.vs).1).all nzS=false
 ·rw[if_pos hz]at h;cases h
 rw[if_neg hz]at h;by_cases he:¬(0<=t.en/\t.en<=1099511627776)
 ·rw[if_pos he]at h;cases h
 rw[if_neg he]at h;rw[Bool.not_eq_false]at hd hz;have hCl:=fI hf hd hz;have h64:=(gF hd).2.2;have hvl:=(@aR t.ss t.vs).1;have hfv:=hf.vs;cases hm:tmG 0 [] t.en t.ga with
 |none=>rw[hm]at h;cases h
 |some y =>
  rw[hm]at h;obtain⟨O,e⟩:=y;dsimp only at h;split at h
  ·rename_i hlim
   obtain rfl:=Option.some.inj h;refine⟨by show(yE t.ss t.vs).2.length<=1000;omega,by show(List.map _ (List.map _ (yY _ _))).length<=1000;unfold yY;rw[List.length_map,List.length_map,List.length_map];omega,by show O.length<=1000;omega,λg hg=>?_⟩;obtain⟨y,hy,rfl⟩:=List.mem_map.1 hg;have hyl:=(hCl y hy).le;unfold clS;split
   ·have:=@zIq y.2.1 (tmE e ((yY t.gs (yE t.ss t.vs).1).map nmS)) O y.2.2
    show(wY _ _ _ _).length<=100000;omega
   ·omega
  ·cases h
theorem bD (t:Trc)(v:Value)(h:SH)(hv:TrH h t v)(hf:Sm t):zH Tryz.prog 17 [v] h λr q=>r=B (vT t)/\q=h:=by
 have hB:∀(b1:Nat) (c:Blk) (h:SH),TrH ((b1,c)::h) t v->zH Tryz.prog 45 [v] ((b1,c)::h) λr q=>(∃x a1 f1 a2 f2 a3 f3 a4 f4 h1,bld t=some x/\r=.tuple #[.agg ⟨[I x.sc,S x.da,S x.ve,S x.co,.slice a1 x.ss.length f1,.slice a2 x.vs.length f2,.slice a3 x.gs.length f3,.slice a4 x.ga.length f4,I x.en]⟩,I 0]/\TrH q x (.agg ⟨[I x.sc,S x.da,S x.ve,S x.co,.slice a1 x.ss.length f1,.slice a2 x.vs.length f2,.slice a3 x.gs.length f3,.slice a4 x.ga.length f4,I x.en]⟩)/\Pick q b1 c h1/\zA q h)\/(bld t=none/\∃e:Int,e≠0/\r=.tuple #[zTr,I e]/\q=(b1,c)::h):=λb1 c h hv =>
  (zYo t v _ hv hf).mono λr q k=>by
   rcases k with⟨x,v',k1,k2,k3,k4⟩|k
   ·obtain⟨a1,f1,a2,f2,a3,f3,a4,f4,rfl⟩:=k3.sl
    obtain⟨h1,k5,-⟩:=k4.pick .head;exact .inl ⟨x,a1,f1,a2,f2,a3,f3,a4,f4,h1,k1,k2,k3,k5,k4.trans (.drop .nil)⟩
   ·exact .inr k
 have hEq:=λx (hb:bld t=some x) u h hu hv=>zTy x t u v h hu hv (yCx hf hb) ⟨by have:=hf.vs;omega,by have:=hf.gs;omega,by have:=hf.ga;omega,λg hg=>by have:=(hf.cs g hg).1;omega⟩ (by have:=hf.ss;omega);obtain⟨ad1,fl1,ad2,fl2,ad3,fl3,ad4,fl4,rfl⟩:=hv.sl;unfold vT;refine yG Tryz.func17 rfl rfl ?_
 repeat'((fail_if_success (show SWp _ _ (Code.seq (Code.region 1 _ _) _) _ _ _));(fail_if_success (show SWp _ _ (Code.region 1 _ _) _ _ _));first|apply zE|apply zD|apply zC|refine jg ?_ ?_|refine jx ?_|apply zB|exact jS|intro A)
 obtain⟨b1,rfl⟩:∃m,m=A:=⟨_,rfl⟩
 repeat'(first|apply zE|apply zD|apply zC|refine jg ?_ ?_|(apply jl;exact jI)|(apply js;exact jJ)|refine jy ?_|(apply zZ;exact rfl;exact rfl;exact rfl;exact rfl;exact⟨_,hB _ _ _ (hv.re jD),zA.nil⟩;rintro _ _ (⟨x,a1,f1,a2,f2,a3,f3,a4,f4,h9,hb,rfl,hT,hpb,ht⟩|⟨hb,e,he,rfl,rfl⟩))|(apply zZ;exact rfl;exact rfl;exact rfl;exact rfl;exact⟨_,hEq _ hb _ _ (hT.re jD) (hv.re (by repeat(first|exact ht|with_reducible apply zA.drop))),zA.nil⟩;rintro _ _ ⟨rfl,rfl⟩)|refine jw ?_|refine jk ?_|(apply tO;(iterate 3 exact rfl);omega;exact rfl)|apply zB|apply zJ|exact jS|exact jL|exact jP|exact jU|exact True.intro|intro A|exact rfl)
 all_goals first
  |contradiction
  |(apply yA;(exact(show zO _ _ _ _ [_] from⟨rfl,trivial⟩));exact⟨by rw[hb];rfl,rfl⟩;(focus repeat(first|with_reducible exact zA.nil|exact ht|with_reducible apply zA.c|with_reducible apply zA.drop|with_reducible apply zA.pre|with_reducible apply zA.drops)))

theorem zZn {ga O:List (Int × Int)}{i:Nat}(h:i<ga.length):(ga.drop i).foldl mrg O=(ga.drop (i+1)).foldl mrg (mrg O ga[i]!):=by rw[wD h];rfl
theorem zYe (ga:List (Int × Int))(v:Value)(h:SH)(hv:Has h (zF prF ga) 2 ga.length v)(hl:ga.length<=1000) :
  zH Tryz.prog 60 [v] h λr q=>GrR prF 2 h (jnd ga) r q:=by
 obtain⟨ad,fl,rfl,hh⟩:=hv;have hlb:=yK (f:=prF) (w:=2) (λ_=>rfl) ga;obtain⟨R,hR⟩:∃R,jnd ga=R:=⟨_,rfl⟩;rw[hR];refine yG Tryz.func60 rfl rfl ?_
 repeat'(first|apply zE|apply zD|apply zC|refine jg ?_ ?_|apply zB|apply zM|exact jS|fail)
 all_goals try exact jX
 refine yH (S:=Nat × List (Int × Int) × Value × SH) (λx=>[(3,x.2.2.1),(7,.slice ad ga.length fl),(8,I ga.length),(9,I x.1)]) (λx=>x.2.2.2) (λx=>x.1<=ga.length/\x.2.1.length<=x.1/\GrR prF 2 h x.2.1 x.2.2.1 x.2.2.2/\(ga.drop x.1).foldl mrg x.2.1=R) (λx=>ga.length-x.1) (0,[],nS,h) ⟨Nat.zero_le _,Nat.zero_le _,.nil,hR⟩ jB (by exact zA.nil) ?_;rintro⟨i,O,u,q⟩ ⟨hi,hO,hG,hg⟩;dsimp only at hi hO hG hg ⊢;by_cases hil:i<ga.length
 ·obtain⟨A',ro,p1,rfl,hp⟩:=hh (by omega)
  obtain⟨p2,hp2,_⟩:=hG.tk.pick hp;rw[zZn hil]at hg;have hmb:=(@zDc O ga[i]!).1;have hob:=yK (f:=prF) (w:=2) (λ_=>rfl) O;obtain⟨y,hy⟩:∃y,ga[i]! = y:=⟨_,rfl⟩;have hsub:xF (zF prF ga) (0+((i:Int)).toNat*2) (prF y):=by rw[<-hy];exact xO (λ_=>rfl) hil
  rw[hy]at hg hmb;obtain⟨y1,y2⟩:=y;cases hG with
  |nil =>
   have hmr:mrg [] (y1,y2)=[(y1,y2)]:=if_neg λk=>k.1 rfl
   repeat'(first|apply zE|apply zD|apply zC|refine jr ?_|refine jg ?_ ?_|(apply ja;exact jH)|(apply jl;exact jI)|(apply js;exact jJ)|refine jy ?_|(apply xT zK;(iterate 5 exact rfl);decide;exact rfl;decide;(focus repeat(first|exact xE.last rfl));exact rfl)|(apply qD zK;(iterate 5 exact rfl);exact⟨by decide⟩;exact pk)|refine jk ?_|(apply zX;exact rfl)|refine jd ?_|apply zB|apply zQ|apply zL|apply zM|exact jV|((with_reducible apply Ln.mk);first|rfl|(simp[hlb,hob];first|done|omega))|exact jW|exact jP|((with_reducible apply Su.mk);first|exact hsub|exact xY)|exact True.intro|intro A|exact rfl)
   all_goals first
    |exact jX
    |exact⟨(i+1,mrg [] (y1,y2),gsl A 0 (1*2) 1 2,(A,⟨prF (y1,y2),false⟩)::h),⟨hil,by show(mrg [] (y1,y2)).length<=i+1;rw[hmr];show 1<=i+1;omega,by show GrR prF 2 h (mrg [] (y1,y2)) _ _;rw[hmr];exact .ofc (f:=prF) (l:=[(y1,y2)]) (n:=1) (k:=1*2) tW.symm rfl rfl,hg⟩,by show ga.length-(i+1)<ga.length-i;omega,jB,jT⟩
  |some A4 _ hO0 =>
   have hOp:0<O.length:=by
    rcases Nat.eq_zero_or_pos O.length with k|k
    ·exact absurd (List.length_eq_zero_iff.1 k) hO0
    ·exact k
   have hcl:(zF prF O)[0+((O.length:Int)-1).toNat*2+1]?=some (I O[O.length-1]!.2):=by
    rw[show((O.length:Int)-1).toNat=O.length-1 by omega];exact tX (λ_=>rfl) (by omega) (by decide) rfl
   have hst:=zOq (x:=max O[O.length-1]!.2 y2) hO0;by_cases hm:y1<=O[O.length-1]!.2
   ·have hmr:mrg O (y1,y2)=O.take (O.length-1)++[(O[O.length-1]!.1,max O[O.length-1]!.2 y2)]:=if_pos ⟨hO0,hm⟩
    have hml:(O.take (O.length-1)++[(O[O.length-1]!.1,max O[O.length-1]!.2 y2)]).length=O.length:=by rw[List.length_append,List.length_take,List.length_singleton];omega
    repeat'(first|apply zE|apply zD|apply zC|refine jr ?_|refine jg ?_ ?_|(apply ja;exact jH)|(apply uQ;iterate 3 exact rfl)|(apply jm;exact jI)|(apply jl;exact jI)|(apply yV zK;(iterate 4 exact rfl);exact up)|(apply js;exact jJ)|refine jy ?_|refine jw ?_|refine jh ?_|refine jd ?_|apply zB|apply zQ|apply zL|apply zM|exact jO|((with_reducible apply Ln.mk);first|rfl|omega|(simp[hlb,hob];first|done|omega))|exact jW|((with_reducible apply Ce.mk);first|rfl|exact hcl)|((with_reducible apply Se.mk);first|exact hst)|exact jP|((with_reducible apply Su.mk);first|exact hsub)|exact True.intro|exact Or.inl rfl|apply And.intro|intro A|exact rfl)
    all_goals first
     |exact jX
     |exact⟨(i+1,mrg O (y1,y2),gsl A4 0 (O.length*2) O.length 2,(A4,⟨zF prF (O.take (O.length-1)++[(O[O.length-1]!.1,max O[O.length-1]!.2 y2)]),false⟩)::h),⟨hil,by show(mrg O (y1,y2)).length<=i+1;omega,by show GrR prF 2 h (mrg O (y1,y2)) _ _;rw[hmr];exact .ofc rfl hml rfl,hg⟩,by show ga.length-(i+1)<ga.length-i;omega,jB,jT⟩
   ·have hmr:mrg O (y1,y2)=O++[(y1,y2)]:=if_neg λk=>hm k.2
    repeat'(first|apply zE|apply zD|apply zC|refine jr ?_|refine jg ?_ ?_|(apply ja;exact jH)|(apply jm;exact jI)|(apply jl;exact jI)|(apply js;exact jJ)|refine jy ?_|(apply xT zK;(iterate 5 exact rfl);decide;exact rfl;decide;(focus repeat(first|exact xE.last rfl));exact rfl)|(apply qK zK;(iterate 5 exact rfl);exact⟨by decide⟩;exact up;exact pk)|refine jw ?_|refine jh ?_|refine jd ?_|refine jf ?_|apply zB|apply zQ|apply zL|apply zM|exact jV|((with_reducible apply Ln.mk);first|rfl|omega|(simp[hlb,hob];first|done|omega))|exact jW|((with_reducible apply Ce.mk);first|rfl|exact hcl)|exact jP|((with_reducible apply Su.mk);first|exact hsub|exact xY)|exact True.intro|intro A|exact rfl)
    all_goals first
     |exact jX
     |exact⟨(i+1,mrg O (y1,y2),gsl A4 0 (O.length*2+1*2) (O.length+1) 2,(A4,⟨zF prF O++prF (y1,y2),false⟩)::h),⟨hil,by show(mrg O (y1,y2)).length<=i+1;omega,by show GrR prF 2 h (mrg O (y1,y2)) _ _;rw[hmr];exact .ofc (f:=prF) (l:=O++[(y1,y2)]) (n:=O.length+1) rO.symm (by simp) (by omega),hg⟩,by show ga.length-(i+1)<ga.length-i;omega,jB,jT⟩
 ·rw[List.drop_of_length_le (by omega)]at hg
  replace hg:O=R:=hg;subst hg;obtain⟨adu,flu,rfl⟩:=hG.sl
  repeat'(first|apply zE|apply zD|apply zC|refine jg ?_ ?_|refine jf ?_|apply zB|apply zW|apply zT|apply zJ|apply zU|exact jS|fail)
  all_goals first|exact jX|exact jF (k:=by exact hG)
theorem yDe {f e:Int}{ga:List (Int × Int)}{i:Nat}(h:i<ga.length):cgs f e (ga.take (i+1))=cgs f e (ga.take i)++if(clp f e ga[i]!).1<(clp f e ga[i]!).2 then [clp f e ga[i]!] else []:=by
 unfold cgs;rw[tN h,List.map_append,List.filter_append]
 congr 1
 by_cases hc:(clp f e ga[i]!).1<(clp f e ga[i]!).2
 ·rw[if_pos hc,List.map_singleton,List.filter_cons_of_pos (by rw[decide_eq_true_eq];exact hc)];rfl
 ·rw[if_neg hc,List.map_singleton,List.filter_cons_of_neg (by rw[decide_eq_true_eq];exact hc)];rfl
theorem zGu {f e:Int}{ga:List (Int × Int)}:(cgs f e ga).length<=ga.length:=by
 unfold cgs;exact Nat.le_trans (List.length_filter_le _ _) (Nat.le_of_eq (List.length_map _))
theorem yPz (ga:List (Int × Int))(f e:Int)(v:Value)(Ab:Nat)(ro:Mk)(h hb:SH)(hv:Has h (zF prF ga) 2 ga.length v)(hp0:Pick h Ab ⟨[I f,I e],ro⟩ hb)(hl:ga.length<=1000) :
  zH Tryz.prog 24 [v,gsl Ab 0 (1*2) 1 2] h λr q=>∃A,r=os A 2 (jnd (cgs f e ga)).length/\q=ob A (zF prF (jnd (cgs f e ga))) (jnd (cgs f e ga)).length++h:=by
 obtain⟨ad,fl,rfl,hh⟩:=hv;have hlb:=yK (f:=prF) (w:=2) (λ_=>rfl) ga;have hJ:=λv h hv=>(zYe (cgs f e ga) v h hv (by have:=@zGu f e ga;omega)).mono λr q g=>g.own;refine yJ Tryz.func24 rfl rfl ?_
 repeat'(first|apply zE|apply zD|apply zC|refine jg ?_ ?_|apply zB|apply zM|exact jS|fail)
 all_goals try exact jX
 refine yH (S:=Nat × Value × SH) (λx=>[(1,gsl Ab 0 (1*2) 1 2),(5,x.2.1),(11,.slice ad ga.length fl),(12,I ga.length),(13,I x.1)]) (λx=>x.2.2) (λx=>x.1<=ga.length/\GrR prF 2 h (cgs f e (ga.take x.1)) x.2.1 x.2.2) (λx=>ga.length-x.1) (0,nS,h) ⟨Nat.zero_le _,.nil⟩ jB (by exact zA.nil) ?_;rintro⟨i,u,q⟩ ⟨hi,hG⟩;dsimp only at hi hG ⊢;by_cases hil:i<ga.length
 ·obtain⟨A',ro2,p1,rfl,hp⟩:=hh (by omega)
  obtain⟨p2,hp2,_⟩:=hG.tk.pick hp;have htk:=yDe (f:=f) (e:=e) hil;have hlO:=@zGu f e (ga.take i);rw[List.length_take]at hlO;obtain⟨y,hy⟩:∃y,ga[i]! = y:=⟨_,rfl⟩;have hsub:xF (zF prF ga) (0+((i:Int)).toNat*2) (prF y):=by rw[<-hy];exact xO (λ_=>rfl) hil
  rw[hy]at htk;obtain⟨y1,y2⟩:=y;unfold clp at htk;dsimp only at htk
  repeat'(first|apply zE|apply zD|apply zC|refine jg ?_ ?_|(apply jl;exact jI)|(apply js;exact jJ)|refine jy ?_|refine jd ?_|apply zB|apply zL|apply zM|exact jO|((with_reducible apply Ln.mk);first|rfl|(simp[hlb];first|done|omega))|exact jP|((with_reducible apply Su.mk);first|exact hsub)|exact True.intro|intro A|exact rfl)
  all_goals try exact jX
  obtain⟨b7,rfl⟩:∃m,m=A:=⟨_,rfl⟩;refine yH (S:=Nat × Value × SH) (λx=>[(1,gsl Ab 0 (1*2) 1 2),(5,x.2.1),(7,zG b7 0 2),(11,.slice (some ⟨A',0,some (2*ga.length)⟩) ga.length fl),(12,I ga.length),(13,I i),(17,gsl Ab 0 (1*2) 1 2),(18,I 1),(19,I x.1)]) (λx=>(b7,⟨[I y1,I y2],false⟩)::x.2.2)
   (λx=>x.1<=1/\GrR prF 2 h (cgs f e (ga.take (i+x.1))) x.2.1 x.2.2) (λx=>1-x.1) (0,u,q) ⟨by show 0<=1;omega,hG⟩ jB (by exact zA.nil) ?_
  clear hG hp2;rintro⟨j,u,q⟩ ⟨hj,hG⟩;dsimp only at hj hG ⊢;by_cases hj1:j<1
  ·obtain rfl:j=0:=by omega
   obtain⟨p3,hp3,_⟩:=hG.tk.pick hp0;rw[Nat.add_zero]at hG;generalize cgs f e (ga.take i)=O at *;have hob:=yK (f:=prF) (w:=2) (λ_=>rfl) O;cases hG with
   |nil =>
    repeat'(first|apply zE|apply zD|apply zC|refine jg ?_ ?_|(apply ja;exact jH)|(apply pU;iterate 3 exact rfl)|(apply uQ;iterate 3 exact rfl)|(apply jm;exact jI)|(apply jl;exact jI)|(apply js;exact jJ)|refine jy ?_|(apply xZ zK;exact rfl;exact rfl;(focus first|with_reducible exact lZ);exact rfl;(focus repeat(first|exact yT.nil|(apply yT.one;exact rfl;exact rfl;(first|(focus(repeat(first|exact yD.zero|apply yD.succ));done)))));exact rfl)|(apply xT zK;(iterate 5 exact rfl);decide;exact rfl;decide;(focus repeat(first|exact xE.last rfl));exact rfl)|(apply qD zK;(iterate 5 exact rfl);exact⟨by decide⟩;exact pk)|(apply yO;exact rfl)|(apply vA;exact rfl;all_goals intro hc)|apply zB|apply zQ|apply zL|apply zM|exact jV|exact jL|exact jW|exact jE|exact jP|exact jU|exact True.intro|intro A|exact rfl)
    all_goals first
     |exact jX
     |(rw[if_pos hc]at htk
       exact⟨(1,gsl A 0 (1*2) 1 2,(A,⟨prF (max y1 f,min y2 e),false⟩)::h),⟨Nat.le_refl _,by show GrR prF 2 h (cgs f e (ga.take (i+1))) _ _;rw[htk];exact .ofc (f:=prF) (l:=[(max y1 f,min y2 e)]) (n:=1) (k:=1*2) tW.symm rfl rfl⟩,by show 1-1<1-0;decide,jB,jT⟩)
     |(rw[if_neg hc]at htk
       exact⟨(1,nS,h),⟨Nat.le_refl _,by show GrR prF 2 h (cgs f e (ga.take (i+1))) _ _;rw[htk];exact .nil⟩,by show 1-1<1-0;decide,jB,jT⟩)
   |some A4 _ hO0 =>
    repeat'(first|apply zE|apply zD|apply zC|refine jg ?_ ?_|(apply ja;exact jH)|(apply pU;iterate 3 exact rfl)|(apply uQ;iterate 3 exact rfl)|(apply jm;exact jI)|(apply jl;exact jI)|(apply js;exact jJ)|refine jy ?_|(apply xZ zK;exact rfl;exact rfl;(focus first|with_reducible exact lZ);exact rfl;(focus repeat(first|exact yT.nil|(apply yT.one;exact rfl;exact rfl;(first|(focus(repeat(first|exact yD.zero|apply yD.succ));done)))));exact rfl)|(apply xT zK;(iterate 5 exact rfl);decide;exact rfl;decide;(focus repeat(first|exact xE.last rfl));exact rfl)|(apply qK zK;(iterate 5 exact rfl);exact⟨by decide⟩;exact up;exact pk)|(apply yO;exact rfl)|(apply vA;exact rfl;all_goals intro hc)|apply zB|apply zQ|apply zL|apply zM|exact jV|((with_reducible apply Ln.mk);first|rfl|omega)|exact jW|exact jE|exact jP|exact jU|exact True.intro|intro A|exact rfl)
    all_goals first
     |exact jX
     |(rw[if_pos hc]at htk
       exact⟨(1,gsl A4 0 (O.length*2+1*2) (O.length+1) 2,(A4,⟨zF prF O++prF (max y1 f,min y2 e),false⟩)::h),⟨Nat.le_refl _,by show GrR prF 2 h (cgs f e (ga.take (i+1))) _ _;rw[htk];exact .ofc (f:=prF) (l:=O++[(max y1 f,min y2 e)]) (n:=O.length+1) rO.symm (by simp) (by omega)⟩,by show 1-1<1-0;decide,jB,jT⟩)
     |(rw[if_neg hc,List.append_nil]at htk
       exact⟨(1,gsl A4 0 (O.length*2) O.length 2,(A4,⟨zF prF O,false⟩)::h),⟨Nat.le_refl _,by show GrR prF 2 h (cgs f e (ga.take (i+1))) _ _;rw[htk];exact .some A4 O hO0⟩,by show 1-1<1-0;decide,jB,jT⟩)
  ·obtain rfl:j=1:=by omega
   repeat'(first|apply zE|apply zD|apply zC|refine jg ?_ ?_|(apply ja;exact jH)|(apply zX;exact rfl)|apply zB|apply zW|apply zQ|apply zT|apply zU|exact jS|exact jW|fail)
   all_goals first
    |exact jX
    |exact⟨(i+1,u,q),⟨hil,hG⟩,by show ga.length-(i+1)<ga.length-i;omega,jB,jT⟩
 ·rw[List.take_of_length_le (by omega)]at hG
  have htq:=hG.tk;have hH:=hG.has.1;obtain⟨adu,flu,rfl⟩:=hG.sl
  repeat'(first|apply zE|apply zD|apply zC|refine jg ?_ ?_|(apply zZ;exact rfl;exact rfl;exact rfl;exact rfl;exact⟨_,hJ _ _ (hH.re jN),zA.nil⟩;rintro _ _ ⟨A5,rfl,rfl⟩)|refine jf ?_|apply zB|apply zW|apply zT|apply zJ|apply zU|exact jS|fail)
  all_goals first|exact jX|(apply yA;(exact(show zO _ _ _ _ [_] from⟨rfl,trivial⟩));exact⟨A5,rfl,rfl⟩;(focus repeat(first|with_reducible exact zA.nil|exact htq|with_reducible apply zA.c|with_reducible apply zA.drop|with_reducible apply zA.pre|with_reducible apply zA.drops)))

structure VL (t:Trc):Prop where
 tx:txO t=true
 dc:dcO t=true
 so:(xN t.ss).1=t.ss
 vo:(yE t.ss t.vs).2=t.vs
 go:yY t.gs (yE t.ss t.vs).1=t.gs
 ty:t.vs.all (tyB t.gs)=true
 kd:∀g∈t.gs,vty g.1 g.2.1=true
 nf:∀g∈t.gs,Nf g.1 g.2.1 g.2.2
 vk:∀g∈t.gs,∀c∈g.2.2,vok g.1 g.2.1 c.2=true
 off:∀g∈t.gs,g.1=0->Off g.2.1 t.en t.ga g.2.2
 le:∀g∈t.gs,∀c∈g.2.2,c.1<=t.en
 gp:Gp t.en t.ga
 g16:t.ga.length<=16
 g64:t.gs.length<=64
theorem zOt {g:Sgc}(h:Nf g.1 g.2.1 g.2.2):nmS g=g:=by
 unfold nmS;rw[yAz _ _ _ h.io h.ch]
theorem zNd {en:Int}{G:List (Int × Int)}{g:Sgc}(h:Nf g.1 g.2.1 g.2.2)(hg:Gp en G)(ho:g.1=0->Off g.2.1 en G g.2.2):clS en G g=g:=by
 unfold clS;split
 ·rename_i hk
  rw[hk]at h;rw[yFm h hg (ho hk)]
 ·rfl
theorem zZc {cs:List Chg}:∀{a:Int},ino a cs->∀c∈cs,c.1<=cs[cs.length-1]!.1:=by
 induction cs with
 |nil=>intro a _ c h;cases h
 |cons x r ih =>
  intro a h c hc;by_cases hr:r.length=0
  ·obtain rfl:r=[]:=List.length_eq_zero_iff.1 hr
   rcases List.mem_cons.1 hc with rfl|hc
   ·exact Int.le_refl _
   ·cases hc
  ·have e:(x::r)[(x::r).length-1]! = r[r.length-1]!:=by
    rw[List.length_cons,Nat.add_sub_cancel,getElem!_pos _ _ (by rw[List.length_cons];omega),getElem!_pos r _ (by omega)];obtain⟨n,hn⟩:∃n,r.length=n+1:=⟨r.length-1,by omega⟩;simp only[hn,List.getElem_cons_succ,Nat.add_sub_cancel]
   rw[e];rcases List.mem_cons.1 hc with rfl|hc
   ·have:=iN h.2 _ (xD (l:=r) (i:=r.length-1) (by omega));omega
   ·exact ih h.2 c hc
theorem zCo {t:Trc}(hf:Sm t)(h:bld t=some t):VL t:=by
 unfold bld at h;by_cases hx:txO t=false
 ·rw[if_pos hx]at h;cases h
 rw[if_neg hx]at h;by_cases hd:dcO t=false
 ·rw[if_pos hd]at h;cases h
 rw[if_neg hd]at h;by_cases ht:(yE t.ss t.vs).2.all (tyB (yY t.gs (yE t.ss t.vs).1))=false
 ·rw[if_pos ht]at h;cases h
 rw[if_neg ht]at h;by_cases hz:(yY t.gs (yE t.ss t.vs).1).all nzS=false
 ·rw[if_pos hz]at h;cases h
 rw[if_neg hz]at h;by_cases he:¬(0<=t.en/\t.en<=1099511627776)
 ·rw[if_pos he]at h;cases h
 rw[if_neg he]at h;rw[Classical.not_not]at he;rw[Bool.not_eq_false]at hx hd ht hz;have hCl:=fI hf hd hz;cases hm:tmG 0 [] t.en t.ga with
 |none=>rw[hm]at h;cases h
 |some x =>
 rw[hm]at h;obtain⟨O,e⟩:=x;dsimp only at h;split at h
 ·rename_i hlim
  have hs:=Option.some.inj h;have e1:=congrArg Trc.ss hs;have e2:=congrArg Trc.vs hs;have e3:=congrArg Trc.gs hs;have e4:=congrArg Trc.ga hs;have e5:=congrArg Trc.en hs;dsimp only at e1 e2 e3 e4 e5;rw[e4,e5]at e3;rw[e4]at hm hlim;obtain⟨⟨q1,q1'⟩,q2,-,-,q5,q6⟩:=zIv (O:=[]) ⟨trivial,λk=>absurd rfl k,λg hg=>by cases hg⟩ hm;have hE:=@zLn ((yY t.gs (yE t.ss t.vs).1).map nmS) e;have hEm:=hE.2.1 (q2 he.2) (λg hg c hc=>(hCl g hg).nf.le c hc);rw[e5]at hE hEm;have hgp:Gp t.en t.ga:=⟨⟨he.1,hEm⟩,q1,λg hg=>by have:=q6 g hg;omega⟩
  
  have hD:∀g∈t.gs,∃y∈(yY t.gs (yE t.ss t.vs).1).map nmS,g=clS t.en t.ga y:=λg hg=>by
   rw[<-e3]at hg;obtain⟨y,hy,rfl⟩:=List.mem_map.1 hg;exact⟨y,hy,rfl⟩
  have hyle:∀y∈(yY t.gs (yE t.ss t.vs).1).map nmS,∀c∈y.2.2,c.1<=t.en:=λy hy c hc=>by
   have hl:y.2.2.length≠0:=λk=>by rw[List.length_eq_zero_iff.1 k]at hc;cases hc
   have:=hE.2.2 y hy hl;have:=zZc (hCl y hy).nf.io c hc;omega
  have hall:∀g∈t.gs,vty g.1 g.2.1=true/\Nf g.1 g.2.1 g.2.2/\(∀c∈g.2.2,vok g.1 g.2.1 c.2=true)/\(g.1=0->Off g.2.1 t.en t.ga g.2.2)/\∀c∈g.2.2,c.1<=t.en:=λg hg=>by
   obtain⟨y,hy,rfl⟩:=hD g hg;have hc:=hCl y hy;have hyl:=hyle y hy;obtain⟨k,w,cs⟩:=y;obtain⟨c1,c2,c3,c4,c5⟩:=hc;dsimp only at c1 c2 c3 c4 c5 hyl;unfold clS;dsimp only;by_cases hk:k=0
   ·subst hk
    rw[if_pos rfl];obtain⟨n1,n2⟩:=zNi c4 hgp;have hnz:=zUl c3 c4 c5 hgp.ch q1' hgp.bd.2;refine⟨c3,n1,λc hc=>((dH.1 hnz).2 c (sX _ _ c hc)).2,λ_=>n2,λc hc=>?_⟩;rcases fF c (sX _ _ c hc)with q|⟨g,q,rfl⟩|⟨g,q,qe,rfl⟩
    ·exact hyl c q
    ·have:=(pR hgp.ch g q).2
     have:=hgp.le g q;show g.1<=t.en;omega
    ·exact qe
   ·rw[if_neg hk]
    exact⟨c3,c4,c5,λq=>absurd q hk,hyl⟩
  have hfix:∀g∈t.gs,clS t.en t.ga (nmS g)=g:=λg hg=>by
   obtain⟨-,n1,-,n2,-⟩:=hall g hg;rw[zOt n1,zNd n1 hgp n2]
  have hgo:yY t.gs (yE t.ss t.vs).1=t.gs:=by
   conv=>rhs;rw[<-e3]
   rw[List.map_map]
   conv=>lhs;rw[<-List.map_id (yY t.gs (yE t.ss t.vs).1)]
   refine List.map_congr_left λg hg=>?_;exact(hfix g (zGk hd g hg)).symm
  refine⟨hx,hd,e1,e2,hgo,?_,λg hg=>(hall g hg).1,λg hg=>(hall g hg).2.1,λg hg=>(hall g hg).2.2.1,λg hg=>(hall g hg).2.2.2.1,λg hg=>(hall g hg).2.2.2.2,hgp,hlim.1,?_⟩
  ·rw[e2,hgo]at ht;exact ht
  ·have:=(gF hd).2.2
   rw[<-hgo];unfold yY;rw[List.length_map];exact this
 ·cases h
theorem yQg {l:List (Int × Int)}:∀{b e c:Int} {O:List (Int × Int)},gch c l->(O≠[]->O[O.length-1]!.2<=c)->b<=c+1->-1<=c->(∀g∈l,g.2-1<=e)->(∀g∈l,g.2<=1099511627777)->tmG b O e l=some (O++l,e):=by
 induction l with
 |nil=>intro b e c O _ _ _ _ _ _;rw[List.append_nil];rfl
 |cons x r ih =>
  intro b e c O h hO hb hc he hm;obtain⟨h1,h2,h3⟩:=h;have he1:=he x List.mem_cons_self;have hm1:=hm x List.mem_cons_self;unfold tmG;rw[if_neg (by omega),show mrg O x=O++[x] from if_neg (by rintro⟨q1,q2⟩;have:=hO q1;omega),show max e (x.2-1)=e by omega];rw[ih h3 (λ_=>by rw[zEq];exact Int.le_refl _) (by omega) (by omega) (λg hg=>he g (List.mem_cons_of_mem _ hg)) (λg hg=>hm g (List.mem_cons_of_mem _ hg)),List.append_assoc];rfl
theorem yGq {C:List Sgc}:∀{e:Int},(∀g∈C,∀c∈g.2.2,c.1<=e)->tmE e C=e:=by
 induction C with
 |nil=>intro e _;rfl
 |cons x r ih =>
  intro e h;have hx:(if x.2.2.length=0 then e else max e x.2.2[x.2.2.length-1]!.1)=e:=by
   split
   ·rfl
   ·have:=h x List.mem_cons_self _ (xD (l:=x.2.2) (i:=x.2.2.length-1) (by omega));omega
  show tmE (if _ then _ else _) r=e;rw[hx];exact ih λg hg=>h g (List.mem_cons_of_mem _ hg)
theorem yDs {m:Int}{C:List Sgc}(hm:∀g∈C,(g.2.2.length:Int)<=m):∀{n:Int},tot n C<=n+m*C.length:=by
 induction C with
 |nil=>intro n;show n<=n+m*0;omega
 |cons x r ih =>
  intro n;have h1:=@ih (λg hg=>hm g (List.mem_cons_of_mem _ hg)) (n+x.2.2.length);have h2:=hm x List.mem_cons_self;show tot (n+x.2.2.length) r<=_;rw[List.length_cons,Int.natCast_succ,Int.mul_add,Int.mul_one];omega
theorem zIw {t:Trc}(h:VL t)(hl:∀g∈t.gs,g.2.2.length<=61):bld t=some t:=by
 obtain⟨tx,dc,so,vo,go,ty,kd,nf,vk,off,le,gp,g16,g64⟩:=h;have hnm:t.gs.map nmS=t.gs:=by
  conv=>rhs;rw[<-List.map_id t.gs]
  exact List.map_congr_left λg hg=>zOt (nf g hg)
 have hcl:t.gs.map (clS t.en t.ga)=t.gs:=by
  conv=>rhs;rw[<-List.map_id t.gs]
  exact List.map_congr_left λg hg=>zNd (nf g hg) gp (off g hg)
 have htm:tmG 0 [] t.en t.ga=some (t.ga,t.en):=yQg gp.ch (λk=>absurd rfl k) (by omega) (by omega) (λg hg=>by have:=gp.le g hg;omega) (λg hg=>by have:=gp.le g hg;have:=gp.bd;omega);have hz:t.gs.all nzS=true:=List.all_eq_true.2 λg hg=>by
  unfold nzS;rw[kd g hg,Bool.true_and];exact dH.2 ⟨rD (nf g hg).io,λc hc=>⟨(nf g hg).le c hc,vk g hg c hc⟩⟩
 have htot:=@yDs 61 t.gs (λg hg=>by have:=hl g hg;omega) 0;unfold bld;rw[if_neg (by rw[tx];decide),if_neg (by rw[dc];decide),go,vo,so,if_neg (by rw[ty];decide),if_neg (by rw[hz];decide),if_neg (λk=>k gp.bd),htm];dsimp only;rw[hnm,yGq le,hcl,if_pos ⟨g16,by omega⟩]
def tI (f e:Int)(g:Sgc):Sgc:=(g.1,g.2.1,wT g.1 g.2.1 f e g.2.2)
def vV (f e:Int)(t:Trc):Trc:={ t with en:=e-f,gs:=t.gs.map (tI f e),ga:=cga f e t.ga }
def gX (p:Int)(g:Sgc):Sgc:=(g.1,g.2.1,scl p g.2.2)
def fnT (p sc:Int)(t:Trc):Trc:={ t with sc:=sc,en:=t.en*p,gs:=t.gs.map (gX p),ga:=t.ga.map (gsc p t.en) }
theorem yFl {φ:Sgc->Sgc}{gs:List Sgc}{F:List Int}(h:∀n∈F,0<=n/\n<gs.length):yY (gs.map φ) F=(yY gs F).map φ:=by
 unfold yY;rw[List.map_map];refine List.map_congr_left λn hn=>?_;have:=h n hn;exact nK (by omega)
theorem VL.map {t u:Trc}{φ:Sgc->Sgc}(h:VL t)(htx:txO u=true)(hs:u.ss=t.ss)(hv:u.vs=t.vs)(hg:u.gs=t.gs.map φ)(hφ:∀g,(φ g).1=g.1/\(φ g).2.1=g.2.1)
  (nf:∀g∈t.gs,Nf g.1 g.2.1 (φ g).2.2) (vk:∀g∈t.gs,∀c∈(φ g).2.2,∃d∈g.2.2,c.2=d.2) (off:∀g∈t.gs,g.1=0->Off g.2.1 u.en u.ga (φ g).2.2) (le:∀g∈t.gs,∀c∈(φ g).2.2,c.1<=u.en) (gp:Gp u.en u.ga) (g16:u.ga.length<=16):VL u:=by
 have hF:∀n∈(yE t.ss t.vs).1,0<=n/\n<t.gs.length:=λn hn=>by
  obtain⟨k1,k2,-⟩:=gF h.dc;exact⟨(kW k1).1 n hn,k2 n hn⟩
 have hmem:∀g∈u.gs,∃x∈t.gs,g=φ x:=λg hg2=>by
  rw[hg]at hg2;obtain⟨x,hx,rfl⟩:=List.mem_map.1 hg2;exact⟨x,hx,rfl⟩
 refine⟨htx,?_,?_,?_,?_,?_,λg hg2=>?_,λg hg2=>?_,λg hg2=>?_,λg hg2=>?_,λg hg2=>?_,gp,g16,?_⟩
 ·have:=h.dc
  unfold dcO at this ⊢;rw[hs,hv,hg,List.length_map];exact this
 ·rw[hs];exact h.so
 ·rw[hs,hv];exact h.vo
 ·rw[hs,hv,hg,yFl hF,h.go]
 ·rw[hv,hg]
  have:=h.ty;rw[List.all_eq_true]at this ⊢;intro x hx;rw[<-this x hx];have hx2:x.2.2.2.1.toNat<t.gs.length:=by
   obtain⟨j,hj,e⟩:=List.mem_iff_getElem.1 hx;obtain⟨k1,-,-⟩:=gF h.dc;have:=(kW k1).2 j hj;rw[h.vo,getElem!_pos t.vs j hj,e]at this;have hl:(yE t.ss t.vs).1.length=t.gs.length:=by
    conv=>rhs;rw[<-h.go]
    unfold yY;rw[List.length_map]
   omega
  unfold tyB;rw[nK hx2,(hφ _).1,(hφ _).2]
 ·obtain⟨x,hx,rfl⟩:=hmem g hg2;rw[(hφ x).1,(hφ x).2];exact h.kd x hx
 ·obtain⟨x,hx,rfl⟩:=hmem g hg2;rw[(hφ x).1,(hφ x).2];exact nf x hx
 ·obtain⟨x,hx,rfl⟩:=hmem g hg2
  intro c hc;obtain⟨d,hd,e⟩:=vk x hx c hc;rw[(hφ x).1,(hφ x).2,e];exact h.vk x hx d hd
 ·obtain⟨x,hx,rfl⟩:=hmem g hg2;rw[(hφ x).1,(hφ x).2];exact off x hx
 ·obtain⟨x,hx,rfl⟩:=hmem g hg2;exact le x hx
 ·rw[hg,List.length_map];exact h.g64
theorem zHi {f e:Int}{ga:List (Int × Int)}{b:Int}(h:gch b ga):(cga f e ga).length<=ga.length:=by
 rw[eE h,List.length_map];exact zGu
theorem VL.cut {t:Trc}{f e:Int}(h:VL t)(hf:0<=f)(hfe:f<=e)(hen:e<=t.en):VL (vV f e t):=by
 have hb:=h.gp.bd;refine h.map (φ:=tI f e) ?_ rfl rfl rfl (λg=>⟨rfl,rfl⟩) (λg hg=>(zUx hf (by omega) (h.nf g hg)).1) (λg hg=>zQx hf (h.nf g hg)) (λg hg hk=>?_) (λg hg=>(zUx hf (by omega) (h.nf g hg)).2) (zEl hf hfe hen h.gp) (Nat.le_trans (zHi h.gp.ch) h.g16)
 ·exact h.tx
 ·have hn:=h.nf g hg
  have ho:=h.off g hg hk;obtain⟨k,w,cs⟩:=g;obtain rfl:k=0:=hk;exact yBq hf hfe hen h.gp hn ho
theorem VL.fine {t:Trc}{p sc:Int}(h:VL t)(hp:1<=p)(hsc:-15<=sc/\sc<=2)(hen:t.en*p<=1099511627776):VL (fnT p sc t):=by
 refine h.map (φ:=gX p) ?_ rfl rfl rfl (λg=>⟨rfl,rfl⟩) (λg hg=>(zUr hp (h.nf g hg) (h.le g hg) hen).1) (λg hg c hc=>?_) (λg hg hk=>yGs hp h.gp (h.off g hg hk)) (λg hg=>(zUr hp (h.nf g hg) (h.le g hg) hen).2) (zRi hp h.gp hen) (by show(t.ga.map _).length<=16;rw[List.length_map];exact h.g16)
 ·have:=h.tx
  unfold txO at this ⊢;rw[Bool.and_eq_true]at this ⊢;exact⟨decide_eq_true hsc,this.2⟩
 ·obtain⟨x,hx,rfl⟩:=List.mem_map.1 hc
  exact⟨x,hx,rfl⟩
theorem yPx {t:Trc}{p sc f e:Int}(h:VL t)(hp:1<=p)(hfe:f<=e)(hle:e<=t.en)(hen:t.en*p<=1099511627776):vV (f*p) (e*p) (fnT p sc t)=fnT p sc (vV f e t):=by
 unfold vV fnT;dsimp only;have h1:(t.gs.map (gX p)).map (tI (f*p) (e*p))=(t.gs.map (tI f e)).map (gX p):=by
  rw[List.map_map,List.map_map];refine List.map_congr_left λg _=>?_;show(g.1,g.2.1,wT g.1 g.2.1 (f*p) (e*p) (scl p g.2.2))=(g.1,g.2.1,scl p (wT g.1 g.2.1 f e g.2.2));rw[yPv hp]
 rw[h1,yDc hp hfe hle h.gp hen,Int.sub_mul]

theorem zWz {L:List Sga}{q:SH}{i:Nat}(hi:i<L.length):SgH (chB L++q) (L.map osx)[i]! (L.map (·.2))[i]!:=by
 have e1:=nK (f:=osx) hi;have e2:=nK (f:=λx:Sga=>x.2) hi;rw[e1,e2];refine⟨rfl,rfl,?_⟩;have hs:L=L.take i++L[i]!::L.drop (i+1):=by
  rw[<-wD hi,List.take_append_drop]
 generalize L[i]! = x at *;rw[hs,zBr,List.append_assoc,List.append_assoc];exact(rW (A:=x.1) (w:=2)).re (zA.drops .nil)
theorem zHx {L:List Sga}{q:SH}{v:Value}(hv:Has (chB L++q) (zF sgF (L.map osx)) 3 L.length v):tY (chB L++q) (L.map (·.2)) v :=
 ⟨L.map osx,by rw[List.length_map,List.length_map],by rw[List.length_map];exact hv,λi hi=>zWz (by rw[List.length_map]at hi;exact hi)⟩
theorem yKg {k w f:Int}{cs:List Chg}(hty:vty k w=true)(hn:Nf k w cs)(hv:∀c∈cs,vok k w c.2=true)(hf:0<=f)(hl:cs.length<=2000):siv (k,w,nrm k (ini k w) (shf k w cs f))=true/\ino (-1) (nrm k (ini k w) (shf k w cs f)) /\
  (nrm k (ini k w) (shf k w cs f)).length<=cs.length+1/\∀c∈nrm k (ini k w) (shf k w cs f),∃d∈cs,c.2=d.2:=by
 have hN:=oZ k (ini k w) (-1) (show nd (-1+1) _ from dK (k:=k) (w:=w) hf hn.io);have hle:=oY k (shf k w cs f) (ini k w);have hsl:(shf k w cs f).length<=cs.length+1:=by
  unfold shf;split
  ·have:=bS (-f) cs;omega
  ·rw[List.length_cons,List.length_map,List.length_drop];omega
 have hmem:∀c∈nrm k (ini k w) (shf k w cs f),c.1<=1099511627776/\∃d∈cs,c.2=d.2:=by
  intro c hc;unfold shf at hc;split at hc
  ·obtain⟨x,hx,rfl⟩:=List.mem_map.1 (sX _ _ c hc)
   have:=hn.le x (List.mem_filter.1 hx).1;exact⟨by show x.1+-f<=_;omega,x,(List.mem_filter.1 hx).1,rfl⟩
  ·rename_i g
   have hat:atv k w cs f=ini k w\/∃d∈cs,atv k w cs f=d.2:=by
    unfold atv;split
    ·exact .inl rfl
    ·rename_i q
     have:=@kQ (f+1) cs;exact .inr ⟨_,xD (i:=fi (f+1) cs-1) (by omega),rfl⟩
   have hr:∀c∈(cs.drop (fi (f+1) cs)).map (λc=>((c.1+-f,c.2):Chg)),c.1<=1099511627776/\∃d∈cs,c.2=d.2:=λc hc=>by
    obtain⟨x,hx,rfl⟩:=List.mem_map.1 hc;have:=hn.le x (List.mem_of_mem_drop hx);exact⟨by show x.1+-f<=_;omega,x,List.mem_of_mem_drop hx,rfl⟩
   rcases hat with hat|⟨d,hd,hat⟩
   ·have hk:k≠3:=λq=>g (.inr q)
    rw[zCx (.inr ⟨hk,hat⟩)]at hc;exact hr c (sX _ _ c hc)
   ·rcases List.mem_cons.1 (sX _ _ c hc)with rfl|hc
    ·exact⟨by show(0:Int)<=_;decide,d,hd,hat⟩
    ·exact hr c hc
 refine⟨?_,hN,by omega,λc hc=>(hmem c hc).2⟩;unfold siv;rw[Bool.and_eq_true,Bool.and_eq_true,decide_eq_true_eq];refine⟨hty,by show(nrm k (ini k w) (shf k w cs f)).length<=4096;omega,zHn.2 ⟨hN,bI _ _,λc hc=>?_⟩⟩;obtain⟨h1,d,hd,e⟩:=hmem c hc;exact⟨h1,by rw[e];exact hv d hd⟩
def CtR (t:Trc)(f e:Int)(h:SH)(r:Value)(q:SH):Prop:=((vT t=true/\0<=f/\f<=e/\e<=t.en)/\∃v',r=.tuple #[v',I 0]/\TrH q (vV f e t) v'/\zA q h)\/(¬(vT t=true/\0<=f/\f<=e/\e<=t.en)/\∃er:Int,er≠0/\r=.tuple #[zTr,I er]/\q=h)
theorem yCy (t:Trc)(v:Value)(f e:Int)(h:SH)(hv:TrH h t v)(hf:Sm t)(hno:¬(vT t=true/\0<=f/\f<=e/\e<=t.en)):zH Tryz.prog 7 [v,I f,I e] h (CtR t f e h):=by
 have hV:=λh hv=>bD t v h hv hf;unfold CtR;obtain⟨ad1,fl1,ad2,fl2,ad3,fl3,ad4,fl4,rfl⟩:=hv.sl;generalize vT t=b at *;cases b with
 |false =>
  refine wF Tryz.func7 rfl rfl ?_
  repeat'(first|apply zE|apply zD|apply zC|refine jg ?_ ?_|(apply yS;exact rfl;exact rfl)|(apply jl;exact jI)|(apply js;exact jJ)|refine jy ?_|refine jx ?_|(apply xZ zK;exact rfl;exact rfl;(focus first|with_reducible exact oS);exact rfl;(focus repeat(first|exact yT.nil));exact rfl)|(apply zZ;exact rfl;exact rfl;exact rfl;exact rfl;exact⟨_,hV _ (hv.re jD),zA.nil⟩;rintro _ _ ⟨rfl,rfl⟩)|(apply yO;exact rfl)|apply zB|apply zV|apply xM|apply zJ|apply zM|exact jS|exact jL|exact jP|exact jU|exact True.intro|intro A|exact rfl)
  all_goals first|exact jX|(apply yA;(exact(show zO _ _ _ _ [_,_] from jY));exact .inr ⟨λk=>Bool.noConfusion k.1,_,(by decide:(1:Int)≠0),rfl,rfl⟩;exact jT)
 |true =>
  have hno2:¬(0<=f/\f<=e/\e<=t.en):=λk=>hno ⟨rfl,k⟩;refine wF Tryz.func7 rfl rfl ?_
  repeat'(first|apply zE|apply zD|apply zC|refine jg ?_ ?_|(apply yS;exact rfl;exact rfl)|(apply jm;exact jI)|(apply jl;exact jI)|(apply js;exact jJ)|refine jy ?_|refine jx ?_|(apply xZ zK;exact rfl;exact rfl;(focus first|with_reducible exact oS);exact rfl;(focus repeat(first|exact yT.nil));exact rfl)|(apply zZ;exact rfl;exact rfl;exact rfl;exact rfl;exact⟨_,hV _ (hv.re jD),zA.nil⟩;rintro _ _ ⟨rfl,rfl⟩)|refine jw ?_|refine jk ?_|(apply vJ;(iterate 3 exact rfl);all_goals intro hc)|(apply yO;exact rfl)|(apply zX;exact rfl)|refine jd ?_|apply zB|apply zV|apply xM|apply zJ|apply zM|exact jS|exact jL|exact jE|exact jP|exact jU|exact True.intro|intro A|exact rfl)
  all_goals first|exact jX|(apply yA;(exact(show zO _ _ _ _ [_,_] from jY));exact .inr ⟨hno,_,(by decide:(2:Int)≠0),rfl,rfl⟩;exact jT)
theorem yAp (t:Trc)(v:Value)(f e:Int)(h:SH)(hv:TrH h t v)(hf:Sm t)(hyes:vT t=true/\0<=f/\f<=e/\e<=t.en):zH Tryz.prog 7 [v,I f,I e] h (CtR t f e h):=by
 have hV:=λh hv=>bD t v h hv hf;have hCl:=λh hv=>zOj t v h hv hf;have hL:=zCo hf (kX.1 hyes.1);rw[hyes.1]at hV;obtain⟨y1,y2,y3⟩:=hyes.2;obtain⟨z1,z2⟩:=hL.gp.bd;have f6:=hf.gs;have f7:=hf.ga;have f10:=hf.cs;have lkd:=hL.kd;have lnf:=hL.nf;have lvk:=hL.vk;have lgp:=hL.gp
 suffices hG:zH Tryz.prog 7 [v,I f,I e] h (λr q=>∃v',r=.tuple #[v',I 0]/\TrH q (vV f e t) v'/\zA q h)from hG.mono λr q k=>.inl ⟨hyes,k⟩
 clear hL hyes hf;obtain⟨s,w,g,a,rfl,h1,h2,⟨xs,hxl,h3,hxs⟩,h4⟩:=id hv;obtain⟨ad1,fl1,rfl,-⟩:=id h1;obtain⟨ad2,fl2,rfl,-⟩:=id h2;obtain⟨ad3,fl3,rfl,hh3⟩:=id h3;obtain⟨ad4,fl4,rfl,-⟩:=id h4;unfold clV trV clH at hCl;unfold trV at hV hv;unfold trV;have hlx:=yK (f:=sgF) (w:=3) (λ_=>rfl) xs;obtain⟨sc,da,ve,co,ss,vs,gs,ga,en⟩:=t;unfold vV;dsimp only at *;obtain⟨n,hn⟩:∃n,gs.length=n:=⟨_,rfl⟩;rw[hn]at hxl h3 hxs hv hV hCl hh3 f6 ⊢;refine wF Tryz.func7 rfl rfl ?_
 repeat'((fail_if_success (show SWp _ _ (Code.seq (Code.region 7 _ _) _) _ _ _));(fail_if_success (show SWp _ _ (Code.region 7 _ _) _ _ _));first|apply zE|apply zD|apply zC|refine jg ?_ ?_|(apply ja;exact jH)|(apply yS;exact rfl;exact rfl)|(apply jm;exact jI)|(apply jl;exact jI)|(apply yV zK;(iterate 4 exact rfl);exact up)|(apply js;exact jJ)|refine jy ?_|refine jx ?_|(apply zZ;exact rfl;exact rfl;exact rfl;exact rfl;exact⟨_,hV _ (hv.re jD),zA.nil⟩;rintro _ _ ⟨rfl,rfl⟩)|(apply zZ;exact rfl;exact rfl;exact rfl;exact rfl;exact⟨_,hCl _ (hv.re jD),zA.nil⟩;rintro _ _ ⟨A1,A2,A3,A4,L0,hL0,rfl,rfl⟩)|refine jw ?_|refine ji ?_|(apply zX;exact rfl)|refine jf ?_|apply zB|apply zQ|apply zL|apply zM|exact jS|exact jL|exact jW|exact jE|exact jZ|exact jP|exact jU|exact True.intro|intro A|exact rfl)
 all_goals try exact jX
 rename_i b3 b6;obtain⟨b8,rfl⟩:∃m,m=A:=⟨_,rfl⟩
 repeat'(first|apply zE|apply zD|apply zC|refine jg ?_ ?_|(apply jm;exact jI)|apply zB|apply zM|exact jS|exact jL|exact jE|exact True.intro|exact rfl)
 all_goals try exact jX
 have hL0l:L0.length=n:=by rw[<-hn,<-hL0,List.length_map]
 refine yH (S:=List Sga) (λL=>[(1,I f),(2,I e),(3,zG b3 0 9),(6,zG b6 0 9),(8,zG b8 0 9),(42,.slice ad3 n fl3),(43,I n),(44,I L.length)])
  (λL=>(b8,⟨[I sc,S da,S ve,S co,os A1 3 ss.length,os A2 7 vs.length,os A3 3 n,os A4 2 ga.length,I (e-f)],false⟩)::(chB L++(ob A3 (zF sgF (L.map osx++(L0.map osx).drop L.length)) n++(ob A2 (zF vrF vs) vs.length++(ob A1 (zF scF ss) ss.length++((b6,⟨[I 0,S [],S [],S [],nS,nS,nS,nS,I 0],false⟩)::(b3,⟨[I sc,S da,S ve,S co,.slice ad1 ss.length fl1,.slice ad2 vs.length fl2,.slice ad3 n fl3,.slice ad4 ga.length fl4,I en],false⟩)::h))))))
  (λL=>L.length<=n/\L.map (·.2)=(gs.take L.length).map (tI f e)) (λL=>n-L.length) [] ⟨Nat.zero_le _,rfl⟩ jB (by simp only[yLv,List.nil_append,List.map_nil,List.length_nil,List.drop_zero];exact jT) ?_
 rintro L ⟨hi,hg⟩;by_cases hil:L.length<n
 ·have hn0:n≠0:=by omega
  obtain⟨A',ro,hr1,rfl,hp⟩:=hh3 hn0;obtain⟨e1,e2,e3⟩:=hxs _ hil;have hgm:=xD (l:=gs) (i:=L.length) (by omega);obtain⟨k1,k2⟩:=f10 _ hgm;have hty:=lkd _ hgm;have hnf:=lnf _ hgm;have hvk:=lvk _ hgm;have htk:(gs.take (L.length+1)).map (tI f e)=(gs.take L.length).map (tI f e)++[tI f e gs[L.length]!]:=by rw[tN (by omega),List.map_append];rfl
  have hsub:xF (zF sgF xs) (0+((L.length:Nat):Int).toNat*3) [I gs[L.length]!.1,I gs[L.length]!.2.1,sxV xs[L.length]!]:=by rw[<-e1,<-e2];exact xO (λ_=>rfl) (by omega)
  have hcu:tI f e gs[L.length]! = (gs[L.length]!.1,gs[L.length]!.2.1,wT gs[L.length]!.1 gs[L.length]!.2.1 f e gs[L.length]!.2.2):=rfl;rw[hcu]at htk;clear hcu;obtain⟨x,hx⟩:∃x,gs[L.length]! = x:=⟨_,rfl⟩;rw[hx]at e3 k1 k2 hty hnf hvk htk hsub;obtain⟨k,w,cs⟩:=x;dsimp only at e3 k1 k2 hty hnf hvk htk hsub;obtain⟨hv1,hv2,hv3,hv4⟩:=yKg hty hnf hvk y1 (by omega);have hsv:siv (k,w,cs)=true:=by
   unfold siv;rw[Bool.and_eq_true,Bool.and_eq_true,decide_eq_true_eq];exact⟨hty,by show cs.length<=4096;omega,zHn.2 ⟨hnf.io,hnf.ch,λc hc=>⟨hnf.le c hc,hvk c hc⟩⟩⟩
  have hSh:=λh hv=>yGb k w cs f (sxV xs[L.length]!) h hv (by omega) (λx hx=>by have:=k2 x hx;omega) (λx hx=>by have:=hnf.le x hx;have:=iN hnf.io x hx;omega) (by omega) hsv (zBk hnf.io);have hWi:=λv h hv=>zXi k w (nrm k (ini k w) (shf k w cs f)) 0 (e-f) v h hv (by omega) (λx hx=>by obtain⟨d,hd,q⟩:=hv4 x hx;have:=k2 d hd;rw[q];omega) (by omega) (by omega) (by omega) hv1 (zBk hv2);have hput:∀A,rJ (zF sgF (L.map osx++(L0.map osx).drop L.length)) (0+((L.length:Nat):Int).toNat*3) [I k,I w,os A 2 (wT k w f e cs).length] (zF sgF ((L++[(A,(k,w,wT k w f e cs))]).map osx++(L0.map osx).drop (L++[(A,(k,w,wT k w f e cs))]).length)):=λA=>by
   have h0:=eU (f:=sgF) (w:=3) (l:=L.map osx++(L0.map osx).drop L.length) (i:=L.length) (x:=osx (A,(k,w,wT k w f e cs))) (λ_=>rfl) (by rw[List.length_append,List.length_map,List.length_drop,List.length_map];omega);rw[wD (l:=L0.map osx) (k:=L.length) (by rw[List.length_map];omega),iH (by rw[List.length_map])]at h0;rw[wD (l:=L0.map osx) (k:=L.length) (by rw[List.length_map];omega),List.map_append,List.length_append,List.append_assoc];exact h0
  simp only[show -f=0-f by omega]at hSh;have hwin:wT k w f e cs=win (nrm k (ini k w) (shf k w cs f)) 0 (e-f):=rfl;rw[hwin]at htk;simp only[hwin]at hput;clear hwin;unfold MdR at hSh;obtain⟨ads,fls,hsx,-⟩:=id e3;rw[hsx]at e3 hSh hsub;generalize nrm k (ini k w) (shf k w cs f)=M at *;generalize win M 0 (e-f)=R at *;have hyl:(zF sgF (L.map osx++(L0.map osx).drop L.length)).length=n*3:=by rw[yK (f:=sgF) (w:=3) (λ_=>rfl),List.length_append,List.length_map,List.length_drop,List.length_map,show L.length+(L0.length-L.length)=n by omega]
  simp only[wJ hn0,vN hn0,List.cons_append,List.nil_append]
  repeat'(first|apply zE|apply zD|apply zC|refine jg ?_ ?_|(apply ja;exact jH)|(apply jm;exact jI)|(apply jl;exact jI)|(apply yV zK;(iterate 4 exact rfl);exact up)|(apply js;exact jJ)|refine jy ?_|(apply zZ;exact rfl;exact rfl;exact rfl;exact rfl;exact⟨_,hSh _ (e3.re (by repeat(first|with_reducible exact zA.nil|with_reducible apply zA.drop|with_reducible apply zA.drops))),zA.nil⟩;rintro _ _ ⟨A5,rfl,rfl⟩)|(apply zZ;exact rfl;exact rfl;exact rfl;exact rfl;exact⟨_,hWi _ _ (rW.re jD),zA.nil⟩;rintro _ _ ⟨A7,rfl,rfl⟩)|refine jd ?_|apply zB|apply zQ|apply zL|apply zM|exact jO|((with_reducible apply Ln.mk);first|rfl|omega|(simp[hlx,hyl];first|done|omega))|exact jW|exact jE|exact jZ|((with_reducible apply Pu.mk);first|exact kE rfl|exact hput _)|((with_reducible apply Su.mk);first|exact hsub|exact xY)|exact True.intro|intro A|exact rfl)
  all_goals first
   |exact jX
   |skip
  have hl1:(L++[(A7,((k,w,R):Sgc))]).length=L.length+1:=by rw[List.length_append];rfl
  refine⟨L++[(A7,(k,w,R))],⟨by rw[hl1];omega,by rw[hl1,htk,List.map_append,hg];rfl⟩,by rw[hl1];omega,?_,?_⟩
  ·rw[hl1];exact jB
  ·rw[zKq,List.append_assoc];exact jT
 ·obtain rfl:L.length=n:=by omega
  have hB:=λAb ro v h hb hv hp=>yPz ga f (e+1) v Ab ro h hb hv hp (by omega);have hJl:(jnd (cgs f (e+1) ga)).length<=100:=by
   have:=@zHi f e ga _ lgp.ch;unfold cga at this;rw[List.length_map]at this;omega
  rw[List.drop_of_length_le (by rw[List.length_map];omega),List.append_nil];rw[List.take_of_length_le (by omega)]at hg;have hJy:∀g∈jnd (cgs f (e+1) ga),f<=g.1/\g.1<g.2/\g.2<=e+1:=λg hg=>by
   have k:=zEl y1 y2 y3 lgp;have hm:(g.1-f,g.2-f)∈cga f e ga:=List.mem_map.2 ⟨g,hg,rfl⟩;have k1:=pR k.ch _ hm;have k2:=k.le _ hm;dsimp only at k1 k2;omega
  unfold cga;generalize jnd (cgs f (e+1) ga)=J at *;have hJb:=yK (f:=prF) (w:=2) (λ_=>rfl) J
  repeat'(first|apply zE|apply zD|apply zC|refine jg ?_ ?_|(apply ja;exact jH)|(apply jm;exact jI)|(apply yV zK;(iterate 4 exact rfl);exact up)|(apply xZ zK;exact rfl;exact rfl;(focus first|with_reducible exact lZ);exact rfl;(focus repeat(first|exact yT.nil|(apply yT.one;exact rfl;exact rfl;(first|(focus(repeat(first|exact yD.zero|apply yD.succ));done)))));exact rfl)|(apply xT zK;(iterate 5 exact rfl);decide;exact rfl;decide;(focus repeat(first|exact xE.last rfl));exact rfl)|(apply zZ;exact rfl;exact rfl;exact rfl;exact rfl;exact⟨_,hB _ _ _ _ _ (h4.re (by repeat(first|with_reducible exact zA.nil|with_reducible apply zA.drop|with_reducible apply zA.drops))) .head,zA.nil⟩;rintro _ _ ⟨A9,rfl,rfl⟩)|refine jf ?_|apply zB|apply zW|apply zT|apply zU|apply zM|exact jS|exact jL|exact jW|exact jE|exact jZ|exact True.intro|intro A|exact rfl)
  all_goals try exact jX
  obtain⟨q0,hq0⟩:∃q,q=ob A9 (zF prF J) J.length++(chB L++(ob A3 (zF sgF (L.map osx)) L.length++(ob A2 (zF vrF vs) vs.length++(ob A1 (zF scF ss) ss.length++(((b6:Nat),⟨[I 0,S [],S [],S [],nS,nS,nS,nS,I 0],false⟩)::(b3,⟨[I sc,S da,S ve,S co,.slice ad1 ss.length fl1,.slice ad2 vs.length fl2,.slice ad3 L.length fl3,.slice ad4 ga.length fl4,I en],false⟩)::h))))):=⟨_,rfl⟩;refine yH (S:=Nat × Value × SH) (λx=>[(1,I f),(6,zG b6 0 9),(8,zG b8 0 9),(75,os A9 2 J.length),(76,I J.length),(77,I x.1)]) (λx=>(b8,⟨[I sc,S da,S ve,S co,os A1 3 ss.length,os A2 7 vs.length,os A3 3 L.length,x.2.1,I (e-f)],false⟩)::x.2.2)
   (λx=>x.1<=J.length/\GrR prF 2 q0 ((J.take x.1).map λg=>(g.1-f,g.2-f)) x.2.1 x.2.2) (λx=>J.length-x.1) (0,nS,q0) ⟨Nat.zero_le _,.nil⟩ jB (by rw[hq0];exact jT) ?_
  rintro⟨j,u,q⟩ ⟨hj,hG⟩;dsimp only at hj hG ⊢;by_cases hjl:j<J.length
  ·have hJ0:J.length≠0:=by omega
   have hp9:∃q9,Pick q0 A9 ⟨zF prF J,false⟩ q9:=by rw[hq0,wJ hJ0];exact⟨_,.head⟩
   clear hq0;obtain⟨q9,hp9⟩:=hp9;have hmp:((J.take (j+1)).map λg=>(g.1-f,g.2-f))=((J.take j).map λg=>(g.1-f,g.2-f))++[(J[j]!.1-f,J[j]!.2-f)]:=by rw[tN hjl,List.map_append];rfl
   have hOl:((J.take j).map λg=>(g.1-f,g.2-f)).length=j:=by rw[List.length_map,List.length_take];omega
   have hyb:=hJy _ (xD hjl);obtain⟨y,hy⟩:∃y,J[j]! = y:=⟨_,rfl⟩;have hsub:xF (zF prF J) (0+((j:Int)).toNat*2) (prF y):=by rw[<-hy];exact xO (λ_=>rfl) hjl
   rw[hy]at hmp hyb;obtain⟨y1',y2'⟩:=y;dsimp only at hmp hyb;generalize ((J.take j).map λg=>(g.1-f,g.2-f))=O at *;have hob:=yK (f:=prF) (w:=2) (λ_=>rfl) O;rw[vN hJ0];cases hG with
   |nil =>
    repeat'(first|apply zE|apply zD|apply zC|refine jg ?_ ?_|(apply ja;exact jH)|(apply jm;exact jI)|(apply jl;exact jI)|(apply yV zK;(iterate 4 exact rfl);exact up)|(apply js;exact jJ)|refine jy ?_|(apply xZ zK;exact rfl;exact rfl;(focus first|with_reducible exact lZ);exact rfl;(focus repeat(first|exact yT.nil|(apply yT.one;exact rfl;exact rfl;(first|(focus(repeat(first|exact yD.zero|apply yD.succ));done)))));exact rfl)|(apply xT zK;(iterate 5 exact rfl);decide;exact rfl;decide;(focus repeat(first|exact xE.last rfl));exact rfl)|(apply qD zK;(iterate 5 exact rfl);exact⟨by decide⟩;exact pk)|refine jd ?_|apply zB|apply zQ|apply zL|apply zM|exact jV|((with_reducible apply Ln.mk);first|rfl|omega)|exact jW|exact jE|exact jZ|exact jP|((with_reducible apply Su.mk);first|exact hsub|exact xY)|exact True.intro|intro A|exact rfl)
    all_goals first
     |exact jX
     |exact⟨(j+1,gsl A 0 (1*2) 1 2,(A,⟨prF (y1'-f,y2'-f),false⟩)::q0),⟨hjl,by show GrR prF 2 q0 ((J.take (j+1)).map _) _ _;rw[hmp];exact .ofc (f:=prF) (l:=[(y1'-f,y2'-f)]) (n:=1) (k:=1*2) tW.symm rfl rfl⟩,by show J.length-(j+1)<J.length-j;omega,jB,jT⟩
   |some A4' _ hO0 =>
    repeat'(first|apply zE|apply zD|apply zC|refine jg ?_ ?_|(apply ja;exact jH)|(apply jm;exact jI)|(apply jl;exact jI)|(apply yV zK;(iterate 4 exact rfl);exact up)|(apply js;exact jJ)|refine jy ?_|(apply xZ zK;exact rfl;exact rfl;(focus first|with_reducible exact lZ);exact rfl;(focus repeat(first|exact yT.nil|(apply yT.one;exact rfl;exact rfl;(first|(focus(repeat(first|exact yD.zero|apply yD.succ));done)))));exact rfl)|(apply xT zK;(iterate 5 exact rfl);decide;exact rfl;decide;(focus repeat(first|exact xE.last rfl));exact rfl)|(apply qK zK;(iterate 5 exact rfl);exact⟨by decide⟩;exact up;exact pk)|refine jd ?_|apply zB|apply zQ|apply zL|apply zM|exact jV|((with_reducible apply Ln.mk);first|rfl|omega)|exact jW|exact jE|exact jZ|exact jP|((with_reducible apply Su.mk);first|exact hsub|exact xY)|exact True.intro|intro A|exact rfl)
    all_goals first
     |exact jX
     |exact⟨(j+1,gsl A4' 0 (O.length*2+1*2) (O.length+1) 2,(A4',⟨zF prF O++prF (y1'-f,y2'-f),false⟩)::q0),⟨hjl,by show GrR prF 2 q0 ((J.take (j+1)).map _) _ _;rw[hmp];exact .ofc (f:=prF) (l:=O++[(y1'-f,y2'-f)]) (n:=O.length+1) rO.symm (by simp) (by omega)⟩,by show J.length-(j+1)<J.length-j;omega,jB,jT⟩
  ·rw[List.take_of_length_le (by omega)]at hG
   have hnl:(J.map λg=>(g.1-f,g.2-f)).length=J.length:=List.length_map _;generalize (J.map λg=>(g.1-f,g.2-f))=G at *;obtain⟨A8,rfl,rfl⟩:=hG.own;subst hq0
   repeat'(first|apply zE|apply zD|apply zC|refine jg ?_ ?_|(apply jl;exact jI)|(apply js;exact jJ)|refine jf ?_|apply zB|apply zW|apply zT|apply zJ|apply zU|exact jS|exact jL|exact jP|exact jU|exact True.intro|exact rfl)
   all_goals try exact jX
   have hH:TrH (ob A8 (zF prF G) G.length++(chB L++(ob A3 (zF sgF (L.map osx)) L.length++(ob A2 (zF vrF vs) vs.length++(ob A1 (zF scF ss) ss.length++h))))) ⟨sc,da,ve,co,ss,vs,gs.map (tI f e),G,e-f⟩ (.agg ⟨[I sc,S da,S ve,S co,os A1 3 ss.length,os A2 7 vs.length,os A3 3 L.length,os A8 2 G.length,I (e-f)]⟩):=by
    refine⟨_,_,_,_,rfl,(rW (A:=A1)).re (zA.drops (zA.drops (zA.drops (zA.drops .nil)))),(rW (A:=A2)).re (zA.drops (zA.drops (zA.drops .nil))),?_,rW⟩;show tY _ (gs.map (tI f e)) _;rw[<-hg];exact(zHx (L:=L) (rW.re (zA.drops .nil))).re (zA.drops .nil)
   (apply yA;(exact(show zO _ _ _ _ [_,_] from jY));exact⟨_,rfl,hH,zA.drops (zA.drops (zA.drops (zA.drops (zA.drops .nil))))⟩;exact jT)
theorem zLc (t:Trc)(v:Value)(f e:Int)(h:SH)(hv:TrH h t v)(hf:Sm t):zH Tryz.prog 7 [v,I f,I e] h (CtR t f e h):=by
 by_cases k:vT t=true/\0<=f/\f<=e/\e<=t.en
 ·exact yAp t v f e h hv hf k
 ·exact yCy t v f e h hv hf k

theorem yIs {t:Trc}{A1 A2 A3 A4:Nat}{L:List Sga}{h:SH}(hL:L.map (·.2)=t.gs):TrH (clH t A1 A2 A3 A4 L h) t (clV t A1 A2 A3 A4):=by
 have hl:L.length=t.gs.length:=by rw[<-hL,List.length_map]
 unfold clH;refine⟨_,_,_,_,rfl,(rW (A:=A1)).re (zA.drops (zA.drops (zA.drops (zA.drops .nil)))),(rW (A:=A2)).re (zA.drops (zA.drops (zA.drops .nil))),?_,rW.re (zA.drops .nil)⟩;rw[<-hL,List.length_map];exact zHx (L:=L) (rW.re (zA.drops (zA.drops .nil)))
theorem VL.tm {t:Trc}(h:VL t):Tm t:=by
 have hb:=h.gp.bd;refine⟨hb,λg hg c hc=>?_,λg hg=>?_⟩
 ·have:=iN (h.nf g hg).io c hc
  have:=h.le g hg c hc;omega
 ·have:=pR h.gp.ch g hg
  have:=h.gp.le g hg;omega
theorem yPc {t:Trc}{p sc:Int}(h:VL t)(hp:1<=p)(hen:t.en*p<=1099511627776):{ rsT p t with sc:=sc }=fnT p sc t:=by
 have hc:∀n,n<=t.en->cv p n=n*p:=λn hn=>by
  have:=Int.mul_le_mul_of_nonneg_right hn (show 0<=p by omega);unfold cv;rw[if_neg (by omega)]
 have hm:=h.tm;unfold rsT fnT;dsimp only;rw[hc _ (Int.le_refl _)];have h1:t.gs.map (rsS p)=t.gs.map (gX p):=List.map_congr_left λg hg=>by
  unfold rsS gX scl;rw[List.map_congr_left (f:=rsC p) (g:=λc=>(c.1*p,c.2)) λc hcc=>by unfold rsC;rw[hc _ (hm.cs g hg c hcc).2]]
 have h2:t.ga.map (rsG p t.en)=t.ga.map (gsc p t.en):=List.map_congr_left λg hg=>by
  obtain⟨k1,k2⟩:=hm.ga g hg;unfold rsG gsc;rw[hc _ k1.2,hc _ (Int.le_refl _)];split
  ·rfl
  ·rename_i k
   rw[hc _ (by omega)]
 rw[h1,h2]
def ReR (t:Trc)(b:Int)(k:Nat)(h:SH)(r:Value)(q:SH):Prop:=((vT t=true/\(-15<=b/\b<=2)/\t.en*yL k<=1099511627776)/\∃v',r=.tuple #[v',I 0]/\TrH q (fnT (yL k) b t) v'/\zA q h)\/(¬(vT t=true/\(-15<=b/\b<=2)/\t.en*yL k<=1099511627776)/\∃er:Int,er≠0/\r=.tuple #[zTr,I er]/\q=h)
theorem yLf (t:Trc)(v:Value)(b:Int)(k:Nat)(h:SH)(hv:TrH h t v)(hf:Sm t)(hno:¬(vT t=true/\(-15<=b/\b<=2))):zH Tryz.prog 6 [v,I b] h (ReR t b k h):=by
 have hV:=λh hv=>bD t v h hv hf;have hT:=λh=>kM b h;unfold ReR;obtain⟨ad1,fl1,ad2,fl2,ad3,fl3,ad4,fl4,rfl⟩:=hv.sl;generalize vT t=d at *;cases d with
 |false =>
  refine yJ Tryz.func6 rfl rfl ?_
  repeat'(first|apply zE|apply zD|apply zC|refine jg ?_ ?_|(apply yS;exact rfl;exact rfl)|(apply jl;exact jI)|(apply js;exact jJ)|refine jy ?_|refine jx ?_|(apply xZ zK;exact rfl;exact rfl;(focus first|with_reducible exact oS);exact rfl;(focus repeat(first|exact yT.nil));exact rfl)|(apply zZ;exact rfl;exact rfl;exact rfl;exact rfl;exact⟨_,hV _ (hv.re jD),zA.nil⟩;rintro _ _ ⟨rfl,rfl⟩)|refine jk ?_|(apply yO;exact rfl)|apply zB|apply zV|apply zJ|exact jS|exact jL|exact jP|exact jU|exact True.intro|intro A|exact rfl)
  all_goals first|exact jX|(apply yA;(exact(show zO _ _ _ _ [_,_] from jY));exact .inr ⟨λk=>Bool.noConfusion k.1,_,(by decide:(1:Int)≠0),rfl,rfl⟩;exact jT)
 |true =>
  have hno2:¬(-15<=b/\b<=2):=λk=>hno ⟨rfl,k⟩;rw[decide_eq_false hno2]at hT;refine yJ Tryz.func6 rfl rfl ?_
  repeat'(first|apply zE|apply zD|apply zC|refine jg ?_ ?_|(apply yS;exact rfl;exact rfl)|(apply jm;exact jI)|(apply jl;exact jI)|(apply js;exact jJ)|refine jy ?_|refine jx ?_|(apply xZ zK;exact rfl;exact rfl;(focus first|with_reducible exact oS);exact rfl;(focus repeat(first|exact yT.nil));exact rfl)|(apply zZ;exact rfl;exact rfl;exact rfl;exact rfl;exact⟨_,hV _ (hv.re jD),zA.nil⟩;rintro _ _ ⟨rfl,rfl⟩)|refine jq ?_ (c:=by exact⟨_,hT _,jN⟩)|refine jw ?_|(apply yO;exact rfl)|apply zB|apply zV|apply zJ|exact jS|exact jL|exact jE|exact jP|exact jU|exact True.intro|intro A|exact rfl)
  all_goals first|exact jX|(apply yA;(exact(show zO _ _ _ _ [_,_] from jY));exact .inr ⟨λk=>hno2 k.2.1,_,(by decide:(1:Int)≠0),rfl,rfl⟩;exact jT)
theorem yIm (t:Trc)(v:Value)(b:Int)(k:Nat)(h:SH)(hv:TrH h t v)(hf:Sm t)(hk:t.sc=b+k)(hyes:vT t=true/\(-15<=b/\b<=2)):zH Tryz.prog 6 [v,I b] h (ReR t b k h):=by
 have hV:=λh hv=>bD t v h hv hf;have hT:=λh=>kM b h;rw[decide_eq_true hyes.2]at hT;rw[hyes.1]at hV;have hL:=zCo hf (kX.1 hyes.1);have hsc:-15<=t.sc/\t.sc<=2:=by
  have:=hL.tx;unfold txO at this;rw[Bool.and_eq_true]at this;exact of_decide_eq_true this.1
 have hC:=λc2 c3 h hv hr=>yFj t v b k c2 c3 h hv hf hL.tm (by omega) hr;have hp1:=gG k;have hfn:=λhe=>yPc (sc:=b) hL hp1 he;have hce:ce (yL k) t.en=0↔t.en*yL k<=1099511627776:=by
  unfold ce;split
  ·exact⟨λk=>absurd k (by decide),λk=>by omega⟩
  ·exact⟨λ_=>by omega,λ_=>rfl⟩
 unfold ReR;obtain⟨s,w,g,a,rfl,h1,h2,h3,h4⟩:=id hv;obtain⟨ad1,fl1,rfl,-⟩:=id h1;obtain⟨ad2,fl2,rfl,-⟩:=id h2;obtain⟨ad4,fl4,rfl,-⟩:=id h4;obtain⟨ad3,fl3,rfl⟩:∃ad fl,g=.slice ad t.gs.length fl:=by obtain⟨xs,_,⟨ad,fl,e,_⟩,_⟩:=h3;exact⟨ad,fl,e⟩
 clear h1 h2 h3 h4 hL;have hTr:=λA1 A2 A3 A4 L h hL=>yIs (t:={ rsT (yL k) t with sc:=b }) (A1:=A1) (A2:=A2) (A3:=A3) (A4:=A4) (L:=L) (h:=h) hL;obtain⟨sc,da,ve,co,ss,vs,gs,ga,en⟩:=t;unfold clV trV clH rsT at hC hTr;unfold trV at hV hv;unfold trV;dsimp only at *;subst hk;generalize yL k=p at *;refine yJ Tryz.func6 rfl rfl ?_
 repeat'(first|apply zE|apply zD|apply zC|refine jg ?_ ?_|(apply yS;exact rfl;exact rfl)|(apply jm;exact jI)|(apply jl;exact jI)|(apply yV zK;(iterate 4 exact rfl);exact up)|(apply js;exact jJ)|refine jy ?_|refine jx ?_|(apply xZ zK;exact rfl;exact rfl;(focus first|with_reducible exact oS);exact rfl;(focus repeat(first|exact yT.nil));exact rfl)|(apply rK;iterate 3 exact rfl)|(apply zZ;exact rfl;exact rfl;exact rfl;exact rfl;exact⟨_,hV _ (hv.re jD),zA.nil⟩;rintro _ _ ⟨rfl,rfl⟩)|refine jq ?_ (c:=by exact⟨_,hT _,jN⟩)|(apply zZ;exact rfl;exact rfl;exact rfl;exact rfl;exact⟨_,hC _ _ _ (hv.re jD) ⟨_,_,_,_,_,.tail (.tail .head),.tail .head,rfl,rfl⟩,zA.nil⟩;rintro _ _ (⟨hz,A1,A2,A3,A4,L,hL,rfl,rfl⟩|⟨hz,e,he,rfl,rfl⟩))|refine jw ?_|(apply zX;exact rfl)|refine jd ?_|apply zB|apply zV|apply zL|apply zJ|exact jS|exact jL|exact jE|((with_reducible apply Se.mk);first|(focus(repeat(first|exact yD.zero));done))|exact jP|exact jU|exact True.intro|intro A|exact rfl)
 all_goals first
  |exact jX
  |(apply yA;(exact(show zO _ _ _ _ [_,_] from jY));exact .inr ⟨λk=>hz (hce.2 k.2.2),_,he,rfl,rfl⟩;exact jT)
  |(apply yA;(exact(show zO _ _ _ _ [_,_] from jY));exact .inl ⟨⟨hyes.1,hyes.2,hce.1 hz⟩,_,rfl,(hfn (hce.1 hz))▸hTr A1 A2 A3 A4 L h hL,zA.drops (zA.drops (zA.drops (zA.drops (zA.drops .nil))))⟩;exact jT)
theorem zOw (t:Trc)(v:Value)(b:Int)(k:Nat)(h:SH)(hv:TrH h t v)(hf:Sm t)(hk:t.sc=b+k):zH Tryz.prog 6 [v,I b] h (ReR t b k h):=by
 by_cases g:vT t=true/\(-15<=b/\b<=2)
 ·exact yIm t v b k h hv hf hk g
 ·exact yLf t v b k h hv hf g
end Go.Proofs.YtbidadebolllkaaGreatDoor
end
section
set_option maxRecDepth 4000
namespace Go.Gh
open Go.RowKit Go.MapKept
noncomputable section
section
variable {P:Program} {N:Fr} {o:Oper} {a:AF} {H:zI}
theorem zJm {A:Nat}{g g':Blk}(hA:H[A]?=some (some g))(hl:g'.cells.length=g.cells.length):lens (H.set A (some g'))=lens H:=by
 funext B
 by_cases e:B=A
 ·subst e;rw[tU (List.getElem?_eq_some_iff.1 hA).1,wH hA,hl]
 ·exact oQ e
theorem yOe {B0:Nat}{w0:World}{φ:Fi}{w:World}(r:Rel B0 w0 φ H w){A:Nat}{cells:List Value}{m:Mk}(hA:H[A]?=some (some ⟨cells,m⟩))(hm:m.b=false):Rel B0 w0 φ (H.set A (some ⟨cells,false⟩)) w:=by
 have hl:=zJm (g':=⟨cells,false⟩) hA rfl;have hlt:=(List.getElem?_eq_some_iff.1 hA).1;have at_:∀{B:Nat} {g:Blk},(H.set A (some ⟨cells,false⟩))[B]?=some (some g)->∃g0,H[B]?=some (some g0)/\g0.cells=g.cells/\(g.ro.b=false->g0.ro.b=false)/\(∀t,g.ro.ty=some t->g0.ro.ty=some t):=by
  intro B g h;by_cases e:B=A
  ·subst e
   rw[List.getElem?_set_self hlt]at h;cases h;exact⟨_,hA,rfl,λ_=>hm,λt ht=>by cases ht⟩
  ·rw[List.getElem?_set_ne (by omega)]at h
   exact⟨g,h,rfl,id,λ_=>id⟩
 refine⟨r.below,r.b0,λB g hB=>?_,λB g hB hg=>?_,λB B' g g' hB hg hB'=>?_,r.gw,r.mks⟩
 ·obtain⟨g0,h1,h2,h3,h4⟩:=at_ hB
  obtain⟨o,c,k1,k2,k3,k4⟩:=(r.blk B g0 h1).any;rw[hl];refine⟨o,c,k1,?_,by rw[<-h2];exact k3,by rw[<-h2];exact k4⟩;cases k2 with
  |cells e1 e2 e3 e4=>exact .cells e1 e2 (λhf=>e3 (h3 hf)) (λt ht=>e4 t (h4 t ht))
  |map e1 e2 e3 e4 e5=>exact .map e1 e2 (by rw[<-h2];exact e3) e4 e5
  |loop e1 e2 e3 e4 e5=>exact .loop e1 e2 e3 e4 e5
  |siter e1 e2 e3=>exact .siter e1 e2 e3
  |miter e1 e2 e3=>exact .miter e1 e2 e3
  |bag e1 e2 e3 e4 e5 e6 e7=>exact .bag e1 e2 e3 (by rw[<-h2];exact e4) e5 e6 e7
 ·obtain⟨g0,h1,_,h3,_⟩:=at_ hB
  exact r.own B g0 h1 (h3 hg)
 ·obtain⟨g0,h1,_,h3,_⟩:=at_ hB
  obtain⟨g0',h1',_⟩:=at_ hB';exact r.inj B B' g0 g0' h1 (h3 hg) h1'
theorem yFo {A:Nat}{cells:List Value}{m:Mk}{v:Value}{H':zI}(hA:H[A]?=some (some ⟨cells,m⟩))(hm:m.b=false)(h:xG P N o a (H.set A (some ⟨cells,false⟩)) v H'):xG P N o a H v H':=by
 have hl:=zJm (g':=⟨cells,false⟩) hA rfl;refine⟨λB0 w0 φ w ac r hf=>?_⟩;have:=h.go B0 w0 φ w ac (yOe r hA hm) (by rw[hl];exact hf);rwa [hl]at this
theorem fR {φ:Fi}{L:zP}{ad:Option Addr}{n fl:Nat}{u:Value}(h:Val φ L (.slice ad n fl) u):∃b cap,u=.slice b n cap/\n<=cap:=by
 cases h with
 |snil=>exact⟨_,_,rfl,Nat.le_refl _⟩
 |slc _ _ _ _ _ _ cap c hL hv hc=>exact⟨_,_,rfl,hc⟩
 |sdead c cap=>exact⟨_,_,rfl,Nat.zero_le _⟩
 |full=>exact⟨_,_,rfl,Nat.le_refl _⟩
theorem zUh (T U:TypeId)(x y:Operand){adx ady:Option Addr}{n fl fl2 E s b:Nat}{z:Option Value}(ho:o.op=.call { callee:=.builtin .append,args:=#[x,y],argTypes:=#[T,U] })(hx:ev a x=some (.slice adx n fl))(hy:ev a y=some (.slice ady 0 fl2))
  (hT:P.underlying T=some (.slice E)) (hU:T=U) (hI:yC P E=some (z,s,b)):zR P N o a H (.slice adx n fl):=by
 subst hU;refine⟨λB0 w0 φ w ac r hf=>?_⟩;have hvr:=zN hf hx;obtain⟨bs,cap,hu,hle⟩:=fR hvr;obtain⟨bs2,cp,hu2,_⟩:=fR (zN hf hy);refine⟨ac.eval x,hvr,λw _=>tB ho ?_⟩;obtain⟨i,hi,e1,e2,e3⟩:=qN hI;rw[hu,hu2];cases bs <;> cases bs2 <;> simp[Builtin.append_,run_underlying hT,sizeOf,typeInfo,hi,Builtin.lenOf,hle,Builtin.firstCells,storeCells,loadCells,loadCellsFrom]
theorem yAm (T U:TypeId)(x y:Operand){adx:Option Addr}{n fl E s b:Nat}{z:Option Value}(ho:o.op=.call { callee:=.builtin .append,args:=#[x,y],argTypes:=#[T,U] })(hx:ev a x=some (.slice adx n fl))(hy:ev a y=some (S []))
  (hT:P.underlying T=some (.slice E)) (hU:P.underlying U=some .string) (hI:yC P E=some (z,s,b)):zR P N o a H (.slice adx n fl):=by
 refine⟨λB0 w0 φ w ac r hf=>?_⟩;have hvr:=zN hf hx;obtain⟨bs,cap,hu,hle⟩:=fR hvr;have hu2:=(zN hf hy).scalar rfl;refine⟨ac.eval x,hvr,λw _=>tB ho ?_⟩;obtain⟨i,hi,e1,e2,e3⟩:=qN hI;have hfc:=Lib.run_firstCells_string (P:=P) w i.size ⟨⟨[]⟩⟩;have hsc:Lib.strCells (⟨⟨[]⟩⟩:ByteArray)=[]:=rfl;have hsz:(⟨⟨[]⟩⟩:ByteArray).size=0:=rfl;rw[hsc,hsz]at hfc;rw[hu,hu2];cases bs <;> simp[Builtin.append_,run_underlying hT,run_underlying hU,sizeOf,typeInfo,hi,Builtin.lenOf,hsz,hle,hfc,storeCells]
theorem zXx (T:TypeId)(x y:Operand){A off n len A2 off2 n2 m fl2 E s b:Nat}{z:Value}{olds news:List Value}{g g2:Blk}
  (ho:o.op=.call { callee:=.builtin .append,args:=#[x,y],argTypes:=#[T,T] }) (hx:ev a x=some (.slice (some ⟨A,off,none⟩) len (n+1))) (hy:ev a y=some (gsl A2 off2 n2 m fl2))
  (hT:P.underlying T=some (.slice E)) (hI:yC P E=some (some z,s,b)) (hzs:z.cells.size=s) (hs:0<s)
  (hA:H[A]?=some (some g)) (hn:g.cells.length=n) (hol:olds.length=len*s) (hco:∀(i:Nat) v,olds[i]?=some v->g.cells[off+i]?=some v) (hA2:H[A2]?=some (some g2)) (hn2:g2.cells.length=n2)
  (hl:news.length=m*s) (hc:∀(i:Nat) v,news[i]?=some v->g2.cells[off2+i]?=some v)
  (hm:0<m) (hb:(len+m)*b<=140737488355328) (h63:len+m<=maxLen)
  {A0:Nat} {H':zI} (hpl:Place H A0 H' ⟨olds++news,false⟩):xG P N o a H (gsl A0 0 ((len+m)*s) (len+m) s) H':=by
 refine qI (λB0 w0 φ w ac r hf=>?_);obtain⟨cap2,hu2,_,_,_,hmp2⟩:=uV r hA2 hn2 (zN hf hy);have hu:=zN hf hx;generalize hv:ac.eval x=u at hu;cases hu with
 |full _ _ _ q _ c hL hle hlm hh =>
  rw[wH hA]at hL;simp only[Option.some.injEq]at hL;obtain⟨rfl,hmp⟩:=hh (by omega);obtain⟨us,hus,hucell⟩:=rI r hA2 hmp2 off2 hc;obtain⟨os,hold,hocell⟩:=rI r hA hmp off (vs:=olds) hco;obtain⟨i,hi,e1,e2,e3⟩:=qN hI;subst e2 e3;have hul:us.length=m*i.size:=by have:=hus.size;simp at this;omega
  have hosl:os.length=len*i.size:=by have:=hold.size;simp at this;omega
  have hrun:=run_append_grow (P:=P) w T o.type E i z hT hi e1 ⟨(φ A).b,(φ A).base+off,none⟩ len len os hosl (λj v h=>hocell j v h) _ m cap2 us hul hucell (by omega)
   (by unfold maxLen at h63;omega) (growslice_fits (by omega) hb)
  have hge:len+m<=grownCap w (len+m) len E:=grownCap_ge w _ _ _;have hcs:(os.toArray++us.toArray++Builtin.zeroCells z.cells (grownCap w (len+m) len E-(len+m))).size=grownCap w (len+m) len E*i.size:=by
   simp only[Array.size_append,List.size_toArray,size_zeroCells,hzs,hosl,hul,<-Nat.add_mul]
   congr 1;omega
  have hvr:yM φ (lens H) (olds++news) (os.toArray++us.toArray):=hold.append hus;obtain⟨g1,g2⟩:=pY (w':=w.drew.alloc (.cells (os.toArray++us.toArray++Builtin.zeroCells z.cells (grownCap w (len+m) len E-(len+m))) E)) r (ro:=false) (fz:=(0,0)) hpl hvr rfl rfl rfl rfl
   (by rw[hcs,Array.size_append,List.size_toArray,List.size_toArray,hul,hosl,<-Nat.add_mul];exact Nat.mul_le_mul_right _ hge) (λq hq=>by rw[Array.getElem?_append_left hq]) (λi _ h=>by simp at h)
  refine⟨_,.slice (some ⟨w.heap.size,0,none⟩) (len+m) (grownCap w (len+m) len E),_,g1,g2,?_,tB ho (by rw[hv,hu2];exact hrun)⟩;refine .slc _ _ _ ((len+m)*i.size) _ _ _ _ ?_ (Nat.le_refl _) hge (grownCap_le_maxLen w _ _ _ h63) (λ_=>⟨by rw[yU],λ_=>by rw[yU,hcs];exact Nat.le_of_eq (by rw[Nat.zero_add]),by rw[yU]⟩);rw[hpl.lens];simp[hl,hol,Nat.add_mul]
theorem yId (T U:TypeId)(x y:Operand){A off n len fl A2 off2 n2 m k fl2 E b:Nat}{z:Option Value}{cells vs:List Value}{m0:Mk}{g2:Blk}
  (ho:o.op=.call { callee:=.builtin .copy,args:=#[x,y],argTypes:=#[T,U] }) (hx:ev a x=some (gsl A off n len fl)) (hy:ev a y=some (gsl A2 off2 n2 m fl2))
  (hT:P.underlying T=some (.slice E)) (hI:yC P E=some (z,1,b)) (hA:H[A]?=some (some ⟨cells,m0⟩)) (hm0:m0.b=false) (hn:cells.length=n) (hA2:H[A2]?=some (some g2)) (hn2:g2.cells.length=n2)
  (hk:k=min m len) (hl:vs.length=k) (hfit:off+k<=cells.length) (hc:∀(i:Nat) v,vs[i]?=some v->g2.cells[off2+i]?=some v) (h1:vs.all one=true) :
  xG P N o a H (I k) (H.set A (some ⟨wO cells off vs,m0⟩)):=by
 refine qI (λB0 w0 φ w ac r hf=>?_);obtain⟨cap,hu,hlc,hcm,hsz,hmp⟩:=uV r hA hn (zN hf hx);obtain⟨cap2,hu2,hlc2,hcm2,hsz2,hmp2⟩:=uV r hA2 hn2 (zN hf hy);obtain⟨us,hus,hucell⟩:=rI r hA2 hmp2 off2 hc;have hul:us.length=vs.length:=by have:=hus.size;simpa using this
 have hone:=cH hus h1;obtain⟨i,hi,e1,e2,e3⟩:=qN hI;obtain⟨φ',w',g1,g2',g3⟩:=fH (P:=P) (off:=off) (vs:=vs) (us:=us) r hA hmp (by omega) hus hone hm0;refine⟨φ',.int .i64 k,w',g2',g3,.int _ _,zOn ho ?_⟩;have hload:=run_loadCells_list (P:=P) w ⟨(φ A2).b,(φ A2).base+off2,none⟩ us hucell;rw[hu,hu2];have hmin:Nat.min m len=us.length:=by rw[hul,hl,hk]
 simp[Builtin.copy_,run_underlying hT,Builtin.lenOf,Builtin.firstCells,sizeOf,typeInfo,hi,e2,hmin,hload,g1,goInt]
 try omega
theorem yDb (T U:TypeId)(x y:Operand){ad:Option Addr}{n fl E s b:Nat}{z:Option Value}(ho:o.op=.call { callee:=.builtin .copy,args:=#[x,y],argTypes:=#[T,U] })(hx:ev a x=some (.slice ad n fl))(hy:ev a y=some (.slice none 0 0))
  (hT:P.underlying T=some (.slice E)) (hI:yC P E=some (z,s,b)):zR P N o a H (I 0):=by
 refine⟨λB0 w0 φ w ac r hf=>?_⟩;obtain⟨bs,cap,hu,hle⟩:=fR (zN hf hx);have hu2:ac.eval y=.slice none 0 0:=Val.det rfl (zN hf hy);refine⟨.int .i64 0,.int _ _,λw _=>zOn ho ?_⟩;obtain⟨i,hi,e1,e2,e3⟩:=qN hI;rw[hu,hu2];cases bs <;> simp[Builtin.copy_,run_underlying hT,Builtin.lenOf,Builtin.firstCells,sizeOf,typeInfo,hi,storeCells,goInt]
theorem fZ {ρ:Operand->Value}{c:Builtin}{t:TypeId}{x:Operand}{v:Value}{w w':World}(ho:o.op=.call { callee:=.builtin c,args:=#[x],argTypes:=#[t] })
  (hr:∀cs,(builtin c #[t] o.type cs #[ρ x]).run P w=.ok (.value v) w'):(execOp ρ o).run P w=.ok (.value v) w':=by
 unfold execOp;simp only[ho,resolve,invoke,Sem.run_bind,Sem.run_pure,Result.andThen_ok,List.map_toArray,List.map_cons,List.map_nil,hr]
theorem zUo {ρ:Operand->Value}{c:Builtin}{t u:TypeId}{x y:Operand}{v:Value}{w w':World}(ho:o.op=.call { callee:=.builtin c,args:=#[x,y],argTypes:=#[t,u] })
  (hr:∀cs,(builtin c #[t,u] o.type cs #[ρ x,ρ y]).run P w=.ok (.value v) w'):(execOp ρ o).run P w=.ok (.value v) w':=by
 unfold execOp;simp only[ho,resolve,invoke,Sem.run_bind,Sem.run_pure,Result.andThen_ok,List.map_toArray,List.map_cons,List.map_nil,hr]
theorem zYp (T:TypeId)(x:Operand){A off n len fl E b:Nat}{z:Value}{cells:List Value}{m0:Mk}(ho:o.op=.call { callee:=.builtin .clear,args:=#[x],argTypes:=#[T] })(hx:ev a x=some (gsl A off n len fl))
  (hT:P.underlying T=some (.slice E)) (hI:yC P E=some (some z,1,b)) (hz:yB z=true) (hz1:one z=true) (hA:H[A]?=some (some ⟨cells,m0⟩)) (hm0:m0.b=false) (hn:cells.length=n) (h0:0<len) (hfit:off+len<=n) :
  xG P N o a H (.tuple #[]) (H.set A (some ⟨wO cells off (List.replicate len z),m0⟩)):=by
 refine qI (λB0 w0 φ w ac r hf=>?_);obtain⟨cap,hu,hlc,hcm,hsz,hmp⟩:=uV r hA hn (zN hf hx);have hzc:z.cells=#[z]:=(oN (Val.const (φ:=φ) (L:=lens H) hz) hz1).2.2;have hsz1:z.cells.size=1:=by rw[hzc];rfl
 have hus:yM φ (lens H) (List.replicate len z) (Builtin.zeroCells z.cells len):=by
  have h:=zDn (φ:=φ) (L:=lens H) hz (len*z.cells.size) (by omega);rw[zQy hz1,hsz1,Nat.mul_one]at h;have e:Builtin.zeroCells z.cells len=(Array.range len).map (z.cells[·%z.cells.size]!):=by
   unfold Builtin.zeroCells;rw[hsz1,Nat.mul_one]
  rw[e,hsz1];exact h
 have hone:=cH (us:=(Builtin.zeroCells z.cells len).toList) (by simpa using hus) (by rw[List.all_eq_true];intro v hv;rw[(List.mem_replicate.1 hv).2];exact hz1);obtain⟨φ',w',g1,g2',g3⟩:=fH (P:=P) (off:=off) (vs:=List.replicate len z) (us:=(Builtin.zeroCells z.cells len).toList) r hA hmp (by simp;omega) (by simpa using hus) hone hm0;refine⟨φ',.tuple #[],w',g2',g3,Val.const rfl,fZ ho λcs=>?_⟩;rw[hu];obtain⟨k,rfl⟩:∃k,len=k+1:=⟨len-1,by omega⟩;simp[builtin,Builtin.clear_,run_underlying hT,pJ hI,g1]
theorem yFk (T:TypeId)(x:Operand){E:Nat}(ho:o.op=.call { callee:=.builtin .cap,args:=#[x],argTypes:=#[T] })(hx:ev a x=some (.slice none 0 0))(hT:P.underlying T=some (.slice E)):zR P N o a H (I 0):=by
 refine⟨λB0 w0 φ w ac r hf=>⟨.int .i64 0,.int _ _,λw _=>fZ ho λcs=>?_⟩⟩;have hu:ac.eval x=.slice none 0 0:=Val.det rfl (zN hf hx);rw[hu];simp[builtin,Builtin.cap_,run_underlying hT,goInt]
theorem yEw (T:TypeId)(x:Operand)(ho:o.op=.call { callee:=.builtin .unsafeSliceData,args:=#[x],argTypes:=#[T] })(hx:ev a x=some (.slice none 0 0)):zR P N o a H (.pointer none):=by
 refine⟨λB0 w0 φ w ac r hf=>⟨.pointer none,.pnil,λw _=>fZ ho λcs=>?_⟩⟩;have hu:ac.eval x=.slice none 0 0:=Val.det rfl (zN hf hx);rw[hu];rfl
theorem yBl (T:TypeId)(x:Operand){A off n len fl:Nat}(ho:o.op=.call { callee:=.builtin .unsafeSliceData,args:=#[x],argTypes:=#[T] })(hx:ev a x=some (gsl A off n (len+1) fl)):zR P N o a H (zG A off n):=by
 refine⟨λB0 w0 φ w ac r hf=>?_⟩;have hu:=zN hf hx;generalize hv:ac.eval x=u at hu;cases hu with
 |slc _ _ _ m _ _ cap c hL hle hc hm hh =>
  refine⟨.pointer (some c),.ptr _ _ _ m _ hL hle (λe=>⟨(hh e).1,(hh e).2.2⟩),λw _=>fZ ho λcs=>?_⟩;rw[hv];have hrun:=Lib.run_unsafeSliceData_row (P:=P) (w:=w) #[T] o.type c (len+1) cap (by omega);simp only[builtin,Sem.run_bind,hrun,Result.andThen_ok,Sem.run_pure]
theorem yFy (T U:TypeId)(x y:Operand){ad:Option Addr}(ho:o.op=.call { callee:=.builtin .unsafeString,args:=#[x,y],argTypes:=#[T,U] })(hx:ev a x=some (.pointer ad))(hy:ev a y=some (.int .i64 0)):zR P N o a H (S []):=by
 refine⟨λB0 w0 φ w ac r hf=>?_⟩;have hu:=zN hf hx;have hy2:=(zN hf hy).scalar rfl;obtain⟨q,hq⟩:∃q,ac.eval x=.pointer q:=by
  generalize ac.eval x=u at hu;cases hu <;> exact⟨_,rfl⟩
 refine⟨S [],.str _,λw _=>zUo ho λcs=>?_⟩;rw[hq,hy2];have hrun:=Lib.run_unsafeString_none (P:=P) (w:=w) T U o.type q;simp only[builtin,Sem.run_bind,hrun,Result.andThen_ok,Sem.run_pure];rfl
theorem yGa (T U:TypeId)(x y:Operand){A E:Nat}{cells:List Value}{m0:Mk}{l:List UInt8}(ho:o.op=.call { callee:=.builtin .unsafeString,args:=#[x,y],argTypes:=#[T,U] })(hx:ev a x=some (zG A 0 cells.length))(hy:ev a y=some (.int .i64 l.length))
  (hT:P.underlying T=some (.pointer E)) (hE:P.cellsOf E=1) (hA:H[A]?=some (some ⟨cells,m0⟩)) (hm0:m0.b=false) (hty:m0.ty=some E) (h0:l≠[]) (hl:l.length<=maxLen) (hc:cells.take l.length=zS l) :
  xG P N o a H (S l) (H.set A (some ⟨cells,⟨true,m0.ty⟩⟩)):=by
 refine qI (λB0 w0 φ w ac r hf=>?_);obtain⟨hu,hmp⟩:=uP r hA rfl (zN hf hx);have hu2:=(zN hf hy).scalar rfl;obtain⟨c,Ty,fz,k1,k2,k3,k4,k5,k6⟩:=(r.blk A _ hA).exT hmp;obtain⟨_,hbase⟩:=r.own A _ hA hm0;obtain rfl:=k6 E hty;rw[hbase]at hu;simp only[Nat.add_zero]at hu;have hll:l.length<=cells.length:=by
  have:=congrArg List.length hc;simp at this;omega
 simp only at k3 k5;obtain⟨us,hus,hucell⟩:=rI r hA hmp 0 (vs:=zS l) (λi v hi=>by
  rw[<-hc,List.getElem?_take]at hi;split at hi
  ·rw[Nat.zero_add];exact hi
  ·cases hi)
 rw[hbase]at k3 k5;have hcell:∀j x,l[j]?=some x->w.cell? ((⟨(φ A).b,0,none⟩:Addr).add j)=some (.int .u8 x.toNat):=by
  intro j x hj;have hjl:=(List.getElem?_eq_some_iff.1 hj).1;have hv:cells[j]?=some (lF x):=by
   have h1:(cells.take l.length)[j]?=some (lF x):=by rw[hc,List.getElem?_map,hj];rfl
   rwa [List.getElem?_take,if_pos hjl]at h1
  have hj2:(zS l)[j]?=some (lF x):=by rw[List.getElem?_map,hj];rfl
  obtain⟨v',g1,g2⟩:=hus.get j _ hj2;have:=g2.scalar rfl;subst this;have:=hucell j _ (by simpa using g1);rw[hbase]at this;exact this
 have hsh:w.shape? (φ A).b=some (Ty,c.size):=by unfold World.shape?;rw[k1]
 have hrun:=Lib.run_unsafeString_row (P:=P) (w:=w) T U o.type Ty hT hE (φ A).b c.size hsh l h0 (by omega) (by unfold maxLen at hl;omega) hcell;have hlt:(φ A).b<w.heap.size:=(Array.getElem?_eq_some_iff.1 k1).1;obtain⟨fz',hfz⟩:∃fz',(w.freeze ⟨(φ A).b,0,none⟩ l.length).heap[(φ A).b]?=some (.cells c Ty fz'):=by
  obtain⟨lo,hi⟩:=fz;have hne:l.length≠0:=by simpa using h0
  refine⟨if lo == hi then(0,0+l.length)else(min lo 0,max hi (0+l.length)),?_⟩;unfold World.freeze;rw[if_neg hne];simp only[Array.getElem?_modify,if_true,k1,Option.map_some]
 have hoth:∀k,k≠(φ A).b->(w.freeze ⟨(φ A).b,0,none⟩ l.length).heap[k]?=w.heap[k]?:=by
  intro k hk;unfold World.freeze;split
  ·rfl
  ·rw[Array.getElem?_modify,if_neg (Ne.symm hk)]
 have hfw:(w.freeze ⟨(φ A).b,0,none⟩ l.length).os=w.os/\(w.freeze ⟨(φ A).b,0,none⟩ l.length).tape=w.tape/\(w.freeze ⟨(φ A).b,0,none⟩ l.length).output=w.output/\(w.freeze ⟨(φ A).b,0,none⟩ l.length).heap.size=w.heap.size:=by
  unfold World.freeze;split
  ·exact⟨rfl,rfl,rfl,rfl⟩
  ·exact⟨rfl,rfl,rfl,by simp⟩
 have key:=nP (w':=w.freeze ⟨(φ A).b,0,none⟩ l.length) (g':=⟨cells,⟨true,m0.ty⟩⟩) (l':=φ A) r hA hm0 hfw.1 hfw.2.1 hfw.2.2.1 (by rw[hfw.2.2.2];exact Nat.le_refl _) (λk _ hk=>hoth k hk) (.inl rfl) hbase (.inl ⟨rfl,rfl⟩) (λhext=>by
  rw[mZ]at hext ⊢;refine⟨_,c,hfz,.cells hmp k2 (λh=>by cases h) (λt ht=>by rw[hty]at ht;cases ht;rfl),by rw[hbase];exact k3,λi v hi=>?_⟩;rw[hbase];obtain⟨v',g1,g2⟩:=k5 i v hi;exact⟨v',g1,g2.mono hext⟩)
 refine⟨_,S l,_,key.1,key.2,.str _,zUo ho λcs=>?_⟩;rw[hu,hu2];simp only[builtin,Sem.run_bind,hrun,Result.andThen_ok,Sem.run_pure]
end
section
variable {P:Program} {o:Oper} {f:Fm} {h:Hp}
theorem yOn {T:TypeId}(e:zBv P T=true):∃K E,P.underlying T=some (.map K E):=by
 unfold zBv at e;split at e
 ·exact⟨_,_,by assumption⟩
 ·cases e
theorem zBd {x:Value}(e:dT x=true):∃ad n fl,x=.slice ad n fl:=by
 unfold dT at e;split at e
 ·exact⟨_,_,_,rfl⟩
 ·cases e
theorem zPi {m:Mk}{E:Nat}(e:oP m E=true):m.ty=some E:=by
 unfold oP at e;split at e
 ·rename_i t ht;rw[ht,yP.1 e]
 ·cases e
theorem yMg {x:Operand}{v:Value}{T:TypeId}(ho:o.op=.call { callee:=.builtin .len,args:=#[x],argTypes:=#[T] })(hx:∀a',Ag o (yI f) a'->ev a' x=some v):yF P o f h (zEy P h v T):=by
 unfold zEy;split
 ·rename_i s
  exact yN λhT=>zY λ_ _ _ hag _=>zMx T x ho ((hx _ hag).trans (congrArg some (vX s))) (sS hT)
 ·refine yN λhT=>?_
  obtain⟨E,hE⟩:=zEp hT;exact zY λ_ _ _ hag _=>zVu T x ho (hx _ hag) hE
 ·split
  ·rename_i g hg
   refine yN λhT=>?_;obtain⟨K,E,hE⟩:=yOn hT;exact zY λ_ _ _ hag hfp=>yLp T x ho (hx _ hag) (hfp _ (by simp) g hg) hE
  ·exact trivial
 ·split
  ·rename_i hT
   exact zY λ_ _ _ hag _=>yFc T x ho (hx _ hag) hT
  ·exact trivial
theorem zIp {x y:Operand}{u v:Value}{T U:TypeId}{b:Bool}(ho:o.op=.call { callee:=.builtin (bif b then .max else .min),args:=#[x,y],argTypes:=#[T,U] })(hx:∀a',Ag o (yI f) a'->ev a' x=some u)(hy:∀a',Ag o (yI f) a'->ev a' y=some v):yF P o f h (zAb b u v):=by
 unfold zAb;split
 ·rename_i k m k' n
  refine yN λhk=>?_;cases iW hk;cases b with
  |true=>exact zY λ_ _ _ hag _=>zKg T U x y ho (hx _ hag) (hy _ hag)
  |false=>exact zY λ_ _ _ hag _=>zJl T U x y ho (hx _ hag) (hy _ hag)
 ·exact trivial
theorem wQ {g:Blk}{k m:Nat}{l:List Value}(e:uD g k m=some l):l.length=m/\∀(i:Nat) v,l[i]?=some v->g.cells[k+i]?=some v:=⟨(lR e).2,zGn e⟩
theorem yMf {H:zI}{A B:Nat}{g0 g g':Blk}(hA:H[A]?=some (some g0))(hB:H[B]?=some (some g))(hc:g'.cells=g0.cells):∃g2,(H.set A (some g'))[B]?=some (some g2)/\g2.cells=g.cells:=by
 by_cases e:B=A
 ·subst e
  rw[hA]at hB;cases hB;exact⟨g',List.getElem?_set_self (List.getElem?_eq_some_iff.1 hA).1,hc⟩
 ·exact⟨g,by rw[List.getElem?_set_ne (by omega)];exact hB,rfl⟩
theorem set_set {H:zI}{A:Nat}{x y:Option Blk}:(H.set A x).set A y=H.set A y:=List.set_set _
theorem yOg {x y:Operand}{u v:Value}{T U:TypeId}(ho:o.op=.call { callee:=.builtin .append,args:=#[x,y],argTypes:=#[T,U] })(hx:∀a',Ag o (yI f) a'->ev a' x=some u)(hy:∀a',Ag o (yI f) a'->ev a' y=some v):yF P o f h (zAo P h u v T U):=by
 have hlim:=oJ;unfold zAo;split
 ·exact trivial
 rename_i E hE;have hT:=nR hE;split
 ·rename_i s
  have hy':∀a',Ag o (yI f) a'->ev a' y=some (S (yQ s)):=λa' hag=>by rw[hy a' hag,vX]
  split
  ·rename_i z b hI
   refine yN λhc=>?_;simp only[Bool.and_eq_true,yP]at hc;have hU:=sS hc.1;unfold zRn;refine mJ (λh0=>yN λhs=>?_) λh0=>yN λhl=>?_
   ·obtain⟨ad,n,fl,rfl⟩:=zBd hs
    have h0:yQ s=[]:=List.eq_nil_of_length_eq_zero (yP.1 h0);exact zY λ_ _ _ hag _=>yAm T U x y ho (hx _ hag) (by rw[hy' _ hag,h0]) hT hU hI
   ·have hl:=xU.1 hl
    have hpos:0<(yQ s).length:=Nat.pos_of_ne_zero λe=>by rw[e]at h0;cases h0
    generalize yQ s=l at *;unfold zJs;split
    ·refine yN λhb=>mX λ_ _ _ _ _ hag hpl=>?_
     have hb:=xU.1 hb;exact zQs T U x y ho (hx _ hag) (hy' _ hag) hT hU hI hc.2 hpos (by omega) (by unfold maxLen;omega) hpl (λt ht=>by cases ht;rfl)
    ·rename_i A n len fl
     split
     ·rename_i g hg
      obtain⟨g1,g2⟩:=qZ hg;refine yN λhc2=>?_;simp only[Bool.and_eq_true,yP,xU,Bool.not_eq_true']at hc2;obtain⟨⟨⟨⟨c1,c2⟩,c3⟩,c4⟩,c5⟩:=hc2;subst c3;obtain⟨cells,m0⟩:=g;refine uJ g1 c1 λ_ _ _ hag hfp=>?_;have key:=zHo (N:=‹Fr›) (m0:=m0) (m1:=bif oP m0 E then m0 else⟨false,none⟩) T U x y ho (hx _ hag) (hy' _ hag) hT hU hI hc.2 rfl (hfp _ _ g1) g2 (by omega) (by omega) (by unfold maxLen;omega) c1
       (by cases hty:oP m0 E with|true=>exact c1|false=>rfl)
       (by
        intro t ht;cases hty:oP m0 E with
        |true =>
         rw[hty]at ht;have:=zPi hty;refine⟨ht,?_⟩;have h2:m0.ty=some t:=ht;rw[this]at h2;cases h2;rfl
        |false=>rw[hty]at ht;cases ht)
      simpa using key
     ·exact trivial
    ·exact trivial
  ·exact trivial
 ·split
  ·rename_i z s b hI
   refine yN λhTU=>?_;obtain rfl:=yP.1 hTU;unfold zJv;split
   ·refine yN λhs=>?_
    obtain⟨ad,n,fl,rfl⟩:=zBd hs;exact zY λ_ _ _ hag _=>zUh T T x y ho (hx _ hag) (hy _ hag) hT rfl hI
   ·refine yN λhs=>?_
    obtain⟨ad,n,fl,rfl⟩:=zBd hs;exact zY λ_ _ _ hag _=>zUh T T x y ho (hx _ hag) (hy _ hag) hT rfl hI
   ·rename_i A2 off2 n2 m fl2 _
    split
    ·rename_i g2 hg2
     obtain⟨k1,k2⟩:=qZ hg2;refine yN λhc=>?_;simp only[Bool.and_eq_true,yP,xS]at hc;obtain⟨⟨hzs,hs⟩,hm⟩:=hc;unfold zTn;split
     ·exact trivial
     ·rename_i news hnews
      obtain⟨q1,q2⟩:=wQ hnews;split
      ·unfold zQc
       refine yN λhb=>zFu λ_ _ _ _ _ hag hfp hpl=>?_;simp only[Bool.and_eq_true,xU]at hb;exact zLe T x y ho (hx _ hag) (hy _ hag) hT hI hzs hs (hfp _ _ k1) k2 q1 q2 hm (by omega) (by unfold maxLen;omega) hpl
      ·rename_i A n len fl
       unfold zIa;split
       ·rename_i g hg
        obtain⟨g1,g3⟩:=qZ hg;refine yN λhc2=>?_;simp only[Bool.and_eq_true,yP,xU,Bool.not_eq_true']at hc2;obtain⟨⟨⟨⟨⟨c1,c2⟩,c3⟩,c4⟩,c5⟩,c6⟩:=hc2;subst c3;obtain⟨cells,m0⟩:=g;refine uJ g1 c1 λ_ a' H hag hfp=>?_;have hA:=hfp _ _ g1;obtain⟨g2',z1,z2⟩:=yMf (g':=⟨cells,false⟩) hA (hfp _ _ k1) rfl;have key:=zUb (N:=‹Fr›) (a:=a') T x y ho (hx _ hag) (hy _ hag) hT hI hzs hs (List.getElem?_set_self (List.getElem?_eq_some_iff.1 hA).1) g3 c2 z1 (by rw[z2];exact k2) q1 (by rw[z2];exact q2) c4 (by omega) (by unfold maxLen;omega);rw[set_set]at key;exact yFo hA c1 key
       ·exact trivial
      ·rename_i A off len n
       unfold zNn;split
       ·rename_i g hg
        obtain⟨g1,g3⟩:=qZ hg;unfold zJw;split
        ·rename_i olds holds
         obtain⟨r1,r2⟩:=wQ holds;refine yN λhb=>zFu λ_ _ _ _ _ hag hfp hpl=>?_;simp only[Bool.and_eq_true,xU]at hb;exact zXx T x y ho (hx _ hag) (hy _ hag) hT hI hzs hs (hfp _ _ g1) g3 r1 r2 (hfp _ _ k1) k2 q1 q2 hm (by omega) (by unfold maxLen;omega) hpl
        ·exact trivial
       ·exact trivial
      ·exact trivial
    ·exact trivial
   ·exact trivial
  ·exact trivial
theorem yDx {x y:Operand}{u v:Value}{T U:TypeId}(ho:o.op=.call { callee:=.builtin .copy,args:=#[x,y],argTypes:=#[T,U] })(hx:∀a',Ag o (yI f) a'->ev a' x=some u)(hy:∀a',Ag o (yI f) a'->ev a' y=some v):yF P o f h (zAu P h u v T):=by
 unfold zAu;split
 ·split
  ·rename_i E hE
   refine yN λhc=>?_;cases hI:yC P E with
   |none=>rw[hI]at hc;cases hc
   |some z =>
    obtain⟨z,s,b⟩:=z;exact zY λ_ _ _ hag _=>yDb T U x y ho (hx _ hag) (hy _ hag) (nR hE) hI
  ·exact trivial
 ·rename_i A off n len fl A2 off2 n2 m fl2
  split
  ·rename_i E hE
   split
   ·rename_i z s b hI
    refine yN λhs=>?_;obtain rfl:=yP.1 hs;unfold zUj;split
    ·rename_i g g2 hg hg2
     obtain⟨g1,g3⟩:=qZ hg;obtain⟨k1,k2⟩:=qZ hg2;have hk:(bif Nat.ble m len then m else len)=min m len:=by
      cases hb:Nat.ble m len with
      |true=>have:=xU.1 hb;simp[Nat.min_eq_left this]
      |false =>
       have:¬m<=len:=λh=>by rw[xU.2 h]at hb;cases hb
       simp;omega
     generalize (bif Nat.ble m len then m else len)=k at hk;unfold zMl;split
     ·rename_i vs hvs
      obtain⟨q1,q2⟩:=wQ hvs;refine yN λhc=>?_;simp only[Bool.and_eq_true,xU,Bool.not_eq_true']at hc;obtain⟨⟨c1,c2⟩,c3⟩:=hc;obtain⟨cells,m0⟩:=g;replace g3:cells.length=n:=g3;subst g3;replace c3:m0.b=false:=c3;exact uJ g1 c3 λ_ _ _ hag hfp=>yId T U x y ho (hx _ hag) (hy _ hag) (nR hE) hI (hfp _ _ g1) c3 rfl (hfp _ _ k1) k2 hk q1 c1 q2 c2
     ·exact trivial
    ·exact trivial
   ·exact trivial
  ·exact trivial
 ·exact trivial
theorem yIq {x y:Operand}{u v:Value}{T U:TypeId}(ho:o.op=.call { callee:=.builtin .unsafeString,args:=#[x,y],argTypes:=#[T,U] })(hx:∀a',Ag o (yI f) a'->ev a' x=some u)(hy:∀a',Ag o (yI f) a'->ev a' y=some v):yF P o f h (zEs P h u v T):=by
 unfold zEs;split
 ·exact zY λ_ _ _ hag _=>yFy T U x y ho (hx _ hag) (hy _ hag)
 ·rename_i A n m E hne hT
  have hm:m≠0:=λe=>by subst e;exact hne rfl
  unfold zRp;split
  ·rename_i g hg
   obtain⟨g1,g3⟩:=qZ hg;unfold zMt;split
   ·rename_i l hl
    refine yN λhc=>?_;simp only[Bool.and_eq_true,yP,xU,Bool.not_eq_true']at hc;obtain⟨⟨⟨c1,c2⟩,c3⟩,c4⟩:=hc;unfold zPc;split
    ·rename_i bs hbs
     have hbv:=zMv hbs;obtain⟨e1,e2⟩:=lR hl;obtain⟨cells,m0⟩:=g;simp only at g3 c1 c2 e1;subst g3;have hbl:bs.length=m:=by rw[<-e2,hbv];simp
     subst hbl;have:=oJ;exact uJ g1 c1 λ_ _ _ hag hfp=>yGa T U x y ho (hx _ hag) (hy _ hag) hT c3 (hfp _ _ g1) c1 (zPi c2) (λe=>hm (by rw[e];rfl)) (by unfold maxLen;omega) (by rw[<-hbv,e1];simp)
    ·exact trivial
   ·exact trivial
  ·exact trivial
 ·exact trivial
theorem yGj {b:Builtin}{x:Operand}{u:Value}{T:TypeId}(ho:o.op=.call { callee:=.builtin b,args:=#[x],argTypes:=#[T] })(hx:∀a',Ag o (yI f) a'->ev a' x=some u):yF P o f h (zBj P h b u T):=by
 unfold zBj;split
 ·exact yMg ho hx
 ·unfold zLm
  split
  ·refine yN λhT=>?_
   obtain⟨E,hE⟩:=zEp hT;exact zY λ_ _ _ hag _=>yFk T x ho (hx _ hag) hE
  ·exact trivial
 ·unfold zQw
  split
  ·rename_i A off n len fl E hE
   split
   ·rename_i z b hI
    unfold zMj;split
    ·rename_i g hg
     obtain⟨g1,g3⟩:=qZ hg;refine yN λhc=>?_;simp only[Bool.and_eq_true,xS,xU,Bool.not_eq_true']at hc;obtain⟨⟨⟨⟨c1,c2⟩,c3⟩,c4⟩,c5⟩:=hc;obtain⟨cells,m0⟩:=g;exact uJ g1 c3 λ_ _ _ hag hfp=>zYp T x ho (hx _ hag) (nR hE) hI c1 c2 (hfp _ _ g1) c3 g3 c5 c4
    ·exact trivial
   ·exact trivial
  ·exact trivial
 ·unfold zNq
  split
  ·exact zY λ_ _ _ hag _=>yEw T x ho (hx _ hag)
  ·exact zY λ_ _ _ hag _=>yBl T x ho (hx _ hag)
  ·exact trivial
 ·exact trivial
theorem zYw {b:Builtin}{x y:Operand}{u v:Value}{T U:TypeId}(ho:o.op=.call { callee:=.builtin b,args:=#[x,y],argTypes:=#[T,U] })(hx:∀a',Ag o (yI f) a'->ev a' x=some u)(hy:∀a',Ag o (yI f) a'->ev a' y=some v):yF P o f h (zGe P h b u v T U):=by
 unfold zGe;split
 ·exact yOg ho hx hy
 ·exact zIp (b:=false) ho hx hy
 ·exact zIp (b:=true) ho hx hy
 ·exact yDx ho hx hy
 ·exact yIq ho hx hy
 ·exact trivial
theorem zBy {x:Operand}{us:List Value}:∀{xs:List Operand},uI f xs=some us->us.length=xs.length
 |[],h=>by cases h;rfl
 |y::ys,h=>by
  unfold uI at h;split at h
  ·rename_i v vs h1 h2
   cases h;simp[zBy (x:=x) h2]
  ·cases h
theorem yBz {b:Builtin}{args:List Operand}{ts:List TypeId}(ho:o.op=.call { callee:=.builtin b,args:=args.toArray,argTypes:=ts.toArray }):yF P o f h (zEi P f h b args ts):=by
 unfold zEi;split
 ·rename_i u T hx
  have hl:=zBy (x:=.func 0) hx
  match args,hl,hx,ho with
  |[x],_,hx,ho =>
   refine yGj ho λa' hag=>?_;have:=lG hx hag (λz hz=>by rw[ho];simp[Op.operands,Call.operands]at hz ⊢;exact hz);simp only[evs]at this;split at this
   ·rename_i v vs h1 h2
    cases this;exact h1
   ·cases this
 ·rename_i u v T U hx
  have hl:=zBy (x:=.func 0) hx
  match args,hl,hx,ho with
  |[x,y],_,hx,ho =>
   have key:∀a',Ag o (yI f) a'->ev a' x=some u/\ev a' y=some v:=λa' hag=>by
    have:=lG hx hag (λz hz=>by rw[ho];simp[Op.operands,Call.operands]at hz ⊢;exact hz);simp only[evs]at this;split at this
    ·rename_i v1 vs h1 h2
     split at h2
     ·rename_i v2 vs2 h3 h4
      cases h2;cases h4;cases this;exact⟨h1,h3⟩
     ·cases h2
    ·cases this
   exact zYw ho (λa' hag=>(key a' hag).1) (λa' hag=>(key a' hag).2)
 ·exact trivial
end
end
end Go.Gh
end
section
set_option maxRecDepth 4000
namespace Go.Gh
open Go.RowKit
noncomputable section
section
variable {P:Program} {o:Oper} {f:Fm} {h:Hp}
theorem yJf {x:Operand}{args:List Operand}{ts:Array TypeId}(ho:o.op=.call { callee:=.value x,args:=args.toArray,argTypes:=ts }):yF P o f h (zDt f x args):=by
 unfold zDt;have hin:∀y∈args,y∈o.op.operands:=λy hy=>by rw[ho];simp[Op.operands,Call.operands,hy]
 have hinx:x∈o.op.operands:=by rw[ho];simp[Op.operands,Call.operands]
 split
 ·rename_i g us vs as0 hx has
  intro N a' φ L ac hag hfr;have h1:=zN hfr (yR hx hag hinx);have h2:=pD hfr (lG has hag hin);generalize hu:ac.eval x=u at h1;cases h1 with
  |func _ _ b _ d e1 e2 e3 e4 =>
   refine⟨_,((yM.of_arrays e1 e2).append h2).append (yM.of_arrays e3 e4),λw=>?_⟩;unfold execOp;simp only[ho,resolve,List.map_toArray,hu,Deferred.ofValue,Sem.run_bind,Sem.run_pure,Result.andThen_ok,invoke]
 ·rename_i A as0 hx has
  exact⟨x,args,ts,ho,λa' hag=>⟨yR hx hag hinx,lG has hag hin⟩⟩
 ·exact trivial
theorem yJw {c:Call}(ho:o.op=.call c):yF P o f h (zFo P f h c):=by
 obtain⟨ce,args,ts⟩:=c;unfold zFo;cases ce with
 |builtin b=>exact yBz (ts:=ts.toList) (by rw[ho])
 |value x=>exact yJf (ts:=ts) (by rw[ho])
 |_=>exact trivial
theorem zRr (P:Program)(o:Oper)(f:Fm)(h:Hp):yF P o f h (tG P f h o.op):=by
 generalize ho:o.op=op;cases op with
 |move x=>exact yAa ho
 |assign x=>exact yFg ho
 |pick c x y=>exact yGh ho
 |alloc T=>exact yJi ho
 |box T x=>exact yPh ho
 |build T ps=>exact yIl (by rw[ho])
 |buildSlice T n ps=>exact zXh (by rw[ho])
 |load T x=>exact yCj ho
 |store T x y=>exact yBr ho
 |nilCheck x=>exact yKb ho
 |binOp op T x y U=>exact yAc ho
 |unOp op T x=>exact yFs ho
 |convert T U x=>exact yHa ho
 |makeFunc fn xs ys=>exact yDy (by rw[ho])
 |makeMap T r=>exact yNn ho
 |makeSlice T x y=>exact yKv ho
 |slice T x lo hi mx=>exact yJp ho
 |fieldAddr T x i=>exact zWe ho
 |field T x i=>exact yKd ho
 |indexAddr T x y=>exact yCr ho
 |index T x y=>exact yDr ho
 |lookup T x k c=>exact yCe ho
 |mapUpdate T x k y=>exact zUy (.inl ho)
 |insert T x k y=>exact zUy (.inr ho)
 |range T x=>exact yLa ho
 |next x b=>exact yIe ho
 |entry x=>exact yCs ho
 |extract x i=>exact yNe ho
 |call c=>exact yJw ho
 |_=>exact trivial
end
end
end Go.Gh
end
