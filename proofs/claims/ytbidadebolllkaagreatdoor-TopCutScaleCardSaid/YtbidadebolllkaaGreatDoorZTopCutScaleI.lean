/- Part 9 of the proof of the law TopCutScale: texts merged. No condition. -/
import Derived.Test.YtbidadebolllkaaGreatDoorZTopCutScaleH
set_option linter.unusedSimpArgs false
set_option linter.unusedVariables false
section
set_option maxRecDepth 4000
namespace Go.Proofs.YtbidadebolllkaaGreatDoor
open Go.Gh Go.RowKit

theorem yAj {ss:List Scp}:∀{n:Nat},nD n ss=true->∀i,i<ss.length->-1<=ss[i]!.2.2/\ss[i]!.2.2<((n+i:Nat):Int):=by
 induction ss with
 |nil=>intro n _ i hi;exact absurd hi (Nat.not_lt_zero _)
 |cons s r ih =>
  intro n h i hi;have h:(decide (-1<=s.2.2/\s.2.2<(n:Int)) && nD (n+1) r)=true:=h;rw[Bool.and_eq_true,decide_eq_true_eq]at h;cases i with
  |zero=>exact h.1
  |succ i =>
   have:=ih h.2 i (by rw[List.length_cons]at hi;omega);rw[show n+1+i=n+(i+1)by omega]at this;have e:(s::r)[i+1]! = r[i]!:=by rw[List.length_cons]at hi;rw[getElem!_pos _ _ (by rw[List.length_cons];omega),getElem!_pos r i (by omega)];rfl
   rw[e];exact this
theorem zPs {ss:List Scp}{vs:List Vr}(h:dcl ss vs=true):gJ ss:=λi hi=>by
 unfold dcl at h;rw[Bool.and_eq_true]at h;have:=yAj h.1 i hi;rwa [Nat.zero_add]at this
def dpB (ss:List Scp):Bool:=(List.range ss.length).all λi=>decide (rC (ss.length+1) ss i<=8)
def chk (ss:List Scp)(vs:List Vr):Int :=
 if 32<ss.length\/128<vs.length then 9 else
 if dcl ss vs=false then 1 else
 if dpB ss=false then 9 else
 if ss.any (λx=>!nmv x.1)=true then 4 else if vs.any (λx=>!nmv x.1)=true then 4 else
 if ss.any (λx=>decide (x.2.1<0\/4<x.2.1))=true then 7 else if vs.any (λx=>decide (x.2.1<0\/18<x.2.1))=true then 7 else
 if vs.any bdR=true then 2 else
 if uq nI [] ss=false then 5 else if uq oU [] vs=false then 5 else 0
theorem zQj {n i:Nat}(h:i<n):(List.range n)[i]! = i:=by rw[getElem!_pos _ i (by rw[List.length_range];exact h)];exact List.getElem_range _
theorem zHy (ss:List Scp)(vs:List Vr)(v w:Value)(h:SH)(hv:Has h (zF scF ss) 3 ss.length v)(hw:Has h (zF vrF vs) 7 vs.length w)(hl:ss.length<=1000)(hl2:vs.length<=1000)
  (hs:∀c∈ss,c.1.length<=1000) (hr:∀c∈vs,c.1.length<=1000) :
  zH Tryz.prog 166 [v,w] h λr q=>r=I (chk ss vs)/\q=h:=by
 have hD:=λh hv hw=>yPf ss vs v w h hv hw hl hl2;have hdP:=@zPs ss vs;have hP:=λ(hd:gJ ss) i h hv hi=>yEe ss i v h hv hl hd hi;have hC1:=λ(A:Nat) (h' h1:SH) (hp:Pick h' A ⟨[fnV 211],false⟩ h1) (hv:Has h' (zF scF ss) 3 ss.length v) =>
  zIo ss (λx=>!nmv x.1) 215 [zG A 0 1] v h' hv (by omega) (by kernel_rfl) (λx hx h2 t=>by
   obtain⟨h3,q,_⟩:=t.pick hp;exact zZa x A h2 h3 q (hs x hx))
 have hC2:=λ(A:Nat) (h' h1:SH) (hp:Pick h' A ⟨[fnV 211],false⟩ h1) (hw:Has h' (zF vrF vs) 7 vs.length w) =>
  zAc vs (λx=>!nmv x.1) 217 [zG A 0 1] w h' hw (by omega) (by kernel_rfl) (λx hx h2 t=>by
   obtain⟨h3,q,_⟩:=t.pick hp;exact yPm x A h2 h3 q (hr x hx))
 have hC3:=λ(A:Nat) (h' h1:SH) (hp:Pick h' A ⟨[fnV 212],false⟩ h1) (hv:Has h' (zF scF ss) 3 ss.length v) =>
  zIo ss (λx=>decide (x.2.1<0\/4<x.2.1)) 218 [zG A 0 1] v h' hv (by omega) (by kernel_rfl) (λx hx h2 t=>by
   obtain⟨h3,q,_⟩:=t.pick hp;exact yEl x A h2 h3 q)
 have hC4:=λ(A:Nat) (h' h1:SH) (hp:Pick h' A ⟨[fnV 212],false⟩ h1) (hw:Has h' (zF vrF vs) 7 vs.length w) =>
  zAc vs (λx=>decide (x.2.1<0\/18<x.2.1)) 219 [zG A 0 1] w h' hw (by omega) (by kernel_rfl) (λx hx h2 t=>by
   obtain⟨h3,q,_⟩:=t.pick hp;exact yOx x A h2 h3 q)
 have hC5:=λ(h':SH) (hw:Has h' (zF vrF vs) 7 vs.length w) =>
  zAc vs bdR 213 [] w h' hw (by omega) (by kernel_rfl) (λx hx h2 t=>yEn x h2)
 have hC6:=λh hv=>yKh ss v h hv hl;have hC7:=λh hw=>zYg vs w h hw hl2;obtain⟨ad,fl,rfl,-⟩:=id hv;obtain⟨ad2,fl2,rfl,-⟩:=id hw;unfold chk;generalize ss.any (λx=>!nmv x.1)=y1 at *;generalize vs.any (λx=>!nmv x.1)=y2 at *;generalize ss.any (λx=>decide (x.2.1<0\/4<x.2.1))=y3 at *;generalize vs.any (λx=>decide (x.2.1<0\/18<x.2.1))=y4 at *;generalize vs.any bdR=y5 at *;generalize uq nI [] ss=y6 at *;generalize uq oU [] vs=y7 at *;generalize dcl ss vs=y0 at *;by_cases h0:32<ss.length\/128<vs.length
 ·rw[if_pos h0]
  refine yJ Tryz.func166 rfl rfl ?_
  repeat'(first|apply zE|apply zD|apply zC|refine jg ?_ ?_|refine jw ?_|refine jk ?_|(apply vJ;(iterate 3 exact rfl);all_goals intro hc)|(apply yO;exact rfl)|refine jd ?_|apply zB|apply zV|apply zJ|exact jS|fail)
  all_goals first|exact jX|exact jG
 rw[if_neg h0];cases y0 with
 |false =>
  rw[if_pos rfl];refine yJ Tryz.func166 rfl rfl ?_
  repeat'(first|apply zE|apply zD|apply zC|refine jg ?_ ?_|(apply yS;exact rfl;exact rfl)|(apply zZ;exact rfl;exact rfl;exact rfl;exact rfl;exact⟨_,hD _ (hv.re jN) (hw.re jN),zA.nil⟩;rintro _ _ ⟨rfl,rfl⟩)|refine jw ?_|refine ji ?_|(apply yO;exact rfl)|refine jf ?_|apply zB|apply zV|apply zL|apply zJ|exact jS|fail)
  all_goals first|exact jX|exact jG
 |true =>
 rw[if_neg (by decide)];have hP:=hP (hdP rfl);obtain⟨b,hb⟩:∃b,dpB ss=b:=⟨_,rfl⟩;rw[hb];refine yJ Tryz.func166 rfl rfl ?_
 repeat'(first|apply zE|apply zD|apply zC|refine jg ?_ ?_|(apply yS;exact rfl;exact rfl)|(apply zZ;exact rfl;exact rfl;exact rfl;exact rfl;exact⟨_,hD _ (hv.re jN) (hw.re jN),zA.nil⟩;rintro _ _ ⟨rfl,rfl⟩)|refine jw ?_|refine ji ?_|(apply zX;exact rfl)|refine jf ?_|apply zB|apply zL|apply zM|exact jS|fail)
 all_goals try exact jX
 rename SH=>h;refine yH (S:=Nat) (λi=>[(0,.slice ad ss.length fl),(1,.slice ad2 vs.length fl2),(22,I ss.length),(23,I i)]) (λ_=>h) (λi=>i<=ss.length/\((List.range ss.length).drop i).all (λi=>decide (rC (ss.length+1) ss i<=8))=b) (λi=>ss.length-i) 0 ⟨Nat.zero_le _,hb⟩ jB jT ?_;rintro i ⟨hi,hg⟩;by_cases hil:i<ss.length
 ·have hPi:=λh hv=>hP i h hv hil
  rw[tP (by rw[List.length_range];exact hil),zQj hil]at hg;generalize rC (ss.length+1) ss i=n at *;by_cases hn:n<=8
  ·rw[decide_eq_true hn,Bool.true_and]at hg
   repeat'(first|apply zE|apply zD|apply zC|refine jg ?_ ?_|(apply ja;exact jH)|(apply zZ;exact rfl;exact rfl;exact rfl;exact rfl;exact⟨_,hPi _ (hv.re jN),zA.nil⟩;rintro _ _ ⟨ad3,fl3,rfl,rfl⟩)|refine jd ?_|refine jf ?_|apply zB|apply zQ|apply zL|apply zM|exact jS|exact jW|fail)
   all_goals first
    |exact jX
    |exact⟨i+1,⟨hil,hg⟩,by show ss.length-(i+1)<ss.length-i;omega,jB,jT⟩
  ·rw[decide_eq_false hn,Bool.false_and]at hg
   subst hg
   repeat'(first|apply zE|apply zD|apply zC|refine jg ?_ ?_|(apply zZ;exact rfl;exact rfl;exact rfl;exact rfl;exact⟨_,hPi _ (hv.re jN),zA.nil⟩;rintro _ _ ⟨ad3,fl3,rfl,rfl⟩)|refine jd ?_|apply zB|apply zV|apply xM|apply zL|apply zJ|apply zM|exact jS|fail)
   all_goals first|exact jX|exact jG
 ·rw[tQ (by rw[List.length_range];omega)]at hg
  subst hg;rw[if_neg (by decide)]
  repeat'(first|apply zE|apply zD|apply zC|refine jg ?_ ?_|(apply yS;exact rfl;exact rfl)|(apply yV zK;(iterate 4 exact rfl);exact up)|refine jy ?_|(apply rK;iterate 3 exact rfl)|(apply zZ;exact rfl;exact rfl;exact rfl;exact rfl;exact⟨_,hC1 _ _ _ pk (hv.re jD),zA.nil⟩;rintro _ _ ⟨rfl,rfl⟩)|(apply zZ;exact rfl;exact rfl;exact rfl;exact rfl;exact⟨_,hC2 _ _ _ pk (hw.re jD),zA.nil⟩;rintro _ _ ⟨rfl,rfl⟩)|(apply zZ;exact rfl;exact rfl;exact rfl;exact rfl;exact⟨_,hC3 _ _ _ pk (hv.re jD),zA.nil⟩;rintro _ _ ⟨rfl,rfl⟩)|(apply zZ;exact rfl;exact rfl;exact rfl;exact rfl;exact⟨_,hC4 _ _ _ pk (hw.re jD),zA.nil⟩;rintro _ _ ⟨rfl,rfl⟩)|(apply zZ;exact rfl;exact rfl;exact rfl;exact rfl;exact⟨_,hC5 _ (hw.re jD),zA.nil⟩;rintro _ _ ⟨rfl,rfl⟩)|(apply zZ;exact rfl;exact rfl;exact rfl;exact rfl;exact⟨_,hC6 _ (hv.re jD),zA.nil⟩;rintro _ _ ⟨rfl,rfl⟩)|(apply zZ;exact rfl;exact rfl;exact rfl;exact rfl;exact⟨_,hC7 _ (hw.re jD),zA.nil⟩;rintro _ _ ⟨rfl,rfl⟩)|refine jf ?_|(apply uO;exact rfl;all_goals intro hc)|apply zB|apply zV|apply zW|apply zQ|apply xM|apply zT|apply zL|apply zJ|apply zU|apply zM|exact jS|exact jL|((with_reducible apply Se.mk);first|(focus(repeat(first|exact yD.zero));done))|exact True.intro|intro A)
  all_goals first
   |contradiction
   |exact jF (k:=by exact⟨congrArg I (by subst_vars;cases y6 <;> cases y7 <;> first|rfl|exact absurd ‹(!true)=true› (by decide)|exact absurd ‹(!false)=false› (by decide)),rfl⟩)

def swp (L:List Vr)(i j:Nat):List Vr:=(L.set i L[j]!).set j L[i]!
theorem nW {L:List Vr}{i j N:Nat}(h:L.length=N):(swp L i j).length=N:=by unfold swp;rw[List.length_set,List.length_set];exact h
def lts (a b:Vr):Bool:=decide (a.2.2.1<b.2.2.1)
theorem qH {L:List Vr}{i N:Nat}{x:Vr}(h:L.length=N):(L.set i x).length=N:=by rw[List.length_set];exact h
theorem wQ {L:List Vr}{z:Int}(i:Nat)(hz:z=i)(hi:i<L.length):xF (zF vrF L) (0+z.toNat*7) (vrF L[i]!):=by subst hz;exact xO (λ_=>rfl) hi
theorem nV {L:List Vr}{z:Int}(i:Nat){x:Vr}(hz:z=i)(hi:i<L.length):rJ (zF vrF L) (0+z.toNat*7) (vrF x) (zF vrF (L.set i x)):=by subst hz;exact eU (λ_=>rfl) hi
theorem qJ {L:List Vr}{N:Nat}(h:L.length=N):(zF vrF L).length=N*7:=by rw[yK (f:=vrF) (w:=7) (λ_=>rfl),h]
theorem zHz (a b:Vr)(h:SH):zH Tryz.prog 170 [.agg ⟨vrF a⟩,.agg ⟨vrF b⟩] h λr q=>r=I (sc3 a.2.2.1 b.2.2.1)/\q=h:=by
 refine yJ Tryz.func170 rfl rfl ?_
 repeat'(first|apply zE|apply zD|apply zC|refine jg ?_ ?_|(apply jm;exact jI)|refine jx ?_|refine jq ?_ (c:=by exact⟨_,zRc a.2.2.1 b.2.2.1 _,jN⟩)|apply zB|apply zJ|exact jS|exact jL|exact jE|exact True.intro|intro A|exact rfl)
 all_goals first|exact jX|exact jG
def tD (a:Nat):Nat->List Vr->List Vr
 |0,L=>L
 |j+1,L=>if a<j+1/\lts L[j+1]! L[j]! = true then tD a j (swp L (j+1) j)else L
def iI (a:Nat):Nat->Nat->List Vr->List Vr
 |0,_,L=>L
 |k+1,i,L=>iI a k (i+1) (tD a i L)
def ins (a b:Nat)(L:List Vr):List Vr:=iI a (b-(a+1)) (a+1) L
theorem zYa {a N:Nat}:∀{j:Nat} {L:List Vr},L.length=N->(tD a j L).length=N:=by
 intro j
 induction j with
 |zero=>intro L h;exact h
 |succ j ih =>
  intro L h;unfold tD;split
  ·exact ih (nW h)
  ·exact h
theorem yHs {a N:Nat}:∀{k i:Nat} {L:List Vr},L.length=N->(iI a k i L).length=N:=by
 intro k
 induction k with
 |zero=>intro i L h;exact h
 |succ k ih=>intro i L h;exact ih (zYa h)
abbrev cmV :Value:=fnV 170
theorem yBo (N A fl a b:Nat)(L:List Vr)(h:SH)(hL:L.length=N)(hN:N<=1000)(hb:b<=N)(ha:a<=N) :
  zH Tryz.prog 286 [gsl A 0 (N*7) N fl,I a,I b,cmV] ((A,⟨zF vrF L,false⟩)::h) λr q=>r=.tuple #[]/\q=(A,⟨zF vrF (ins a b L),false⟩)::h:=by
 obtain⟨R,hR⟩:∃R,ins a b L=R:=⟨_,rfl⟩;rw[hR];refine mT Tryz.func286 rfl rfl ?_
 repeat'(first|apply zE|apply zD|apply zC|refine jg ?_ ?_|(apply ja;exact jH)|apply zB|apply zM|exact jS|exact jW|fail)
 all_goals try exact jX
 refine yH (S:=Nat × List Vr) (λx=>[(0,gsl A 0 (N*7) N fl),(1,I a),(2,I b),(3,cmV),(8,I x.1)]) (λx=>(A,⟨zF vrF x.2,false⟩)::h) (λx=>x.2.length=N/\a<x.1/\iI a (b-x.1) x.1 x.2=R) (λx=>b-x.1) (a+1,L) ⟨hL,by show a<a+1;omega,hR⟩ jB (by exact zA.nil) ?_;rintro⟨i,X⟩ ⟨hX,hai,hg⟩;dsimp only at hX hai hg ⊢;by_cases hib:i<b
 ·obtain⟨X1,hX1⟩:∃Y,tD a i X=Y:=⟨_,rfl⟩
  rw[show b-i=(b-(i+1))+1 by omega]at hg;have hg:iI a (b-(i+1)) (i+1) (tD a i X)=R:=hg;rw[hX1]at hg
  repeat'(first|apply zE|apply zD|apply zC|refine jg ?_ ?_|refine jd ?_|apply zB|apply zL|apply zM|exact jS|fail)
  all_goals try exact jX
  refine yH (S:=Nat × List Vr) (λx=>[(0,gsl A 0 (N*7) N fl),(1,I a),(2,I b),(3,cmV),(8,I i),(9,I x.1)]) (λx=>(A,⟨zF vrF x.2,false⟩)::h) (λx=>x.2.length=N/\x.1<=i/\tD a x.1 x.2=X1) (λx=>x.1) (i,X) ⟨hX,Nat.le_refl _,hX1⟩ jB (by exact zA.nil) ?_;rintro⟨j,Y⟩ ⟨hY,hji,hj⟩;dsimp only at hY hji hj ⊢;by_cases haj:a<j
  ·obtain⟨k,rfl⟩:∃k,j=k+1:=⟨j-1,by omega⟩
   have hj:(if a<k+1/\lts Y[k+1]! Y[k]! = true then tD a k (swp Y (k+1) k)else Y)=X1:=hj;have hsc:=@zFr Y[k+1]!.2.2.1 Y[k]!.2.2.1;have hO:=λh=>zHz Y[k+1]! Y[k]! h;by_cases hlt:Y[k+1]!.2.2.1<Y[k]!.2.2.1
   ·rw[if_pos ⟨haj,decide_eq_true hlt⟩]at hj
    have hs:=hsc.2 hlt
    repeat'(first|apply zE|apply zD|apply zC|refine jr ?_|refine jg ?_ ?_|(apply ja;exact jH)|(apply jl;exact jI)|(apply js;exact jJ)|(apply wP;(iterate 4 exact rfl);exact⟨_,hO _,jN⟩;exact λ_ _ h=>h.1;(focus(repeat(first|exact xV.c rfl))))|refine jw ?_|refine jh ?_|(apply tC;exact rfl;exact ‹_›)|apply zB|apply zQ|apply zL|apply zM|exact jO|((with_reducible apply Ln.mk);first|exact qJ hY|exact qJ (qH hY)|rfl)|exact jW|((with_reducible apply Pu.mk);first|exact nV (k+1) (by omega) (by first|omega|(rw[qH hY];omega))|exact nV k (by omega) (by first|omega|(rw[qH hY];omega)))|((with_reducible apply Su.mk);first|exact wQ (k+1) (by omega) (by omega)|exact wQ k (by omega) (by omega))|exact True.intro|exact Or.inl rfl|apply And.intro|exact rfl)
    all_goals first
     |exact jX
     |exact⟨(k,swp Y (k+1) k),⟨nW hY,by show k<=i;omega,hj⟩,by show k<k+1;omega,(by refine⟨rfl,rfl,rfl,rfl,rfl,congrArg some (congrArg I ?_),trivial⟩;show((k+1:Nat):Int)-1=((k:Nat):Int);omega),by exact zA.nil⟩
   ·rw[if_neg (λg=>hlt (of_decide_eq_true g.2))]at hj
    have hs:=λg=>hlt (hsc.1 g);subst hj
    repeat'(first|apply zE|apply zD|apply zC|refine jr ?_|refine jg ?_ ?_|(apply ja;exact jH)|(apply jl;exact jI)|(apply wP;(iterate 4 exact rfl);exact⟨_,hO _,jN⟩;exact λ_ _ h=>h.1;(focus(repeat(first|exact xV.c rfl))))|refine jw ?_|refine jh ?_|refine jf ?_|apply zB|apply zW|apply zQ|apply zT|apply zU|exact jO|((with_reducible apply Ln.mk);first|exact qJ hY|rfl)|exact jW|((with_reducible apply Su.mk);first|exact wQ (k+1) (by omega) (by omega)|exact wQ k (by omega) (by omega))|exact True.intro|exact rfl)
    all_goals first
     |exact jX
     |exact⟨(i+1,Y),⟨hY,by show a<i+1;omega,hg⟩,by show b-(i+1)<b-i;omega,jB,by exact zA.nil⟩
  ·have hz:tD a j Y=Y:=by
    cases j with
    |zero=>rfl
    |succ j=>exact if_neg λg=>haj g.1
   rw[hz]at hj;subst hj
   repeat'(first|apply zE|apply zD|apply zC|refine jr ?_|refine jg ?_ ?_|(apply ja;exact jH)|refine jk ?_|(apply tO;(iterate 3 exact rfl);omega;exact rfl)|(apply zX;exact rfl)|apply zB|apply zW|apply zQ|apply zT|apply zU|exact jS|exact jW|fail)
   all_goals first
    |exact jX
    |exact⟨(i+1,Y),⟨hY,by show a<i+1;omega,hg⟩,by show b-(i+1)<b-i;omega,jB,by exact zA.nil⟩
 ·rw[show b-i=0 by omega]at hg
  have hg:X=R:=hg;subst hg
  repeat'(first|apply zE|apply zD|apply zC|refine jg ?_ ?_|refine jf ?_|apply zB|apply zW|apply zT|apply zU|exact jS|fail)
  all_goals first|exact jX|(apply qQ;(exact(show zO _ _ _ _ [] from trivial));exact⟨rfl,rfl⟩;(focus repeat(first|with_reducible exact zA.nil|with_reducible apply zA.c|with_reducible apply zA.drop)))
def swr :Nat->Nat->Nat->List Vr->List Vr
 |0,_,_,L=>L
 |n+1,x,y,L=>swr n (x+1) (y+1) (swp L x y)
theorem dC {N:Nat}:∀{n x y:Nat} {L:List Vr},L.length=N->(swr n x y L).length=N:=by
 intro n
 induction n with
 |zero=>intro x y L h;exact h
 |succ n ih=>intro x y L h;exact ih (nW h)
theorem yNu (N A fl x y n:Nat)(L:List Vr)(h:SH)(hL:L.length=N)(hN:N<=1000)(hx:x+n<=N)(hy:y+n<=N) :
  zH Tryz.prog 348 [gsl A 0 (N*7) N fl,I x,I y,I n,cmV] ((A,⟨zF vrF L,false⟩)::h) λr q=>r=.tuple #[]/\q=(A,⟨zF vrF (swr n x y L),false⟩)::h:=by
 obtain⟨R,hR⟩:∃R,swr n x y L=R:=⟨_,rfl⟩;rw[hR];refine dF Tryz.func348 rfl rfl ?_
 repeat'(first|apply zE|apply zD|apply zC|refine jg ?_ ?_|apply zB|apply zM|exact jS|fail)
 all_goals try exact jX
 refine yH (S:=Nat × List Vr) (λs=>[(0,gsl A 0 (N*7) N fl),(1,I x),(2,I y),(3,I n),(4,cmV),(10,I s.1)]) (λs=>(A,⟨zF vrF s.2,false⟩)::h) (λs=>s.2.length=N/\s.1<=n/\swr (n-s.1) (x+s.1) (y+s.1) s.2=R) (λs=>n-s.1) (0,L) ⟨hL,Nat.zero_le _,hR⟩ jB (by exact zA.nil) ?_;rintro⟨i,X⟩ ⟨hX,hi,hg⟩;dsimp only at hX hi hg ⊢;by_cases hin:i<n
 ·rw[show n-i=(n-(i+1))+1 by omega]at hg
  have hg:swr (n-(i+1)) (x+(i+1)) (y+(i+1)) (swp X (x+i) (y+i))=R:=hg
  repeat'(first|apply zE|apply zD|apply zC|refine jr ?_|refine jg ?_ ?_|(apply ja;exact jH)|(apply jl;exact jI)|(apply js;exact jJ)|refine jd ?_|apply zB|apply zQ|apply zL|apply zM|exact jO|((with_reducible apply Ln.mk);first|exact qJ hX|exact qJ (qH hX)|rfl)|exact jW|((with_reducible apply Pu.mk);first|exact nV (x+i) (by omega) (by first|omega|(rw[qH hX];omega))|exact nV (y+i) (by omega) (by first|omega|(rw[qH hX];omega)))|((with_reducible apply Su.mk);first|exact wQ (y+i) (by omega) (by omega)|exact wQ (x+i) (by omega) (by omega))|exact True.intro|exact Or.inl rfl|apply And.intro|exact rfl)
  all_goals first
   |exact jX
   |exact⟨(i+1,swp X (x+i) (y+i)),⟨nW hX,by show i+1<=n;omega,hg⟩,by show n-(i+1)<n-i;omega,jB,by exact zA.nil⟩
 ·rw[show n-i=0 by omega]at hg
  have hg:X=R:=hg;subst hg
  repeat'(first|apply zE|apply zD|apply zC|refine jg ?_ ?_|refine jf ?_|apply zB|apply zW|apply zT|apply zU|exact jS|fail)
  all_goals first|exact jX|(apply qQ;(exact(show zO _ _ _ _ [] from trivial));exact⟨rfl,rfl⟩;(focus repeat(first|with_reducible exact zA.nil|with_reducible apply zA.c|with_reducible apply zA.drop)))
def uT (m:Nat):Nat->Nat->Nat->List Vr->List Vr
 |0,_,_,L=>L
 |f+1,i,j,L=>if i=j then swr i (m-i) m L else if j<i then uT m f (i-j) j (swr j (m-i) m L)else uT m f i (j-i) (swr i (m-i) (m+j-i) L)
def rot (a m b:Nat)(L:List Vr):List Vr:=uT m (b-a) (m-a) (b-m) L
theorem zWn {m N:Nat}:∀{f i j:Nat} {L:List Vr},L.length=N->(uT m f i j L).length=N:=by
 intro f
 induction f with
 |zero=>intro i j L h;exact h
 |succ f ih =>
  intro i j L h;unfold uT;split
  ·exact dC h
  ·split
   ·exact ih (dC h)
   ·exact ih (dC h)
theorem yGe (N A fl a m b:Nat)(L:List Vr)(h:SH)(hL:L.length=N)(hN:N<=1000)(ham:a<m)(hmb:m<b)(hb:b<=N) :
  zH Tryz.prog 324 [gsl A 0 (N*7) N fl,I a,I m,I b,cmV] ((A,⟨zF vrF L,false⟩)::h) λr q=>r=.tuple #[]/\q=(A,⟨zF vrF (rot a m b L),false⟩)::h:=by
 obtain⟨R,hR⟩:∃R,rot a m b L=R:=⟨_,rfl⟩;rw[hR];refine dF Tryz.func324 rfl rfl ?_
 repeat'(first|apply zE|apply zD|apply zC|refine jg ?_ ?_|(apply ja;exact jH)|apply zB|apply zM|exact jS|exact jW|fail)
 all_goals try exact jX
 refine yH (S:=Nat × Nat × Nat × List Vr) (λs=>[(0,gsl A 0 (N*7) N fl),(1,I a),(2,I m),(3,I b),(4,cmV),(10,I s.1),(11,I s.2.1)]) (λs=>(A,⟨zF vrF s.2.2.2,false⟩)::h)
  (λs=>s.2.2.2.length=N/\1<=s.1/\1<=s.2.1/\a+s.1<=m/\m+s.2.1<=b/\s.1+s.2.1<=s.2.2.1/\uT m s.2.2.1 s.1 s.2.1 s.2.2.2=R) (λs=>s.1+s.2.1) (m-a,b-m,b-a,L) ⟨hL,by show 1<=m-a;omega,by show 1<=b-m;omega,by show a+(m-a)<=m;omega,by show m+(b-m)<=b;omega,by show(m-a)+(b-m)<=b-a;omega,hR⟩ ⟨rfl,rfl,rfl,rfl,rfl,congrArg some (congrArg I (show(m:Int)-a=((m-a:Nat):Int)by omega)),congrArg some (congrArg I (show(b:Int)-m=((b-m:Nat):Int)by omega)),trivial⟩ (by exact zA.nil) ?_
 rintro⟨i,j,f,X⟩ ⟨hX,hi,hj,ham2,hmb2,hf,hg⟩;dsimp only at hX hi hj ham2 hmb2 hf hg ⊢;obtain⟨f,rfl⟩:∃k,f=k+1:=⟨f-1,by omega⟩;have hg:(if i=j then swr i (m-i) m X else if j<i then uT m f (i-j) j (swr j (m-i) m X)else uT m f i (j-i) (swr i (m-i) (m+j-i) X))=R:=hg;have eI:∀{p q:Nat},p<=q->((q:Int)-p)=((q-p:Nat):Int):=by intro p q h;omega
 have hS:∀(x y n:Nat) (zx zy zn:Int),zx=x->zy=y->zn=n->x+n<=N->y+n<=N->zH Tryz.prog 348 [gsl A 0 (N*7) N fl,I zx,I zy,I zn,cmV] ((A,⟨zF vrF X,false⟩)::h) λr q=>r=.tuple #[]/\q=(A,⟨zF vrF (swr n x y X),false⟩)::h:=by
  intro x y n zx zy zn e1 e2 e3 h1 h2;subst e1 e2 e3;exact yNu N A fl x y n X h hX hN h1 h2
 by_cases hij:i=j
 ·rw[if_pos hij]at hg
  subst hg
  repeat'(first|apply zE|apply zD|apply zC|refine jg ?_ ?_|(apply ja;exact jH)|refine jq ?_ (c:=by exact⟨_,hS (m-i) m i _ _ _ (by omega) rfl rfl (by omega) (by omega),jN⟩)|refine jf ?_|apply zB|apply zW|apply zT|apply zU|exact jS|exact jW|fail)
  all_goals first|exact jX|(apply qQ;(exact(show zO _ _ _ _ [] from trivial));exact⟨rfl,rfl⟩;(focus repeat(first|with_reducible exact zA.nil|with_reducible apply zA.c|with_reducible apply zA.drop)))
 ·rw[if_neg hij]at hg
  by_cases hji:j<i
  ·rw[if_pos hji]at hg
   repeat'(first|apply zE|apply zD|apply zC|refine jg ?_ ?_|(apply ja;exact jH)|refine jq ?_ (c:=by exact⟨_,hS (m-i) m j _ _ _ (by omega) rfl rfl (by omega) (by omega),jN⟩)|refine jd ?_|apply zB|apply zQ|apply zL|apply zM|exact jS|exact jW|fail)
   all_goals first
    |exact jX
    |exact⟨(i-j,j,f,swr j (m-i) m X),⟨dC hX,by show 1<=i-j;omega,hj,by show a+(i-j)<=m;omega,hmb2,by show i-j+j<=f;omega,hg⟩,by show i-j+j<i+j;omega,⟨rfl,rfl,rfl,rfl,rfl,congrArg some (congrArg I (show(i:Int)-j=((i-j:Nat):Int)by omega)),rfl,trivial⟩,by exact zA.nil⟩
  ·rw[if_neg hji]at hg
   repeat'(first|apply zE|apply zD|apply zC|refine jg ?_ ?_|(apply ja;exact jH)|refine jq ?_ (c:=by exact⟨_,hS (m-i) (m+j-i) i _ _ _ (by omega) (by omega) rfl (by omega) (by omega),jN⟩)|refine jd ?_|refine jf ?_|apply zB|apply zQ|apply zL|apply zM|exact jS|exact jW|fail)
   all_goals first
    |exact jX
    |exact⟨(i,j-i,f,swr i (m-i) (m+j-i) X),⟨dC hX,hi,by show 1<=j-i;omega,ham2,by show m+(j-i)<=b;omega,by show i+(j-i)<=f;omega,hg⟩,by show i+(j-i)<i+j;omega,⟨rfl,rfl,rfl,rfl,rfl,rfl,congrArg some (congrArg I (show(j:Int)-i=((j-i:Nat):Int)by omega)),trivial⟩,by exact zA.nil⟩

def ivl (M:List (Int × Int)):List (Int × Value):=M.map λe=>(e.1,I e.2)
def sD :List (Int × Int)->Int->Option Int
 |[],_=>none
 |e::r,a=>if e.1=a then some e.2 else sD r a
def qC :List (Int × Int)->Int->Int->List (Int × Int)
 |[],a,x=>[(a,x)]
 |e::r,a,x=>if e.1=a then(a,x)::r else e::qC r a x
def sR (M:List (Int × Int))(a:Int):Int:=(sD M a).getD 0
theorem zDr {M:List (Int × Int)}{a:Int}:wM (ivl M) a=(sD M a).map λn=>I n:=by
 induction M with
 |nil=>rfl
 |cons e r ih =>
  show(if e.1=a then some (I e.2)else wM (ivl r) a)=(if e.1=a then some e.2 else sD r a).map _;rw[ih];split <;> rfl
theorem eX {M:List (Int × Int)}{a x:Int}:vK (ivl M) a (I x)=ivl (qC M a x):=by
 induction M with
 |nil=>rfl
 |cons e r ih =>
  show(if e.1=a then(a,I x)::ivl r else(e.1,I e.2)::vK (ivl r) a (I x))=ivl (if e.1=a then(a,x)::r else e::qC r a x);rw[ih];split <;> rfl
theorem zNj {M:List (Int × Int)}{a:Int}:(wM (ivl M) a).getD (I 0)=I (sR M a):=by
 rw[zDr];unfold sR;cases sD M a <;> rfl
abbrev iF (n:Int):List Value:=[I n]
abbrev kI (n:Int):Value:=I n
def sA (x:Vr)(n:Int):Vr:=(x.1,x.2.1,x.2.2.1,n,x.2.2.2.2)
def sB :Nat->Nat->List (Int × Int)->List Int->List Vr->List Int × List Vr
 |0,_,_,F,X=>(F,X)
 |k+1,i,M,F,X=>match sD M X[i]!.2.2.2.1 with
  |some n=>sB k (i+1) M F (X.set i (sA X[i]! n))
  |none=>sB k (i+1) (qC M X[i]!.2.2.2.1 F.length) (F++[X[i]!.2.2.2.1]) (X.set i (sA X[i]! F.length))
def sT (L:List Vr):List Int × List Vr:=sB L.length 0 [] [] L
theorem yMt {N:Nat}:∀{k i:Nat} {M:List (Int × Int)} {F:List Int} {X:List Vr},X.length=N->(sB k i M F X).2.length=N/\(sB k i M F X).1.length<=F.length+k:=by
 intro k
 induction k with
 |zero=>intro i M F X h;exact⟨h,Nat.le_refl _⟩
 |succ k ih =>
  intro i M F X h;unfold sB;split
  ·have:=ih (i:=i+1) (M:=M) (F:=F) (qH (i:=i) (x:=sA X[i]! (by assumption)) h)
   exact⟨this.1,by omega⟩
  ·have:=ih (i:=i+1) (M:=qC M X[i]!.2.2.2.1 F.length) (F:=F++[X[i]!.2.2.2.1]) (qH (i:=i) (x:=sA X[i]! F.length) h)
   rw[List.length_append]at this;exact⟨this.1,by have:=this.2;simp only[List.length_singleton]at this;omega⟩
theorem yLq {L:List Vr}:(sT L).2.length=L.length/\(sT L).1.length<=L.length:=by
 have:=yMt (k:=L.length) (i:=0) (M:=[]) (F:=[]) (X:=L) rfl;exact⟨this.1,by have:=this.2;rw[List.length_nil,Nat.zero_add]at this;exact this⟩
theorem yCk {X:List Vr}{N i:Nat}{n:Int}(h:X.length=N)(hi:i<N):yD (zF vrF X) (0+((i:Int)).toNat*7+3) (I n) (zF vrF (X.set i (sA X[i]! n))) :=
 oH (w:=7) (λ_=>rfl) (by omega) (by decide) rfl
theorem yPk (N Ab fl:Nat)(L:List Vr)(h:SH)(hL:L.length=N)(hN:N<=1000) :
  zH Tryz.prog 171 [gsl Ab 0 (N*7) N fl] ((Ab,⟨zF vrF L,false⟩)::h) λr q=>GrR iF 1 ((Ab,⟨zF vrF (sT L).2,false⟩)::h) (sT L).1 r q:=by
 obtain⟨R,hR⟩:∃R,sT L=R:=⟨_,rfl⟩;rw[hR];unfold sT at hR;rw[hL]at hR;refine yG Tryz.func171 rfl rfl ?_
 repeat'(first|apply zE|apply zD|apply zC|refine jg ?_ ?_|(apply eN;exact rfl)|apply zB|apply zM|exact jS|intro A)
 all_goals try exact jX
 obtain⟨m,rfl⟩:∃m,m=A:=⟨_,rfl⟩;refine yH (S:=Nat × List (Int × Int) × List Int × List Vr × Value × SH) (λs=>[(0,gsl Ab 0 (N*7) N fl),(3,s.2.2.2.2.1),(4,.map (some m)),(10,I N),(11,I s.1)]) (λs=>(m,⟨xK kI (ivl s.2.1),false⟩)::s.2.2.2.2.2)
  (λs=>s.1<=N/\s.2.2.1.length<=s.1/\s.2.2.2.1.length=N/\GrR iF 1 ((Ab,⟨zF vrF s.2.2.2.1,false⟩)::h) s.2.2.1 s.2.2.2.2.1 s.2.2.2.2.2/\sB (N-s.1) s.1 s.2.1 s.2.2.1 s.2.2.2.1=R) (λs=>N-s.1) (0,[],[],L,.slice none 0 0,(Ab,⟨zF vrF L,false⟩)::h) ⟨Nat.zero_le _,Nat.zero_le _,hL,.nil,hR⟩ jB (by repeat(first|with_reducible exact zA.nil|with_reducible apply zA.c|((with_reducible apply zA.cE);first|exact rfl|(apply pL;(focus first|exact rfl|exact uZ rfl|exact pI rfl|exact congrArg (λv=>[v]) (vR rfl rfl (by first|rfl|exact ‹_›|omega|(simp ;first|done|omega)) (by first|rfl|exact ‹_›|omega|(simp ;first|done|omega)) rfl))))|with_reducible apply zA.drop|with_reducible apply zA.pre|with_reducible apply zA.drops)) ?_
 rintro⟨i,M,F,X,u,q⟩ ⟨hi,hFl,hX,hG,hg⟩;dsimp only at hi hFl hX hG hg ⊢;by_cases hin:i<N
 ·rw[show N-i=(N-(i+1))+1 by omega]at hg
  unfold sB at hg;have hlb:=qJ hX;have hob:=yK (f:=iF) (w:=1) (λ_=>rfl) F;have hset:=λn=>yCk (n:=n) hX hin;have hcl:(zF vrF X)[0+((i:Int)).toNat*7+3]?=some (I X[i]!.2.2.2.1):=vL (λ_=>rfl) (by omega) (by decide) rfl;cases hf:sD M X[i]!.2.2.2.1 with
  |some n =>
   rw[hf]at hg;have hlk:(wM (ivl M) X[i]!.2.2.2.1).getD (I 0)=I n/\(wM (ivl M) X[i]!.2.2.2.1).isSome=true:=by rw[zDr,hf];exact⟨rfl,rfl⟩
   cases hG with
   |nil =>
    repeat'(first|apply zE|apply zD|apply zC|refine jg ?_ ?_|(apply ja;exact jH)|(apply yS;exact rfl;exact rfl)|(apply jm;exact jI)|(apply yV zK;(iterate 4 exact rfl);exact up)|(apply cR (α:=Int) zK;exact rfl;exact pk;exact rfl;exact Tryz.underlying97;exact Tryz.underlying3;exact sI;exact rfl;exact rfl;(focus first|exact hlk))|(apply zX;exact rfl)|refine jd ?_|apply zB|apply zQ|apply zL|apply zM|exact jO|((with_reducible apply Ln.mk);first|omega)|exact jW|((with_reducible apply Ce.mk);first|exact hcl)|((with_reducible apply Se.mk);first|exact hset _)|exact True.intro|exact rfl)
    all_goals first
     |exact jX
     |exact⟨(i+1,M,[],X.set i (sA X[i]! n),.slice none 0 0,_),⟨hin,Nat.zero_le _,qH hX,.nil,hg⟩,by show N-(i+1)<N-i;omega,jB,jT⟩
   |some A1 _ hF0 =>
    repeat'(first|apply zE|apply zD|apply zC|refine jg ?_ ?_|(apply ja;exact jH)|(apply yS;exact rfl;exact rfl)|(apply jm;exact jI)|(apply yV zK;(iterate 4 exact rfl);exact up)|(apply cR (α:=Int) zK;exact rfl;exact pk;exact rfl;exact Tryz.underlying97;exact Tryz.underlying3;exact sI;exact rfl;exact rfl;(focus first|exact hlk))|(apply zX;exact rfl)|refine jd ?_|apply zB|apply zQ|apply zL|apply zM|exact jO|((with_reducible apply Ln.mk);first|omega)|exact jW|((with_reducible apply Ce.mk);first|exact hcl)|((with_reducible apply Se.mk);first|exact hset _)|exact True.intro|exact rfl)
    all_goals first
     |exact jX
     |exact⟨(i+1,M,F,X.set i (sA X[i]! n),gsl A1 0 (F.length*1) F.length 1,_),⟨hin,by show F.length<=i+1;omega,qH hX,.some A1 F hF0,hg⟩,by show N-(i+1)<N-i;omega,jB,jT⟩
  |none =>
   rw[hf]at hg;have hlk:(wM (ivl M) X[i]!.2.2.2.1).getD (I 0)=I 0/\(wM (ivl M) X[i]!.2.2.2.1).isSome=false:=by rw[zDr,hf];exact⟨rfl,rfl⟩
   cases hG with
   |nil =>
    repeat'(first|apply zE|apply zD|apply zC|refine jg ?_ ?_|(apply ja;exact jH)|(apply yS;exact rfl;exact rfl)|(apply jm;exact jI)|(apply yV zK;(iterate 4 exact rfl);exact up)|refine jb ?_|(apply qD zK;(iterate 5 exact rfl);exact⟨by decide⟩;exact pk)|(apply aE (α:=Int);exact rfl;exact up;exact rfl;exact rfl;exact Tryz.underlying97;exact Tryz.underlying3;exact sI)|(apply cR (α:=Int) zK;exact rfl;exact pk;exact rfl;exact Tryz.underlying97;exact Tryz.underlying3;exact sI;exact rfl;exact rfl;(focus first|exact hlk))|(apply yO;exact rfl)|refine jd ?_|apply zB|apply zQ|apply zL|apply zM|exact jV|((with_reducible apply Ln.mk);first|rfl|omega)|exact jW|((with_reducible apply Ce.mk);first|exact hcl)|((with_reducible apply Se.mk);first|exact hset _)|exact jU|exact True.intro|intro A|exact rfl)
    all_goals try exact jX
    refine⟨(i+1,qC M X[i]!.2.2.2.1 0,[X[i]!.2.2.2.1],X.set i (sA X[i]! 0),gsl A 0 (1*1) 1 1,(A,⟨iF X[i]!.2.2.2.1,false⟩)::(Ab,⟨zF vrF (X.set i (sA X[i]! 0)),false⟩)::h),⟨hin,by show 1<=i+1;omega,qH hX,.ofc (f:=iF) (l:=[X[i]!.2.2.2.1]) (n:=1) (k:=1*1) tW.symm rfl rfl,hg⟩,by show N-(i+1)<N-i;omega,jB,?_⟩;rw[<-eX];exact jT
   |some A1 _ hF0 =>
    repeat'(first|apply zE|apply zD|apply zC|refine jg ?_ ?_|(apply ja;exact jH)|(apply yS;exact rfl;exact rfl)|(apply jm;exact jI)|(apply yV zK;(iterate 4 exact rfl);exact up)|refine jb ?_|(apply qK zK;(iterate 5 exact rfl);exact⟨by decide⟩;exact up;exact pk)|(apply aE (α:=Int);exact rfl;exact up;exact rfl;exact rfl;exact Tryz.underlying97;exact Tryz.underlying3;exact sI)|(apply cR (α:=Int) zK;exact rfl;exact pk;exact rfl;exact Tryz.underlying97;exact Tryz.underlying3;exact sI;exact rfl;exact rfl;(focus first|exact hlk))|(apply yO;exact rfl)|refine jd ?_|apply zB|apply zQ|apply zL|apply zM|exact jV|((with_reducible apply Ln.mk);first|rfl|omega)|exact jW|((with_reducible apply Ce.mk);first|exact hcl)|((with_reducible apply Se.mk);first|exact hset _)|exact jU|exact True.intro|intro A|exact rfl)
    all_goals try exact jX
    refine⟨(i+1,qC M X[i]!.2.2.2.1 F.length,F++[X[i]!.2.2.2.1],X.set i (sA X[i]! F.length),gsl A1 0 (F.length*1+1*1) (F.length+1) 1,(A1,⟨zF iF F++iF X[i]!.2.2.2.1,false⟩)::(Ab,⟨zF vrF (X.set i (sA X[i]! F.length)),false⟩)::h),⟨hin,by show(F++[X[i]!.2.2.2.1]).length<=i+1;rw[List.length_append];show F.length+1<=i+1;omega,qH hX,.ofc (f:=iF) (l:=F++[X[i]!.2.2.2.1]) (n:=F.length+1) (k:=F.length*1+1*1) rO.symm (by simp) (by omega),hg⟩,by show N-(i+1)<N-i;omega,jB,?_⟩;rw[<-eX];exact jT
 ·rw[show N-i=0 by omega]at hg
  have hg:(F,X)=R:=hg;subst hg;obtain⟨ad2,fl2,rfl⟩:=hG.sl
  repeat'(first|apply zE|apply zD|apply zC|refine jg ?_ ?_|refine jf ?_|apply zB|apply zW|apply zT|apply zJ|apply zU|exact jS|fail)
  all_goals first|exact jX|exact jF (k:=by exact hG)
theorem zVv (ad:Option Addr)(fl:Nat)(h:SH):zH Tryz.prog 171 [.slice ad 0 fl] h λr q=>r=.slice none 0 0/\q=h:=by
 refine yG Tryz.func171 rfl rfl ?_
 repeat'(first|apply zE|apply zD|apply zC|refine jg ?_ ?_|(apply eN;exact rfl)|apply zB|apply zM|exact jS|intro A)
 all_goals try exact jX
 obtain⟨m,rfl⟩:∃m,m=A:=⟨_,rfl⟩;refine yH (S:=Unit) (λ_=>[(0,.slice ad 0 fl),(3,.slice none 0 0),(4,.map (some m)),(10,I 0),(11,I 0)]) (λ_=>(m,⟨[],false⟩)::h) (λ_=>True) (λ_=>0) () trivial jB jT ?_;rintro - -
 repeat'(first|apply zE|apply zD|apply zC|refine jg ?_ ?_|(apply zX;exact rfl)|apply zB|apply zW|apply zT|apply zJ|apply zU|exact jS|fail)
 all_goals first|exact jX|exact jG
theorem yCz (N A:Nat)(fl:Nat)(ro:Mk)(L:List Vr)(h h1:SH)(hp:Pick h A ⟨zF vrF L,ro⟩ h1)(hL:L.length=N)(hN:0<N)(hN2:N<=1000) :
  zH Tryz.prog 168 [gsl A 0 (7*N) N fl] h λr q=>∃B,r=gsl B 0 (N*7) N 7/\q=(B,⟨zF vrF L,false⟩)::h:=by
 have hlb:(zF vrF L).length=N*7:=qJ hL;refine yG Tryz.func168 rfl rfl ?_
 repeat'(first|apply zE|apply zD|apply zC|(apply cU zK;iterate 4 exact rfl)|refine jg ?_ ?_|(apply xT zK;(iterate 5 exact rfl);decide;exact rfl;decide;(focus repeat(first|exact xE.nil));exact rfl)|(apply qK zK;(iterate 5 exact rfl);exact⟨by decide⟩;exact up;exact pk)|(apply zX;exact rfl)|apply zB|apply zL|apply zJ|((with_reducible apply Sd.mk);first|exact True.intro|(constructor <;> first|omega|(unfold maxLen;omega)))|((with_reducible apply Ln.mk);first|rfl|omega|(simp[hlb];first|done|omega))|exact jU|exact zDb (λ_=>rfl)|exact True.intro|intro A|exact rfl)
 all_goals first|exact jX|exact jF (k:=by exact⟨A,vR rfl rfl (by omega) (by omega) rfl,rfl⟩)
theorem yBv (fl:Nat)(h:SH) :
  zH Tryz.prog 168 [.slice none 0 fl] h λr q=>r=.slice none 0 0/\q=h:=by
 refine yG Tryz.func168 rfl rfl ?_
 repeat'(first|apply zE|apply zD|apply zC|(apply cU zK;iterate 4 exact rfl)|refine jg ?_ ?_|(apply yO;exact rfl)|apply zB|apply zV|apply zJ|exact jS|fail)
 all_goals first|exact jX|exact jG
theorem yAd (x:Addr)(fl:Nat)(h:SH) :
  zH Tryz.prog 168 [.slice (some x) 0 fl] h λr q=>∃B,r=gsl B 0 (0*7) 0 7/\q=(B,⟨[],false⟩)::h:=by
 refine yG Tryz.func168 rfl rfl ?_
 repeat'(first|apply zE|apply zD|apply zC|(apply cU zK;iterate 4 exact rfl)|refine jg ?_ ?_|(apply xT zK;(iterate 5 exact rfl);decide;exact rfl;decide;(focus repeat(first|exact xE.nil));exact rfl)|(apply zFw zK;(iterate 4 exact rfl);exact pk)|(apply zX;exact rfl)|apply zB|apply zL|apply zJ|exact jS|exact jL|exact True.intro|intro A|exact rfl)
 all_goals first|exact jX|exact jF (k:=by exact⟨_,rfl,rfl⟩)
end Go.Proofs.YtbidadebolllkaaGreatDoor
end
section
set_option maxRecDepth 4000
namespace Go.Gh
open Go.RowKit
section
variable {P:Program} {tt:TT} {sz:Nat} {ops:Array Oper} {Q:wA} {rest:List Oper} {a:AF} {h h' h1 h2:SH} {m:Mode} {t:Nat} {op:Op} {ty:TypeId} {pos:String} {aft:Array Edge} {p:Prop} {v:Value} {α:Type}
theorem yEc [DecidableEq α]{T:Nat}{x y:Operand}{A K E s b:Nat}{tk:TK}{d:TypeDesc}{kf:α->Value}{l:List (α × Value)}{ro:Mk}{z:Value}{c:α}(ht:tt.Ok P)(hx:ev a x=some (.map (some A)))(hp:Pick h A ⟨xK kf l,ro⟩ h1)(hk:ev a y=some (kf c))
  (hT:P.underlying T=some (.map K E)) (hK:P.underlying K=some d) (KF:qF d kf) (hE:tt.get E=some ⟨tk,s,b,some z⟩) (hz:yB z=true) (hr:(wM l c).getD z=v) (hN:Nat.blt t sz=true)
  (hok:m.rdOk ops λh'=>∃h1,Pick h' A ⟨xK kf l,ro⟩ h1)
  (k:GO (m.rd λh'=>∃h1,Pick h' A ⟨xK kf l,ro⟩ h1) P sz ops Q rest ((t,v)::a) h):GO m P sz ops Q (⟨some t,.lookup T x y false,ty,pos,aft,none⟩::rest) a h:=by
 obtain⟨_,hI,hz'⟩:=xQ (TT.get_ok ht hE);subst hr;exact tZ (λh'=>∃h1,Pick h' A ⟨xK kf l,ro⟩ h1) ⟨_,hp⟩ (λ_ _ _ _ _ i ⟨_,hp⟩ hag=>zMk T x y rfl ((hag.ev (by simp[Op.operands,Call.operands])).trans hx) ((hag.ev (by simp[Op.operands,Call.operands])).trans hk) (i.look hp) hT hK KF (hz' _ rfl▸hI) hz) hN hok k
end
end Go.Gh
namespace Go.Proofs.YtbidadebolllkaaGreatDoor
open Go.Gh Go.RowKit

abbrev POS :=List Scp × List (Int × Int)
def rnd (ss:List Scp)(i:Nat)(st:POS):POS:=(st.1++[(ss[i]!.1,ss[i]!.2.1,sR (qC st.2 i st.1.length) ss[i]!.2.2)],qC st.2 i st.1.length)
def wlk (ss:List Scp):Nat->Int->Nat->POS->POS
 |0,_,_,st=>st
 |d+1,p,i,st=>wlk ss d p (i+1) (if ss[i]!.2.2=p then wlk ss d i (i+1) (rnd ss i st)else st)
theorem yOm (ss:List Scp):∀(d:Nat) (p:Int) (i:Nat) (st:POS),(wlk ss d p i st).1.length+1<=st.1.length+2^d:=by
 intro d
 induction d with
 |zero=>intro p i st;exact Nat.le_refl _
 |succ d ih =>
  intro p i st;unfold wlk;rw[Nat.pow_succ];by_cases h:ss[i]!.2.2=p
  ·rw[if_pos h]
   have h1:=ih p (i+1) (wlk ss d i (i+1) (rnd ss i st));have h2:=ih i (i+1) (rnd ss i st);have h3:(rnd ss i st).1.length=st.1.length+1:=by unfold rnd;rw[List.length_append];rfl
   omega
  ·rw[if_neg h]
   have h1:=ih p (i+1) st;omega
theorem yAf {ss:List Scp}{d:Nat}{p:Int}{i:Nat}{st:POS}(h:ss[i]!.2.2≠p):wlk ss (d+1) p i st=wlk ss d p (i+1) st:=by
 show wlk ss d p (i+1) (if _ then _ else _)=_;rw[if_neg h]
theorem yAx {ss:List Scp}{d:Nat}{i:Nat}{st:POS}:wlk ss (d+1) ss[i]!.2.2 i st=wlk ss d ss[i]!.2.2 (i+1) (wlk ss d i (i+1) (rnd ss i st)):=by
 show wlk ss d _ (i+1) (if _ then _ else _)=_;rw[if_pos rfl]
def orG (b2 b9 b10 mp n fl:Nat)(ad:Option Addr)(M:List (Int × Int))(u:Value)(q:SH):SH:=(b9,⟨[u],false⟩)::(b10,⟨[.map (some mp)],false⟩)::(mp,⟨xK kI (ivl M),false⟩)::(b2,⟨[.slice ad n fl],false⟩)::q
abbrev orB (b2 b9 b10:Nat):AF:=[(2,zG b2 0 1),(9,zG b9 0 1),(10,zG b10 0 1)]
abbrev orL (k b2 b9 b10:Nat):Blk:=⟨yX k 102 (.int .i64 0) (orB b2 b9 b10),false⟩
theorem yPd :∃ac bd,vO 102=(#[26],ac,bd,70)/\∀(ss:List Scp) (b2 b9 b10 mp A fl:Nat) (ad:Option Addr) (i:Nat) (st:POS) (u:Value) (q h:SH),i<ss.length->ss.length<=1000->st.1.length<=8589934592->Has h (zF scF ss) 3 ss.length (.slice ad ss.length fl)->GrR scF 3 h st.1 u q ->
  SWp Tryz.prog 70 ac (λe a1 h1=>e=.normal/\∃g1,zA h1 ((A,orL 0 b2 b9 b10)::g1) /\
   SWp Tryz.prog 70 bd (λe2 _ h2=>e2=.normal/\∃g2,zA h2 ((A,orL 1 b2 b9 b10)::g2)/\∃u' q',g2=orG b2 b9 b10 mp ss.length fl ad (rnd ss i st).2 u' q'/\GrR scF 3 h (rnd ss i st).1 u' q') a1
    ((A,orL 1 b2 b9 b10)::g1))
   [(26,I i),(2,zG b2 0 1),(9,zG b9 0 1),(10,zG b10 0 1)] ((A,orL 0 b2 b9 b10)::orG b2 b9 b10 mp ss.length fl ad st.2 u q):=by
 refine⟨_,_,aI Tryz.func102 rfl rfl,?_⟩;intro ss b2 b9 b10 mp A fl ad i st u q h hil hl hO hv hG;obtain⟨_,_,e,hh⟩:=hv;cases e;obtain⟨A',ro,g1,rfl,hp⟩:=hh (by omega);have hlb:=yK (f:=scF) (w:=3) (λ_=>rfl) ss;obtain⟨O,M⟩:=st;unfold rnd orG;dsimp only at hO hG ⊢;rw[<-eX];have hlk:(wM (vK (ivl M) i (I O.length)) ss[i]!.2.2).getD (I 0)=I (sR (qC M i O.length) ss[i]!.2.2):=by rw[eX];exact zNj
 repeat'(first|apply zD|apply zC|refine jg ?_ ?_|exact jS|apply And.intro|exact rfl)
 refine⟨_,zA.nil,?_⟩;cases hG with
 |nil =>
  repeat'(first|apply zE|apply zD|apply zC|refine jg ?_ ?_|(apply jm;exact jI)|(apply jl;exact jI)|(apply yV zK;(iterate 4 exact rfl);exact up)|(apply js;exact jJ)|refine jy ?_|(apply xT zK;(iterate 5 exact rfl);decide;exact rfl;decide;(focus repeat(first|exact xE.last rfl));exact rfl)|(apply qD zK;(iterate 5 exact rfl);exact⟨by decide⟩;exact pk)|(apply zSy (α:=Int) zK;exact rfl;exact pk;exact rfl;exact Tryz.underlying97;exact Tryz.underlying3;exact sI;exact rfl;exact rfl;(focus first|exact hlk))|(apply aE (α:=Int);exact rfl;exact up;exact rfl;exact rfl;exact Tryz.underlying97;exact Tryz.underlying3;exact sI)|apply zB|apply zQ|apply zM|exact jV|((with_reducible apply Ln.mk);first|rfl|(simp[hlb];first|done|omega))|exact jE|exact jZ|exact jP|((with_reducible apply Su.mk);first|exact xY|exact xO (λ_=>rfl) (by omega))|exact True.intro|apply And.intro|intro A|exact rfl)
  exact⟨_,jT,gsl A 0 (1*3) 1 3,_,rfl,GrR.ofc (f:=scF) (A:=A) (l:=[(ss[i]!.1,ss[i]!.2.1,sR (qC M i ([]:List Scp).length) ss[i]!.2.2)]) (c:=scF (ss[i]!.1,ss[i]!.2.1,sR (qC M i ([]:List Scp).length) ss[i]!.2.2)) (n:=1) (k:=1*3) tW.symm rfl rfl⟩
 |some A3 _ hO0 =>
  have hob:=yK (f:=scF) (w:=3) (λ_=>rfl) O
  repeat'(first|apply zE|apply zD|apply zC|refine jg ?_ ?_|(apply jm;exact jI)|(apply jl;exact jI)|(apply yV zK;(iterate 4 exact rfl);exact up)|(apply js;exact jJ)|refine jy ?_|(apply xT zK;(iterate 5 exact rfl);decide;exact rfl;decide;(focus repeat(first|exact xE.last rfl));exact rfl)|(apply qK zK;(iterate 5 exact rfl);exact⟨by decide⟩;exact up;exact pk)|(apply zSy (α:=Int) zK;exact rfl;exact pk;exact rfl;exact Tryz.underlying97;exact Tryz.underlying3;exact sI;exact rfl;exact rfl;(focus first|exact hlk))|(apply aE (α:=Int);exact rfl;exact up;exact rfl;exact rfl;exact Tryz.underlying97;exact Tryz.underlying3;exact sI)|apply zB|apply zQ|apply zM|exact jV|((with_reducible apply Ln.mk);first|rfl|omega|(simp[hlb,hob];first|done|omega))|exact jE|exact jZ|exact jP|((with_reducible apply Su.mk);first|exact xY|exact xO (λ_=>rfl) (by omega))|exact True.intro|apply And.intro|intro A|exact rfl)
  exact⟨_,jT,gsl A3 0 (O.length*3+1*3) (O.length+1) 3,_,rfl,GrR.ofc (f:=scF) (A:=A3) (l:=O++[(ss[i]!.1,ss[i]!.2.1,sR (qC M i O.length) ss[i]!.2.2)]) (c:=zF scF O++scF (ss[i]!.1,ss[i]!.2.1,sR (qC M i O.length) ss[i]!.2.2)) (n:=O.length+1) (k:=O.length*3+1*3) rO.symm (by simp) (by omega)⟩
theorem GrR.tk {α:Type}{f:α->List Value}{w:Nat}{h q:SH}{l:List α}{v:Value}(g:GrR f w h l v q):zA q h:=g.has.2
theorem yJc (ss:List Scp)(A b2 b9 b10 mp fl:Nat)(ad:Option Addr)(h:SH)(hv:Has h (zF scF ss) 3 ss.length (.slice ad ss.length fl))(hl:ss.length<=1000)(hd:gJ ss) :
  ∀(d:Nat) (p:Int) (i0:Nat) (st:POS) (u:Value) (q:SH),(i0:Int)=p+1->i0+d=ss.length->st.1.length+2^d<=8589934592->GrR scF 3 h st.1 u q ->
  zH Tryz.prog 225 [.slice ad ss.length fl,I p,.chan (some A)] ((A,orL 0 b2 b9 b10)::orG b2 b9 b10 mp ss.length fl ad st.2 u q) λr q2=>r=B true/\∃u' q',q2=(A,orL 0 b2 b9 b10)::orG b2 b9 b10 mp ss.length fl ad (wlk ss d p i0 st).2 u' q'/\GrR scF 3 h (wlk ss d p i0 st).1 u' q':=by
 obtain⟨ac,bd,hLT,hround⟩:=yPd;have hlb:=yK (f:=scF) (w:=3) (λ_=>rfl) ss;intro d
 induction d using Nat.strongRecOn with
 |ind d ih =>
 intro p i0 st u q hp0 hd0 hB hG;obtain⟨R,hR⟩:∃R,wlk ss d p i0 st=R:=⟨_,rfl⟩;rw[hR];refine wF Tryz.func225 rfl rfl ?_
 repeat'(first|apply zE|apply zD|apply zC|refine jg ?_ ?_|(apply uQ;iterate 3 exact rfl)|apply zB|apply zM|exact jS|fail)
 all_goals try exact jX
 refine yH (S:=Nat × POS × Value × SH) (λs=>[(0,.slice ad ss.length fl),(1,I p),(2,.chan (some A)),(7,I s.1)]) (λs=>(A,orL 0 b2 b9 b10)::orG b2 b9 b10 mp ss.length fl ad s.2.1.2 s.2.2.1 s.2.2.2)
  (λs=>p<=s.1/\s.1<=ss.length/\(i0<=s.1\/s.1+1=i0)/\s.2.1.1.length+2^(ss.length-max s.1 i0)<=8589934592/\GrR scF 3 h s.2.1.1 s.2.2.1 s.2.2.2/\wlk ss (ss.length-max s.1 i0) p (max s.1 i0) s.2.1=R) (λs=>ss.length-s.1)
  ((max p 0).toNat,st,u,q) ⟨by show p<=(((max p 0).toNat:Nat):Int);omega,by show(max p 0).toNat<=_;omega,by show i0<=(max p 0).toNat\/(max p 0).toNat+1=i0;omega,by
   show st.1.length+2^(ss.length-max (max p 0).toNat i0)<=_;rw[show ss.length-max (max p 0).toNat i0=d by omega];exact hB,hG,by
   show wlk ss (ss.length-max (max p 0).toNat i0) p (max (max p 0).toNat i0) st=R;rw[show ss.length-max (max p 0).toNat i0=d by omega,show max (max p 0).toNat i0=i0 by omega];exact hR⟩ (by refine⟨rfl,rfl,rfl,congrArg some (congrArg I ?_),trivial⟩;show max p 0=(((max p 0).toNat:Nat):Int);omega) (by exact zA.nil) ?_
 rintro⟨i,⟨O,M⟩,u1,q1⟩ ⟨k1,k2,k3,k4,k5,k6⟩;dsimp only at k1 k2 k3 k4 k5 k6 ⊢;by_cases hil:i<ss.length
 ·obtain⟨_,_,e,hh⟩:=id hv
  cases e;obtain⟨A',ro,g1,rfl,hp⟩:=hh (by omega);obtain⟨d1,d2⟩:=hd i hil;obtain⟨h9,hp9,_⟩:=k5.tk.pick hp;by_cases hpar:ss[i]!.2.2=p
  ·have hii:i0<=i:=by omega
   obtain⟨D,hD⟩:∃D,ss.length-i=D+1:=⟨ss.length-i-1,by omega⟩;rw[show max i i0=i by omega,hD]at k4 k6;rw[Nat.pow_succ]at k4;have h1D:1<=2^D:=Nat.one_le_two_pow;subst hpar;rw[yAx]at k6;have hr:=hround ss b2 b9 b10 mp A fl _ i (O,M) u1 q1 h hil hl (by show O.length<=_;omega) hv k5;have hrl:(rnd ss i (O,M)).1.length=O.length+1:=by unfold rnd;rw[List.length_append];rfl
   have hrec:=λu q hG=>ih D (by omega) i (i+1) (rnd ss i (O,M)) u q (by omega) (by omega) (by rw[hrl];omega) hG;have hwl:=yOm ss D i (i+1) (rnd ss i (O,M));rw[hrl]at hwl;generalize rnd ss i (O,M)=st1 at *;generalize wlk ss D i (i+1) st1=st2 at *;unfold orG at *
   repeat'(first|apply zE|apply zD|apply zC|(apply zLt;(iterate 3 exact rfl);exact hLT;exact rfl;decide;exact hr;rintro g2 ⟨u2,q2,rfl,hG2⟩;obtain⟨h8,hp8,_⟩:=(GrR.tk hG2).pick hp)|refine jg ?_ ?_|(apply ja;exact jH)|(apply yS;exact rfl;exact rfl)|(apply jm;exact jI)|(refine jc ?_ (c:=by exact⟨_,hrec _ _ hG2,jC⟩);rintro _ _ ⟨rfl,u3,q3,rfl,hG3⟩)|refine jw ?_|(apply zDy;(iterate 3 exact rfl);(focus first|with_reducible exact rfl))|(apply zX;exact rfl)|refine jd ?_|apply zB|apply zQ|apply zL|apply zM|exact jO|((with_reducible apply Ln.mk);first|(simp[hlb];first|done|omega))|exact jW|((with_reducible apply Ce.mk);first|exact vL (λ_=>rfl) (by omega) (by decide) rfl)|exact True.intro|exact rfl)
   all_goals try exact jX
   refine⟨(i+1,st2,u3,q3),⟨by show ss[i]!.2.2<=((i+1:Nat):Int);omega,hil,by show i0<=i+1\/i+1+1=i0;omega,?_,hG3,?_⟩,by show ss.length-(i+1)<ss.length-i;omega,jB,by exact zA.nil⟩
   ·show st2.1.length+2^(ss.length-max (i+1) i0)<=_
    rw[show ss.length-max (i+1) i0=D by omega];omega
   ·show wlk ss (ss.length-max (i+1) i0) ss[i]!.2.2 (max (i+1) i0) st2=R
    rw[show ss.length-max (i+1) i0=D by omega,show max (i+1) i0=i+1 by omega];exact k6
  ·unfold orG
   repeat'(first|apply zE|apply zD|apply zC|refine jg ?_ ?_|(apply ja;exact jH)|(apply jm;exact jI)|refine jk ?_|(apply eF;iterate 3 exact rfl)|(apply tO;(iterate 3 exact rfl);exact ‹_›;exact rfl)|(apply zX;exact rfl)|refine jd ?_|apply zB|apply zQ|apply zL|apply zM|exact jO|((with_reducible apply Ln.mk);first|(simp[hlb];first|done|omega))|exact jW|((with_reducible apply Ce.mk);first|exact vL (λ_=>rfl) (by omega) (by decide) rfl)|exact True.intro|exact rfl)
   all_goals try exact jX
   refine⟨(i+1,(O,M),u1,q1),⟨by show p<=((i+1:Nat):Int);omega,hil,by show i0<=i+1\/i+1+1=i0;omega,?_,k5,?_⟩,by show ss.length-(i+1)<ss.length-i;omega,jB,by exact zA.nil⟩
   ·show O.length+2^(ss.length-max (i+1) i0)<=_
    have:2^(ss.length-max (i+1) i0)<=2^(ss.length-max i i0):=Nat.pow_le_pow_right (by decide) (by omega);omega
   ·show wlk ss (ss.length-max (i+1) i0) p (max (i+1) i0) (O,M)=R
    rw[<-k6];rcases k3 with k3|k3
    ·rw[show max i i0=i by omega,show max (i+1) i0=i+1 by omega,show ss.length-i=(ss.length-(i+1))+1 by omega]
     exact(yAf hpar).symm
    ·rw[show max i i0=i0 by omega,show max (i+1) i0=i0 by omega]
 ·have hz:ss.length-max i i0=0:=by omega
  rw[hz]at k6;have k6:(O,M)=R:=k6;subst k6
  repeat'(first|apply zE|apply zD|apply zC|refine jg ?_ ?_|refine jf ?_|apply zB|apply zW|apply zT|apply zJ|apply zU|exact jS|fail)
  all_goals first|exact jX|exact jF (k:=by exact⟨rfl,u1,q1,rfl,k5⟩)
end Go.Proofs.YtbidadebolllkaaGreatDoor
end
section
set_option maxRecDepth 4000
namespace Go.Proofs.YtbidadebolllkaaGreatDoor
open Go.Gh Go.RowKit

def bsr (q:Nat->Bool):Nat->Nat->Nat->Nat
 |0,i,_=>i
 |f+1,i,j=>if i<j then(if q ((i+j)/2)=true then bsr q f ((i+j)/2+1) j else bsr q f i ((i+j)/2))else i
theorem zAj {q:Nat->Bool}{f i j:Nat}(h:¬i<j):bsr q f i j=i:=by
 cases f with
 |zero=>rfl
 |succ f=>exact if_neg h
def mvU :Nat->Nat->List Vr->List Vr
 |0,_,L=>L
 |c+1,k,L=>mvU c (k+1) (swp L k (k+1))
def mvD :Nat->Nat->List Vr->List Vr
 |0,_,L=>L
 |c+1,k,L=>mvD c (k-1) (swp L k (k-1))
theorem yLi {N:Nat}:∀{c k:Nat} {L:List Vr},L.length=N->(mvU c k L).length=N:=by
 intro c
 induction c with
 |zero=>intro k L h;exact h
 |succ c ih=>intro k L h;exact ih (nW h)
theorem yKl {N:Nat}:∀{c k:Nat} {L:List Vr},L.length=N->(mvD c k L).length=N:=by
 intro c
 induction c with
 |zero=>intro k L h;exact h
 |succ c ih=>intro k L h;exact ih (nW h)
theorem yNy {a m b N:Nat}{L:List Vr}(h:L.length=N):(rot a m b L).length=N:=zWn h
def sy1 (a m b:Nat)(L:List Vr):List Vr:=mvU (bsr (λh=>lts L[h]! L[a]!) (b-m) m b-1-a) a L
def sy2 (a m:Nat)(L:List Vr):List Vr:=mvD (m-bsr (λh=>!lts L[m]! L[h]!) (m-a) a m) m L
def syS (a m b:Nat)(L:List Vr):Nat:=bsr (λc=>!lts L[(a+b)/2+m-1-c]! L[c]!) ((a+b)/2+m) (if(a+b)/2<m then(a+b)/2+m-b else a) (if(a+b)/2<m then(a+b)/2 else m)
def syR (s m e:Nat)(L:List Vr):List Vr:=if s<m/\m<e then rot s m e L else L
theorem eM {s m e N:Nat}{L:List Vr}(h:L.length=N):(syR s m e L).length=N:=by
 unfold syR;split
 ·exact yNy h
 ·exact h
def qB :Nat->Nat->Nat->Nat->List Vr->List Vr
 |0,_,_,_,L=>L
 |f+1,a,m,b,L =>
  if m-a=1 then sy1 a m b L else if b-m=1 then sy2 a m L else
  let s:=syS a m b L
  let e:=(a+b)/2+m-s
  let L1:=syR s m e L
  let L2:=if a<s/\s<(a+b)/2 then qB f a s ((a+b)/2) L1 else L1
  if(a+b)/2<e/\e<b then qB f ((a+b)/2) e b L2 else L2
theorem eK {N:Nat}:∀{f a m b:Nat} {L:List Vr},L.length=N->(qB f a m b L).length=N:=by
 intro f
 induction f with
 |zero=>intro a m b L h;exact h
 |succ f ih =>
  intro a m b L h;unfold qB;split
  ·exact yLi h
  split
  ·exact yKl h
  dsimp only;split
  ·apply ih
   split
   ·exact ih (eM h)
   ·exact eM h
  ·split
   ·exact ih (eM h)
   ·exact eM h
theorem zHk {a b:Vr}:(sc3 a.2.2.1 b.2.2.1<0)↔lts a b=true:=by
 unfold lts;rw[decide_eq_true_eq];exact zFr
theorem aS {i j:Nat}:((i:Int)+j)/2^(min (Int.toNat 1) IntKind.u64.bits)=(((i+j)/2:Nat):Int):=by
 rw[show min (Int.toNat 1) IntKind.u64.bits=1 from rfl];omega
set_option maxHeartbeats 1000000 in
theorem zWo (N A fl:Nat)(h:SH)(hN:N<=1000):∀(f a m b:Nat) (L:List Vr),L.length=N->b-a<=f->a<m->m<b->b<=N ->
  zH Tryz.prog 287 [gsl A 0 (N*7) N fl,I a,I m,I b,cmV] ((A,⟨zF vrF L,false⟩)::h) λr q=>r=.tuple #[]/\q=(A,⟨zF vrF (qB f a m b L),false⟩)::h:=by
 intro f
 induction f with
 |zero=>intro a m b L _ h1 h2 h3 _;omega
 |succ f ih =>
 intro a m b L hL hf ham hmb hb;have hO:=λx y h=>zHz x y h;obtain⟨R,hR⟩:∃R,qB (f+1) a m b L=R:=⟨_,rfl⟩;rw[hR];unfold qB at hR;by_cases h1:m-a=1
 ·rw[if_pos h1]at hR
  unfold sy1 at hR;refine dF Tryz.func287 rfl rfl ?_
  repeat'(first|apply zE|apply zD|apply zC|refine jg ?_ ?_|(apply ja;exact jH)|refine jd ?_|apply zB|apply zM|exact jS|exact jW|fail)
  all_goals try exact jX
  refine yH (S:=Nat × Nat × Nat) (λs=>[(0,gsl A 0 (N*7) N fl),(1,I a),(2,I m),(3,I b),(4,cmV),(10,I s.1),(11,I s.2.1)]) (λ_=>(A,⟨zF vrF L,false⟩)::h)
   (λs=>m<=s.1/\s.1<=s.2.1/\s.2.1<=b/\s.2.1-s.1<=s.2.2/\mvU (bsr (λh=>lts L[h]! L[a]!) s.2.2 s.1 s.2.1-1-a) a L=R) (λs=>s.2.1-s.1) (m,b,b-m) ⟨Nat.le_refl _,Nat.le_of_lt hmb,Nat.le_refl _,Nat.le_refl _,hR⟩ jB (by exact zA.nil) ?_
  rintro⟨i,j,k⟩ ⟨q1,q2,q3,q4,hg⟩;dsimp only at q1 q2 q3 q4 hg ⊢;by_cases hij:i<j
  ·obtain⟨k,rfl⟩:∃l,k=l+1:=⟨k-1,by omega⟩
   have hsh:=@aS i j;unfold bsr at hg;rw[if_pos hij]at hg;obtain⟨c,hc0⟩:∃c,c=(i+j)/2:=⟨_,rfl⟩;rw[<-hc0]at hg hsh;have hls:=@zHk L[c]! L[a]!;by_cases hlt:lts L[c]! L[a]! = true
   ·rw[if_pos hlt]at hg
    have hs:=hls.2 hlt
    repeat'(first|apply zE|apply zD|apply zC|refine jr ?_|refine jg ?_ ?_|(apply ja;exact jH)|(apply uW;exact rfl;exact rfl)|(apply jl;exact jI)|(apply wP;(iterate 4 exact rfl);exact⟨_,hO L[c]! L[a]! _,jN⟩;exact λ_ _ h=>h.1;(focus(repeat(first|exact xV.c rfl))))|(apply tC;exact rfl;(focus first|exact ‹_›|omega))|apply zB|apply zQ|apply zL|apply zM|exact jO|((with_reducible apply Ln.mk);first|exact qJ hL|rfl)|((with_reducible apply Wr.mk);first|exact IntWalk.i64_in _ (by omega)|exact IntWalk.u64_in _ (by omega))|((with_reducible apply Ex.mk);first|exact hsh)|((with_reducible apply Su.mk);first|exact wQ c (by omega) (by omega)|exact wQ a (by omega) (by omega))|exact True.intro|exact rfl)
    all_goals first
     |exact jX
     |exact⟨(c+1,j,k),⟨by show m<=c+1;omega,by show c+1<=j;omega,q3,by show j-(c+1)<=k;omega,hg⟩,by show j-(c+1)<j-i;omega,jB,by exact zA.nil⟩
   ·rw[if_neg hlt]at hg
    have hs:=λg=>hlt (hls.1 g)
    repeat'(first|apply zE|apply zD|apply zC|refine jr ?_|refine jg ?_ ?_|(apply ja;exact jH)|(apply uW;exact rfl;exact rfl)|(apply jl;exact jI)|(apply wP;(iterate 4 exact rfl);exact⟨_,hO L[c]! L[a]! _,jN⟩;exact λ_ _ h=>h.1;(focus(repeat(first|exact xV.c rfl))))|refine jd ?_|(apply pT;exact rfl;exact ‹_›)|apply zB|apply zQ|apply zL|apply zM|exact jO|((with_reducible apply Ln.mk);first|exact qJ hL|rfl)|((with_reducible apply Wr.mk);first|exact IntWalk.i64_in _ (by omega)|exact IntWalk.u64_in _ (by omega))|((with_reducible apply Ex.mk);first|exact hsh)|((with_reducible apply Su.mk);first|exact wQ c (by omega) (by omega)|exact wQ a (by omega) (by omega))|exact True.intro|exact rfl)
    all_goals first
     |exact jX
     |exact⟨(i,c,k),⟨q1,by show i<=c;omega,by show c<=b;omega,by show c-i<=k;omega,hg⟩,by show c-i<j-i;omega,jB,by exact zA.nil⟩
  ·rw[zAj hij]at hg
   repeat'(first|apply zE|apply zD|apply zC|refine jg ?_ ?_|refine jf ?_|apply zB|apply zW|apply zT|apply zU|apply zM|exact jS|fail)
   all_goals try exact jX
   refine yH (S:=Nat × List Vr) (λs=>[(0,gsl A 0 (N*7) N fl),(1,I a),(2,I m),(3,I b),(4,cmV),(10,I i),(13,I s.1)]) (λs=>(A,⟨zF vrF s.2,false⟩)::h)
    (λs=>s.2.length=N/\a<=s.1/\mvU (i-1-s.1) s.1 s.2=R) (λs=>i-1-s.1) (a,L) ⟨hL,Nat.le_refl _,hg⟩ jB (by exact zA.nil) ?_
   rintro⟨x,X⟩ ⟨hX,hx,hg⟩;dsimp only at hX hx hg ⊢;by_cases hxi:x<i-1
   ·rw[show i-1-x=(i-1-(x+1))+1 by omega]at hg
    have hg:mvU (i-1-(x+1)) (x+1) (swp X x (x+1))=R:=hg
    repeat'(first|apply zE|apply zD|apply zC|refine jr ?_|refine jg ?_ ?_|(apply ja;exact jH)|(apply jl;exact jI)|(apply js;exact jJ)|refine jd ?_|apply zB|apply zQ|apply zL|apply zM|exact jO|((with_reducible apply Ln.mk);first|exact qJ hX|exact qJ (qH hX)|rfl)|exact jW|((with_reducible apply Pu.mk);first|exact nV x (by omega) (by first|omega|(rw[qH hX];omega))|exact nV (x+1) (by omega) (by first|omega|(rw[qH hX];omega)))|((with_reducible apply Su.mk);first|exact wQ x (by omega) (by omega)|exact wQ (x+1) (by omega) (by omega))|exact True.intro|exact Or.inl rfl|apply And.intro|exact rfl)
    all_goals first
     |exact jX
     |exact⟨(x+1,swp X x (x+1)),⟨nW hX,by show a<=x+1;omega,hg⟩,by show i-1-(x+1)<i-1-x;omega,jB,by exact zA.nil⟩
   ·rw[show i-1-x=0 by omega]at hg
    have hg:X=R:=hg;subst hg
    repeat'(first|apply zE|apply zD|apply zC|refine jg ?_ ?_|(apply ja;exact jH)|refine jf ?_|apply zB|apply zV|apply zW|apply zT|apply zJ|apply zU|exact jS|exact jW|fail)
    all_goals first|exact jX|(apply yA;(exact(show zO _ _ _ _ [] from trivial));exact⟨rfl,rfl⟩;(focus repeat(first|with_reducible exact zA.nil|with_reducible apply zA.c|with_reducible apply zA.drop)))
 rw[if_neg h1]at hR;by_cases h2:b-m=1
 ·rw[if_pos h2]at hR
  unfold sy2 at hR;refine dF Tryz.func287 rfl rfl ?_
  repeat'(first|apply zE|apply zD|apply zC|refine jg ?_ ?_|(apply ja;exact jH)|refine jd ?_|refine jf ?_|apply zB|apply zL|apply zM|exact jS|exact jW|fail)
  all_goals try exact jX
  refine yH (S:=Nat × Nat × Nat) (λs=>[(0,gsl A 0 (N*7) N fl),(1,I a),(2,I m),(3,I b),(4,cmV),(14,I s.1),(15,I s.2.1)]) (λ_=>(A,⟨zF vrF L,false⟩)::h)
   (λs=>a<=s.1/\s.1<=s.2.1/\s.2.1<=m/\s.2.1-s.1<=s.2.2/\mvD (m-bsr (λh=>!lts L[m]! L[h]!) s.2.2 s.1 s.2.1) m L=R) (λs=>s.2.1-s.1) (a,m,m-a) ⟨Nat.le_refl _,Nat.le_of_lt ham,Nat.le_refl _,Nat.le_refl _,hR⟩ jB (by exact zA.nil) ?_
  rintro⟨i,j,k⟩ ⟨q1,q2,q3,q4,hg⟩;dsimp only at q1 q2 q3 q4 hg ⊢;by_cases hij:i<j
  ·obtain⟨k,rfl⟩:∃l,k=l+1:=⟨k-1,by omega⟩
   have hsh:=@aS i j;unfold bsr at hg;rw[if_pos hij]at hg;obtain⟨c,hc0⟩:∃c,c=(i+j)/2:=⟨_,rfl⟩;rw[<-hc0]at hg hsh;have hls:=@zHk L[m]! L[c]!;by_cases hlt:lts L[m]! L[c]! = true
   ·rw[if_neg (by rw[hlt];decide)]at hg
    have hs:=hls.2 hlt
    repeat'(first|apply zE|apply zD|apply zC|refine jr ?_|refine jg ?_ ?_|(apply ja;exact jH)|(apply uW;exact rfl;exact rfl)|(apply mU;exact rfl;exact rfl)|(apply jl;exact jI)|(apply wP;(iterate 4 exact rfl);exact⟨_,hO L[m]! L[c]! _,jN⟩;exact λ_ _ h=>h.1;(focus(repeat(first|exact xV.c rfl))))|refine jd ?_|refine jf ?_|apply zB|apply zQ|apply zL|apply zM|exact jO|((with_reducible apply Ln.mk);first|exact qJ hL|rfl)|((with_reducible apply Wr.mk);first|exact IntWalk.i64_in _ (by omega)|exact IntWalk.u64_in _ (by omega))|((with_reducible apply Ex.mk);first|exact hsh)|((with_reducible apply Su.mk);first|exact wQ c (by omega) (by omega)|exact wQ m (by omega) (by omega))|exact True.intro|exact rfl)
    all_goals first
     |exact jX
     |exact⟨(i,c,k),⟨q1,by show i<=c;omega,by show c<=m;omega,by show c-i<=k;omega,hg⟩,by show c-i<j-i;omega,jB,by exact zA.nil⟩
   ·rw[if_pos (by rw[Bool.not_eq_true]at hlt;rw[hlt];rfl)]at hg
    have hs:=λg=>hlt (hls.1 g)
    repeat'(first|apply zE|apply zD|apply zC|refine jr ?_|refine jg ?_ ?_|(apply ja;exact jH)|(apply uW;exact rfl;exact rfl)|(apply mU;exact rfl;exact rfl)|(apply jl;exact jI)|(apply wP;(iterate 4 exact rfl);exact⟨_,hO L[m]! L[c]! _,jN⟩;exact λ_ _ h=>h.1;(focus(repeat(first|exact xV.c rfl))))|(apply tC;exact rfl;(focus first|exact ‹_›|omega))|apply zB|apply zQ|apply zL|apply zM|exact jO|((with_reducible apply Ln.mk);first|exact qJ hL|rfl)|((with_reducible apply Wr.mk);first|exact IntWalk.i64_in _ (by omega)|exact IntWalk.u64_in _ (by omega))|((with_reducible apply Ex.mk);first|exact hsh)|((with_reducible apply Su.mk);first|exact wQ c (by omega) (by omega)|exact wQ m (by omega) (by omega))|exact True.intro|exact rfl)
    all_goals first
     |exact jX
     |exact⟨(c+1,j,k),⟨by show a<=c+1;omega,by show c+1<=j;omega,q3,by show j-(c+1)<=k;omega,hg⟩,by show j-(c+1)<j-i;omega,jB,by exact zA.nil⟩
  ·rw[zAj hij]at hg
   repeat'(first|apply zE|apply zD|apply zC|refine jg ?_ ?_|refine jf ?_|apply zB|apply zW|apply zT|apply zU|apply zM|exact jS|fail)
   all_goals try exact jX
   refine yH (S:=Nat × List Vr) (λs=>[(0,gsl A 0 (N*7) N fl),(1,I a),(2,I m),(3,I b),(4,cmV),(14,I i),(17,I s.1)]) (λs=>(A,⟨zF vrF s.2,false⟩)::h)
    (λs=>s.2.length=N/\s.1<=m/\mvD (s.1-i) s.1 s.2=R) (λs=>s.1-i) (m,L) ⟨hL,Nat.le_refl _,hg⟩ jB (by exact zA.nil) ?_
   rintro⟨x,X⟩ ⟨hX,hx,hg⟩;dsimp only at hX hx hg ⊢;by_cases hxi:i<x
   ·obtain⟨x,rfl⟩:∃k,x=k+1:=⟨x-1,by omega⟩
    rw[show x+1-i=(x-i)+1 by omega]at hg;have hg:mvD (x-i) x (swp X (x+1) x)=R:=hg
    repeat'(first|apply zE|apply zD|apply zC|refine jr ?_|refine jg ?_ ?_|(apply ja;exact jH)|(apply jl;exact jI)|(apply js;exact jJ)|refine jd ?_|apply zB|apply zQ|apply zL|apply zM|exact jO|((with_reducible apply Ln.mk);first|exact qJ hX|exact qJ (qH hX)|rfl)|exact jW|((with_reducible apply Pu.mk);first|exact nV x (by omega) (by first|omega|(rw[qH hX];omega))|exact nV (x+1) (by omega) (by first|omega|(rw[qH hX];omega)))|((with_reducible apply Su.mk);first|exact wQ x (by omega) (by omega)|exact wQ (x+1) (by omega) (by omega))|exact True.intro|exact Or.inl rfl|apply And.intro|exact rfl)
    all_goals first
     |exact jX
     |exact⟨(x,swp X (x+1) x),⟨nW hX,by show x<=m;omega,hg⟩,by show x-i<x+1-i;omega,⟨rfl,rfl,rfl,rfl,rfl,rfl,congrArg some (congrArg I (show((x+1:Nat):Int)-1=((x:Nat):Int)by omega)),trivial⟩,by exact zA.nil⟩
   ·rw[show x-i=0 by omega]at hg
    have hg:X=R:=hg;subst hg
    repeat'(first|apply zE|apply zD|apply zC|refine jg ?_ ?_|refine jf ?_|apply zB|apply zV|apply zW|apply zT|apply zJ|apply zU|exact jS|fail)
    all_goals first|exact jX|(apply yA;(exact(show zO _ _ _ _ [] from trivial));exact⟨rfl,rfl⟩;(focus repeat(first|with_reducible exact zA.nil|with_reducible apply zA.c|with_reducible apply zA.drop)))
 rw[if_neg h2]at hR;dsimp only at hR;obtain⟨c,hc0⟩:∃c,c=(a+b)/2:=⟨_,rfl⟩;have hsh:=@aS a b;have hS:∃S,syS a m b L=S:=⟨_,rfl⟩;obtain⟨S,hS⟩:=hS;rw[hS,<-hc0]at hR;unfold syS at hS;rw[<-hc0]at hS hsh;have hcm:a<c/\c<b:=by omega
 refine dF Tryz.func287 rfl rfl ?_
 repeat'((fail_if_success (show SWp _ _ (Code.cond (Operand.tmp 140) _ _) _ _ _));first|apply zE|apply zD|apply zC|refine jg ?_ ?_|(apply ja;exact jH)|(apply uW;exact rfl;exact rfl)|refine jf ?_|apply zB|apply zL|exact jO|((with_reducible apply Wr.mk);first|exact IntWalk.i64_in _ (by omega)|exact IntWalk.u64_in _ (by omega))|((with_reducible apply Ex.mk);first|exact hsh))
 all_goals try exact jX
 refine rH (S:=Nat × Nat) (λs=>[(0,gsl A 0 (N*7) N fl),(1,I a),(2,I m),(3,I b),(4,cmV),(18,I c),(19,I ((c:Int)+m)),(20,I s.1),(21,I s.2)]) (λ_=>(A,⟨zF vrF L,false⟩)::h)
  (λs=>s.1=(if c<m then c+m-b else a)/\s.2=(if c<m then c else m)) ?_ ?_
 ·by_cases hcm2:c<m
  ·repeat'(first|apply zE|apply zD|apply zC|refine jg ?_ ?_|(apply ja;exact jH)|refine jd ?_|apply zB|exact jS|exact jW|fail)
   all_goals first
    |exact jX
    |exact⟨(c+m-b,c),⟨(if_pos hcm2).symm,(if_pos hcm2).symm⟩,⟨rfl,rfl,rfl,rfl,rfl,rfl,rfl,congrArg some (congrArg I (show(c:Int)+m-b=((c+m-b:Nat):Int)by omega)),rfl,trivial⟩,by exact zA.nil⟩
  ·repeat'(first|apply zE|apply zD|apply zC|refine jg ?_ ?_|refine jf ?_|apply zB|exact jS|fail)
   all_goals first
    |exact jX
    |exact⟨(a,m),⟨(if_neg hcm2).symm,(if_neg hcm2).symm⟩,jB,by exact zA.nil⟩
 rintro⟨s0,r0⟩ ⟨e1,e2⟩;dsimp only at e1 e2 ⊢;rw[<-e1,<-e2]at hS;have hb1:a<=s0/\s0<=r0/\r0<=c/\r0<=m/\c+m<=b+s0:=by
  by_cases q:c<m
  ·rw[if_pos q]at e1 e2;omega
  ·rw[if_neg q]at e1 e2;omega
 have hb2:∀x,s0<=x->x<r0->x<N/\c+m-1-x<N:=by
  intro x q1 q2;by_cases q:c<m
  ·rw[if_pos q]at e1 e2;omega
  ·rw[if_neg q]at e1 e2;omega
 clear e1 e2
 repeat'(first|apply zE|apply zD|apply zC|refine jg ?_ ?_|(apply ja;exact jH)|apply zB|apply zM|exact jS|exact jW|fail)
 all_goals try exact jX
 refine yH (S:=Nat × Nat × Nat) (λs=>[(0,gsl A 0 (N*7) N fl),(1,I a),(2,I m),(3,I b),(4,cmV),(18,I c),(19,I ((c:Int)+m)),(20,I s.1),(21,I s.2.1),(22,I ((c:Int)+m-1))]) (λ_=>(A,⟨zF vrF L,false⟩)::h)
  (λs=>s0<=s.1/\s.1<=s.2.1/\s.2.1<=r0/\s.2.1-s.1<=s.2.2/\bsr (λx=>!lts L[c+m-1-x]! L[x]!) s.2.2 s.1 s.2.1=S) (λs=>s.2.1-s.1) (s0,r0,c+m) ⟨Nat.le_refl _,hb1.2.1,Nat.le_refl _,by show r0-s0<=c+m;omega,hS⟩ jB (by exact zA.nil) ?_
 rintro⟨i,j,k⟩ ⟨q1,q2,q3,q4,hg⟩;dsimp only at q1 q2 q3 q4 hg ⊢;by_cases hij:i<j
 ·obtain⟨k,rfl⟩:∃l,k=l+1:=⟨k-1,by omega⟩
  have hsh:=@aS i j;unfold bsr at hg;rw[if_pos hij]at hg;obtain⟨x,hx0⟩:∃x,x=(i+j)/2:=⟨_,rfl⟩;rw[<-hx0]at hg hsh;have hxb:=hb2 x (by omega) (by omega);have hls:=@zHk L[c+m-1-x]! L[x]!;by_cases hlt:lts L[c+m-1-x]! L[x]! = true
  ·rw[if_neg (by rw[hlt];decide)]at hg
   have hs:=hls.2 hlt
   repeat'(first|apply zE|apply zD|apply zC|refine jr ?_|refine jg ?_ ?_|(apply ja;exact jH)|(apply uW;exact rfl;exact rfl)|(apply mU;exact rfl;exact rfl)|(apply jl;exact jI)|(apply wP;(iterate 4 exact rfl);exact⟨_,hO L[c+m-1-x]! L[x]! _,jN⟩;exact λ_ _ h=>h.1;(focus(repeat(first|exact xV.c rfl))))|refine jd ?_|refine jf ?_|apply zB|apply zQ|apply zL|apply zM|exact jO|((with_reducible apply Ln.mk);first|exact qJ hL|rfl)|((with_reducible apply Wr.mk);first|exact IntWalk.i64_in _ (by omega)|exact IntWalk.u64_in _ (by omega))|((with_reducible apply Ex.mk);first|exact hsh)|((with_reducible apply Su.mk);first|exact wQ (c+m-1-x) (by omega) (by omega)|exact wQ x (by omega) (by omega))|exact True.intro|exact rfl)
   all_goals first
    |exact jX
    |exact⟨(i,x,k),⟨q1,by show i<=x;omega,by show x<=r0;omega,by show x-i<=k;omega,hg⟩,by show x-i<j-i;omega,jB,by exact zA.nil⟩
  ·rw[if_pos (by rw[Bool.not_eq_true]at hlt;rw[hlt];rfl)]at hg
   have hs:=λg=>hlt (hls.1 g)
   repeat'(first|apply zE|apply zD|apply zC|refine jr ?_|refine jg ?_ ?_|(apply ja;exact jH)|(apply uW;exact rfl;exact rfl)|(apply mU;exact rfl;exact rfl)|(apply jl;exact jI)|(apply wP;(iterate 4 exact rfl);exact⟨_,hO L[c+m-1-x]! L[x]! _,jN⟩;exact λ_ _ h=>h.1;(focus(repeat(first|exact xV.c rfl))))|(apply tC;exact rfl;(focus first|exact ‹_›|omega))|apply zB|apply zQ|apply zL|apply zM|exact jO|((with_reducible apply Ln.mk);first|exact qJ hL|rfl)|((with_reducible apply Wr.mk);first|exact IntWalk.i64_in _ (by omega)|exact IntWalk.u64_in _ (by omega))|((with_reducible apply Ex.mk);first|exact hsh)|((with_reducible apply Su.mk);first|exact wQ (c+m-1-x) (by omega) (by omega)|exact wQ x (by omega) (by omega))|exact True.intro|exact rfl)
   all_goals first
    |exact jX
    |exact⟨(x+1,j,k),⟨by show s0<=x+1;omega,by show x+1<=j;omega,q3,by show j-(x+1)<=k;omega,hg⟩,by show j-(x+1)<j-i;omega,jB,by exact zA.nil⟩
 ·rw[zAj hij]at hg
  subst hg;obtain⟨e,he⟩:∃e,c+m-i=e:=⟨_,rfl⟩;rw[he]at hR;have he2:(c:Int)+m-i=(e:Int):=by omega
  have heb:e<=b:=by omega
  have hN1:=eM (s:=i) (m:=m) (e:=e) hL;have hRot:∀ze:Int,ze=e->i<m/\m<e->zH Tryz.prog 324 [gsl A 0 (N*7) N fl,I i,I m,I ze,cmV] ((A,⟨zF vrF L,false⟩)::h) λr q=>r=.tuple #[]/\q=(A,⟨zF vrF (syR i m e L),false⟩)::h:=λze h0 h1=>by
   subst h0;rw[show syR i m e L=rot i m e L from if_pos h1];exact yGe N A fl i m e L h hL hN h1.1 h1.2 (by omega)
  have hno1:¬(i<m/\m<e)->syR i m e L=L:=λg=>if_neg g;generalize syR i m e L=L1 at *;have hS2:a<i/\i<c->zH Tryz.prog 287 [gsl A 0 (N*7) N fl,I a,I i,I c,cmV] ((A,⟨zF vrF L1,false⟩)::h) λr q=>r=.tuple #[]/\q=(A,⟨zF vrF (if a<i/\i<c then qB f a i c L1 else L1),false⟩)::h:=λg=>by
   rw[if_pos g];exact ih a i c L1 hN1 (by omega) g.1 g.2 (by omega)
  have hN2:(if a<i/\i<c then qB f a i c L1 else L1).length=N:=by
   split
   ·exact eK hN1
   ·exact hN1
  have hno2:¬(a<i/\i<c)->(if a<i/\i<c then qB f a i c L1 else L1)=L1:=λg=>if_neg g;generalize (if a<i/\i<c then qB f a i c L1 else L1)=L2 at *;have hS3:∀ze:Int,ze=e->c<e/\e<b->zH Tryz.prog 287 [gsl A 0 (N*7) N fl,I c,I ze,I b,cmV] ((A,⟨zF vrF L2,false⟩)::h) λr q=>r=.tuple #[]/\q=(A,⟨zF vrF R,false⟩)::h:=λze h0 g=>by
   subst h0;rw[<-hR,if_pos g];exact ih c e b L2 hN2 (by omega) g.1 g.2 (by omega)
  have hno3:¬(c<e/\e<b)->L2=R:=λg=>by rw[<-hR,if_neg g]
  clear hR ih hO hb2 hS;by_cases g1:i<m/\m<e <;> by_cases g2:a<i/\i<c <;> by_cases g3:c<e/\e<b
  all_goals try(have hz:=hno3 g3;subst hz)
  all_goals try(have hz:=hno2 g2;subst hz)
  all_goals try(have hz:=hno1 g1;subst hz)
  all_goals clear hno1 hno2 hno3
  all_goals repeat'(first|apply zE|apply zD|apply zC|refine jr ?_|refine jg ?_ ?_|(apply ja;exact jH)|(apply uW;exact rfl;exact rfl)|(apply jl;exact jI)|refine jq ?_ (c:=by exact⟨_,hRot _ he2 g1,jN⟩)|refine jq ?_ (c:=by exact⟨_,hS2 g2,jN⟩)|refine jq ?_ (c:=by exact⟨_,hS3 _ he2 g3,jN⟩)|refine jw ?_|refine jk ?_|refine jh ?_|(apply tO;(iterate 3 exact rfl);omega;exact rfl)|(apply zX;exact rfl)|refine jd ?_|refine jf ?_|apply zB|apply zW|apply zT|apply zL|apply zU|apply zM|exact jO|((with_reducible apply Ln.mk);first|rfl|omega)|((with_reducible apply Wr.mk);first|exact IntWalk.i64_in _ (by omega)|exact IntWalk.u64_in _ (by omega))|((with_reducible apply Ex.mk);first|rfl)|((with_reducible apply Su.mk);first|exact xO (λ_=>rfl) (by omega))|exact True.intro|exact rfl)
  all_goals first
   |exact jX
   |(apply qQ;(exact(show zO _ _ _ _ [] from trivial));exact⟨rfl,rfl⟩;(focus repeat(first|with_reducible exact zA.nil|with_reducible apply zA.c|with_reducible apply zA.drop)))
def stI (n:Nat):Nat->Nat->List Vr->List Vr
 |0,a,L=>ins a n L
 |k+1,a,L=>if a+20<=n then stI n k (a+20) (ins a (a+20) L)else ins a n L
def stM (n bs:Nat):Nat->Nat->List Vr->List Vr
 |0,_,L=>L
 |k+1,a,L=>if a+2*bs<=n then stM n bs k (a+2*bs) (qB n a (a+bs) (a+2*bs) L)else if a+bs<n then qB n a (a+bs) n L else L
def stO (n:Nat):Nat->Nat->List Vr->List Vr
 |0,_,L=>L
 |k+1,bs,L=>if bs<n then stO n k (bs*2) (stM n bs (n+1) 0 L)else L
def vW (L:List Vr):List Vr:=stO L.length (L.length+1) 20 (stI L.length L.length 0 L)
theorem fD {a b N:Nat}{L:List Vr}(h:L.length=N):(ins a b L).length=N:=yHs h
theorem zLl {n N:Nat}:∀{k a:Nat} {L:List Vr},L.length=N->(stI n k a L).length=N:=by
 intro k
 induction k with
 |zero=>intro a L h;exact fD h
 |succ k ih =>
  intro a L h;unfold stI;split
  ·exact ih (fD h)
  ·exact fD h
theorem zTq {n bs N:Nat}:∀{k a:Nat} {L:List Vr},L.length=N->(stM n bs k a L).length=N:=by
 intro k
 induction k with
 |zero=>intro a L h;exact h
 |succ k ih =>
  intro a L h;unfold stM;split
  ·exact ih (eK h)
  ·split
   ·exact eK h
   ·exact h
theorem zXm {n N:Nat}:∀{k bs:Nat} {L:List Vr},L.length=N->(stO n k bs L).length=N:=by
 intro k
 induction k with
 |zero=>intro bs L h;exact h
 |succ k ih =>
  intro bs L h;unfold stO;split
  ·exact ih (zTq h)
  ·exact h
theorem zFh {L:List Vr}:(vW L).length=L.length:=zXm (zLl rfl)
theorem yAh (N A fl:Nat)(L:List Vr)(h:SH)(hL:L.length=N)(hN:N<=1000) :
  zH Tryz.prog 226 [gsl A 0 (N*7) N fl,I N,cmV] ((A,⟨zF vrF L,false⟩)::h) λr q=>r=.tuple #[]/\q=(A,⟨zF vrF (vW L),false⟩)::h:=by
 obtain⟨R,hR⟩:∃R,vW L=R:=⟨_,rfl⟩;rw[hR];unfold vW at hR;rw[hL]at hR;obtain⟨L1,hL1⟩:∃R,stI N N 0 L=R:=⟨_,rfl⟩;rw[hL1]at hR;have hN1:L1.length=N:=by rw[<-hL1];exact zLl hL
 have hI:∀(X:List Vr),X.length=N->∀(x y:Nat) (zx zy:Int),zx=x->zy=y->x<=N->y<=N->zH Tryz.prog 286 [gsl A 0 (N*7) N fl,I zx,I zy,cmV] ((A,⟨zF vrF X,false⟩)::h) λr q=>r=.tuple #[]/\q=(A,⟨zF vrF (ins x y X),false⟩)::h:=by
  intro X hX x y zx zy e1 e2 h1 h2;subst e1 e2;exact yBo N A fl x y X h hX hN h2 h1
 have hM:∀(X:List Vr),X.length=N->∀(x y z:Nat) (zx zy zz:Int),zx=x->zy=y->zz=z->x<y->y<z->z<=N->zH Tryz.prog 287 [gsl A 0 (N*7) N fl,I zx,I zy,I zz,cmV] ((A,⟨zF vrF X,false⟩)::h) λr q=>r=.tuple #[]/\q=(A,⟨zF vrF (qB N x y z X),false⟩)::h:=by
  intro X hX x y z zx zy zz e1 e2 e3 h1 h2 h3;subst e1 e2 e3;exact zWo N A fl h hN N x y z X hX (by omega) h1 h2 h3
 refine wF Tryz.func226 rfl rfl ?_
 repeat'(first|apply zE|apply zD|apply zC|refine jg ?_ ?_|apply zB|apply zM|exact jS|fail)
 all_goals try exact jX
 refine yH (S:=Nat × Nat × List Vr) (λs=>[(0,gsl A 0 (N*7) N fl),(1,I N),(2,cmV),(6,I 20),(7,I s.1),(8,I ((s.1:Int)+20))]) (λs=>(A,⟨zF vrF s.2.2,false⟩)::h)
  (λs=>s.2.2.length=N/\s.1<=N/\N<=s.1+s.2.1/\stI N s.2.1 s.1 s.2.2=L1) (λs=>N-s.1) (0,N,L) ⟨hL,Nat.zero_le _,by show N<=0+N;omega,hL1⟩ jB (by exact zA.nil) ?_
 rintro⟨a,k,X⟩ ⟨hX,ha,hk,hg⟩;dsimp only at hX ha hk hg ⊢;by_cases hc1:a+20<=N
 ·obtain⟨k,rfl⟩:∃l,k=l+1:=⟨k-1,by omega⟩
  unfold stI at hg;rw[if_pos hc1]at hg
  repeat'(first|apply zE|apply zD|apply zC|refine jg ?_ ?_|(apply ja;exact jH)|refine jq ?_ (c:=by exact⟨_,hI X hX a (a+20) _ _ rfl (by omega) (by omega) (by omega),jN⟩)|refine jd ?_|apply zB|apply zQ|apply zL|apply zM|exact jS|exact jW|fail)
  all_goals first
   |exact jX
   |exact⟨(a+20,k,ins a (a+20) X),⟨fD hX,hc1,by show N<=a+20+k;omega,hg⟩,by show N-(a+20)<N-a;omega,jB,by exact zA.nil⟩
 ·have hg:ins a N X=L1:=by
   cases k with
   |zero=>exact hg
   |succ k=>unfold stI at hg;rw[if_neg hc1]at hg;exact hg
  subst hg
  repeat'(first|apply zE|apply zD|apply zC|refine jg ?_ ?_|refine jq ?_ (c:=by exact⟨_,hI X hX a N _ _ rfl rfl (by omega) (by omega),jN⟩)|refine jf ?_|apply zB|apply zW|apply zT|apply zU|apply zM|exact jS|fail)
  all_goals try exact jX
  refine yH (S:=Nat × Nat × List Vr) (λs=>[(0,gsl A 0 (N*7) N fl),(1,I N),(2,cmV),(6,I s.1)]) (λs=>(A,⟨zF vrF s.2.2,false⟩)::h)
   (λs=>s.2.2.length=N/\1<=s.1/\s.1<=2000/\N<s.1+s.2.1/\stO N s.2.1 s.1 s.2.2=R) (λs=>N-s.1) (20,N+1,ins a N X) ⟨hN1,by show 1<=20;decide,by show 20<=2000;decide,by show N<20+(N+1);omega,hR⟩ jB (by exact zA.nil) ?_
  rintro⟨bs,k2,Y⟩ ⟨hY,hbs,hbs2,hk2,hg⟩;dsimp only at hY hbs hbs2 hk2 hg ⊢;by_cases hbN:bs<N
  ·obtain⟨k2,rfl⟩:∃l,k2=l+1:=⟨k2-1,by omega⟩
   unfold stO at hg;rw[if_pos hbN]at hg;obtain⟨Y1,hY1⟩:∃Z,stM N bs (N+1) 0 Y=Z:=⟨_,rfl⟩;rw[hY1]at hg;have hYl:Y1.length=N:=by rw[<-hY1];exact zTq hY
   repeat'(first|apply zE|apply zD|apply zC|refine jg ?_ ?_|(apply ja;exact jH)|refine jd ?_|apply zB|apply zL|apply zM|exact jS|exact jW|fail)
   all_goals try exact jX
   refine yH (S:=Nat × Nat × List Vr) (λs=>[(0,gsl A 0 (N*7) N fl),(1,I N),(2,cmV),(6,I bs),(7,I s.1),(8,I ((s.1:Int)+2*bs))]) (λs=>(A,⟨zF vrF s.2.2,false⟩)::h)
    (λs=>s.2.2.length=N/\s.1<=N/\N<s.1+s.2.1/\stM N bs s.2.1 s.1 s.2.2=Y1) (λs=>N-s.1) (0,N+1,Y) ⟨hY,Nat.zero_le _,by show N<0+(N+1);omega,hY1⟩ (by refine⟨rfl,rfl,rfl,rfl,rfl,congrArg some (congrArg I ?_),trivial⟩;show 2*(bs:Int)=((0:Nat):Int)+2*bs;omega) (by exact zA.nil) ?_
   rintro⟨c,k3,Z⟩ ⟨hZ,hcN,hk3,hg3⟩;dsimp only at hZ hcN hk3 hg3 ⊢;obtain⟨k3,rfl⟩:∃l,k3=l+1:=⟨k3-1,by omega⟩;unfold stM at hg3;by_cases hc2:c+2*bs<=N
   ·rw[if_pos hc2]at hg3
    repeat'(first|apply zE|apply zD|apply zC|refine jg ?_ ?_|(apply ja;exact jH)|refine jq ?_ (c:=by exact⟨_,hM Z hZ c (c+bs) (c+2*bs) _ _ _ rfl (by omega) (by omega) (by omega) (by omega) (by omega),jN⟩)|refine jd ?_|apply zB|apply zQ|apply zL|apply zM|exact jS|exact jW|fail)
    all_goals first
     |exact jX
     |exact⟨(c+2*bs,k3,qB N c (c+bs) (c+2*bs) Z),⟨eK hZ,hc2,by show N<c+2*bs+k3;omega,hg3⟩,by show N-(c+2*bs)<N-c;omega,(by refine⟨rfl,rfl,rfl,rfl,congrArg some (congrArg I ?_),congrArg some (congrArg I ?_),trivial⟩ <;> (first|(show(c:Int)+2*bs=((c+2*bs:Nat):Int);omega)|(show(c:Int)+2*bs+2*bs=((c+2*bs:Nat):Int)+2*bs;omega))),by exact zA.nil⟩
   ·rw[if_neg hc2]at hg3
    by_cases hc3:c+bs<N
    ·rw[if_pos hc3]at hg3
     subst hg3
     repeat'(first|apply zE|apply zD|apply zC|refine jg ?_ ?_|(apply ja;exact jH)|refine jq ?_ (c:=by exact⟨_,hM Z hZ c (c+bs) N _ _ _ rfl (by omega) rfl (by omega) (by omega) (by omega),jN⟩)|refine jd ?_|refine jf ?_|apply zB|apply zW|apply zQ|apply zT|apply zU|exact jS|exact jW|fail)
     all_goals first
      |exact jX
      |exact⟨(bs*2,k2,qB N c (c+bs) N Z),⟨eK hZ,by show 1<=bs*2;omega,by show bs*2<=2000;omega,by show N<bs*2+k2;omega,hg⟩,by show N-bs*2<N-bs;omega,(by refine⟨rfl,rfl,rfl,congrArg some (congrArg I ?_),trivial⟩;show(bs:Int)*2=((bs*2:Nat):Int);omega),by exact zA.nil⟩
    ·rw[if_neg hc3]at hg3
     subst hg3
     repeat'(first|apply zE|apply zD|apply zC|refine jg ?_ ?_|(apply ja;exact jH)|refine jf ?_|apply zB|apply zW|apply zQ|apply zT|apply zL|apply zU|exact jS|exact jW|fail)
     all_goals first
      |exact jX
      |exact⟨(bs*2,k2,Z),⟨hZ,by show 1<=bs*2;omega,by show bs*2<=2000;omega,by show N<bs*2+k2;omega,hg⟩,by show N-bs*2<N-bs;omega,(by refine⟨rfl,rfl,rfl,congrArg some (congrArg I ?_),trivial⟩;show(bs:Int)*2=((bs*2:Nat):Int);omega),by exact zA.nil⟩
  ·have hg:Y=R:=by
    cases k2 with
    |zero=>exact hg
    |succ k=>unfold stO at hg;rw[if_neg hbN]at hg;exact hg
   subst hg
   repeat'(first|apply zE|apply zD|apply zC|refine jg ?_ ?_|refine jf ?_|apply zB|apply zW|apply zT|apply zU|exact jS|fail)
   all_goals first|exact jX|(apply qQ;(exact(show zO _ _ _ _ [] from trivial));exact⟨rfl,rfl⟩;(focus repeat(first|with_reducible exact zA.nil|with_reducible apply zA.c|with_reducible apply zA.drop)))
theorem yBg (N A fl:Nat)(L:List Vr)(h:SH)(hL:L.length=N)(hN:N<=1000) :
  zH Tryz.prog 169 [gsl A 0 (N*7) N fl,cmV] ((A,⟨zF vrF L,false⟩)::h) λr q=>r=.tuple #[]/\q=(A,⟨zF vrF (vW L),false⟩)::h:=by
 have hS:=yAh N A fl L h hL hN;refine yJ Tryz.func169 rfl rfl ?_
 repeat'(first|apply zD|apply zC|refine jg ?_ ?_|refine jq ?_ (c:=by exact⟨_,hS,jN⟩)|exact jS|fail)
 all_goals first|exact jX|(apply qQ;(exact(show zO _ _ _ _ [] from trivial));exact⟨rfl,rfl⟩;(focus repeat(first|with_reducible exact zA.nil|with_reducible apply zA.c|with_reducible apply zA.drop)))
theorem zVy (ad:Option Addr)(fl:Nat)(h:SH):zH Tryz.prog 286 [.slice ad 0 fl,I 0,I 0,cmV] h λr q=>r=.tuple #[]/\q=h:=by
 refine mT Tryz.func286 rfl rfl ?_
 repeat'(first|apply zE|apply zD|apply zC|refine jg ?_ ?_|(apply ja;exact jH)|apply zB|apply zM|exact jS|exact jW|fail)
 all_goals try exact jX
 refine yH (S:=Unit) (λ_=>[(0,.slice ad 0 fl),(1,I 0),(2,I 0),(3,cmV),(8,I 1)]) (λ_=>h) (λ_=>True) (λ_=>0) () trivial jB jK ?_;rintro - -
 repeat'(first|apply zE|apply zD|apply zC|refine jg ?_ ?_|(apply zX;exact rfl)|apply zB|apply zW|apply zT|apply zU|exact jS|fail)
 all_goals first|exact jX|(apply qQ;(exact(show zO _ _ _ _ [] from trivial));exact⟨rfl,rfl⟩;(focus repeat(first|with_reducible exact zA.nil|with_reducible apply zA.c|with_reducible apply zA.drop)))
theorem yBh (ad:Option Addr)(fl:Nat)(h:SH):zH Tryz.prog 226 [.slice ad 0 fl,I 0,cmV] h λr q=>r=.tuple #[]/\q=h:=by
 have hI:=λh=>zVy ad fl h;refine wF Tryz.func226 rfl rfl ?_
 repeat'(first|apply zE|apply zD|apply zC|refine jg ?_ ?_|apply zB|apply zM|exact jS|fail)
 all_goals try exact jX
 refine yH (S:=Unit) (λ_=>[(0,.slice ad 0 fl),(1,I 0),(2,cmV),(6,I 20),(7,I 0),(8,I 20)]) (λ_=>h) (λ_=>True) (λ_=>0) () trivial jB jK ?_;rintro - -
 repeat'(first|apply zE|apply zD|apply zC|refine jg ?_ ?_|(refine jc ?_ (c:=by exact⟨_,hI _,jN⟩);rintro _ _ ⟨rfl,rfl⟩)|(apply zX;exact rfl)|apply zB|apply zW|apply zT|apply zU|apply zM|exact jS|fail)
 all_goals try exact jX
 rename SH=>h;refine yH (S:=Unit) (λ_=>[(0,.slice ad 0 fl),(1,I 0),(2,cmV),(6,I 20)]) (λ_=>h) (λ_=>True) (λ_=>0) () trivial jB jK ?_;rintro - -
 repeat'(first|apply zE|apply zD|apply zC|refine jg ?_ ?_|(apply zX;exact rfl)|apply zB|apply zW|apply zT|apply zU|exact jS|fail)
 all_goals first|exact jX|(apply qQ;(exact(show zO _ _ _ _ [] from trivial));exact⟨rfl,rfl⟩;(focus repeat(first|with_reducible exact zA.nil|with_reducible apply zA.c|with_reducible apply zA.drop)))
theorem zIn (ad:Option Addr)(fl:Nat)(h:SH):zH Tryz.prog 169 [.slice ad 0 fl,cmV] h λr q=>r=.tuple #[]/\q=h:=by
 have hS:=λh=>yBh ad fl h;refine yJ Tryz.func169 rfl rfl ?_
 repeat'(first|apply zD|apply zC|refine jg ?_ ?_|refine jq ?_ (c:=by exact⟨_,hS _,jN⟩)|exact jS|fail)
 all_goals first|exact jX|(apply qQ;(exact(show zO _ _ _ _ [] from trivial));exact⟨rfl,rfl⟩;(focus repeat(first|with_reducible exact zA.nil|with_reducible apply zA.c|with_reducible apply zA.drop)))

def xN (ss:List Scp):POS:=wlk ss ss.length (-1) 0 ([],[(-1,-1)])
theorem zZk (v:Value)(p:Int)(h:SH)(hv:∃ad n fl,v=.slice ad n fl):zH Tryz.prog 167 [v,I p] h λr q=>∃bs bp,r=.func (.func 224) #[] #[zG bs 0 1,zG bp 0 1]/\q=(bp,⟨[I p],false⟩)::(bs,⟨[v],false⟩)::h:=by
 obtain⟨ad,n,fl,rfl⟩:=hv;refine yJ Tryz.func167 rfl rfl ?_
 repeat'(first|apply zE|apply zD|apply zC|refine jg ?_ ?_|refine jx ?_|(apply rK;iterate 3 exact rfl)|apply zB|apply zJ|exact jS|intro A)
 all_goals first|exact jX|exact jF (k:=by exact⟨_,_,rfl,rfl⟩)
theorem yGy (ss:List Scp)(A bs bp b2 b9 b10 mp fl:Nat)(ad:Option Addr)(h:SH)(hv:Has h (zF scF ss) 3 ss.length (.slice ad ss.length fl))(hl:ss.length<=32)(hd:gJ ss) :
  zH Tryz.prog 224 [.chan (some A),zG bs 0 1,zG bp 0 1] ((A,orL 0 b2 b9 b10)::(bp,⟨[I (-1)],false⟩)::(bs,⟨[.slice ad ss.length fl],false⟩)::orG b2 b9 b10 mp ss.length fl ad [(-1,-1)] (.slice none 0 0) h)
   λ_ q=>∃g,q=(A,orL 0 b2 b9 b10)::g/\∃u' q',g=orG b2 b9 b10 mp ss.length fl ad (xN ss).2 u' q'/\GrR scF 3 h (xN ss).1 u' q':=by
 have hW:=yJc ss A b2 b9 b10 mp fl ad h hv (by omega) hd ss.length (-1) 0 ([],[(-1,-1)]) (.slice none 0 0) h rfl (by omega) (by
  show 0+2^ss.length<=8589934592;have:2^ss.length<=2^32:=Nat.pow_le_pow_right (by decide) hl;omega) .nil
 have hW:zH Tryz.prog 225 [.slice ad ss.length fl,I (-1),.chan (some A)] ((A,orL 0 b2 b9 b10)::orG b2 b9 b10 mp ss.length fl ad [(-1,-1)] (.slice none 0 0) h) λr q2=>r=B true/\∃u' q',q2=(A,orL 0 b2 b9 b10)::orG b2 b9 b10 mp ss.length fl ad (xN ss).2 u' q'/\GrR scF 3 h (xN ss).1 u' q':=hW;refine wF Tryz.func224 rfl rfl ?_
 repeat'(first|apply zD|apply zC|refine jg ?_ ?_|(apply jm;exact jI)|(refine jc ?_ (c:=by exact⟨_,hW,jK⟩);rintro _ _ ⟨rfl,u',q',rfl,hG⟩)|exact jS|exact jL|exact jE|exact True.intro|exact rfl)
 all_goals first|exact jX|(apply qQ;(exact(show zO _ _ _ _ [] from trivial));exact⟨_,rfl,u',q',rfl,hG⟩;exact jT)
def zRa (x:Vr)(n:Int):Vr:=(x.1,x.2.1,n,x.2.2.2)
def qW (ss:List Scp)(vs:List Vr):List Vr:=vs.map λx=>zRa x (sR (xN ss).2 x.2.2.1)
def yE (ss:List Scp)(vs:List Vr):List Int × List Vr:=sT (vW (qW ss vs))
theorem aR {ss:List Scp}{vs:List Vr}:(yE ss vs).2.length=vs.length/\(yE ss vs).1.length<=vs.length:=by
 have:=@yLq (vW (qW ss vs));rw[zFh]at this;unfold qW at this;rw[List.length_map]at this;exact this
def osl (z:Bool)(A x n f:Nat):Value:=match z with
 |true=>.slice none 0 0
 |false=>gsl A 0 x n f
def obl (z:Bool)(A:Nat)(c:List Value):SH:=match z with
 |true=>[]
 |false=>[(A,⟨c,false⟩)]
theorem zJx {A w n:Nat}:os A w n=osl (decide (n=0)) A (n*w) n w:=by
 by_cases h:n=0
 ·subst h;rfl
 ·rw[decide_eq_false h,vN h];rfl
theorem zKn {A n:Nat}{c:List Value}:ob A c n=obl (decide (n=0)) A c:=by
 by_cases h:n=0
 ·subst h;rfl
 ·rw[decide_eq_false h,wJ h];rfl
def OrdR (ss:List Scp)(vs:List Vr)(z:Bool)(h:SH)(r:Value)(q:SH):Prop:=∃A B C,
 r=.tuple #[osl (decide ((xN ss).1.length=0)) A ((xN ss).1.length*3) (xN ss).1.length 3,osl z B (vs.length*7) vs.length 7,osl (decide ((yE ss vs).1.length=0)) C ((yE ss vs).1.length*1) (yE ss vs).1.length 1,I 0] /\
 q=obl (decide ((yE ss vs).1.length=0)) C (zF iF (yE ss vs).1)++(obl z B (zF vrF (yE ss vs).2)++(obl (decide ((xN ss).1.length=0)) A (zF scF (xN ss).1)++h))
theorem yBt (ss:List Scp)(vs:List Vr)(v w:Value)(h:SH)(hv:Has h (zF scF ss) 3 ss.length v)(hw:Has h (zF vrF vs) 7 vs.length w)(hl:ss.length<=1000)(hl2:vs.length<=1000)
  (hs:∀c∈ss,c.1.length<=1000) (hr:∀c∈vs,c.1.length<=1000) (he:chk ss vs≠0) :
  zH Tryz.prog 102 [v,w] h λr q=>r=.tuple #[.slice none 0 0,.slice none 0 0,.slice none 0 0,I (chk ss vs)]/\q=h:=by
 have hC:=λh hv hw=>zHy ss vs v w h hv hw hl hl2 hs hr;obtain⟨ad,fl,rfl,-⟩:=id hv;obtain⟨ad2,fl2,rfl,hh2⟩:=id hw;generalize chk ss vs=e at *;refine yJ Tryz.func102 rfl rfl ?_
 repeat'(first|apply zE|apply zD|apply zC|refine jg ?_ ?_|(apply jm;exact jI)|refine jx ?_|(apply zZ;exact rfl;exact rfl;exact rfl;exact rfl;exact⟨_,hC _ (hv.re jD) (hw.re jD),zA.nil⟩;rintro _ _ ⟨rfl,rfl⟩)|refine jd ?_|apply zB|apply zV|apply zJ|exact jS|exact jL|exact jE|exact True.intro|intro A|exact rfl)
 all_goals first|exact jX|(apply yA;(exact(show zO _ _ _ _ [_,_,_,_] from⟨rfl,⟨rfl,⟨rfl,⟨rfl,trivial⟩⟩⟩⟩));exact⟨rfl,rfl⟩;exact jT)
theorem yFp {ss:List Scp}{vs:List Vr}(g:chk ss vs=0):ss.length<=32/\gJ ss:=by
 unfold chk at g;by_cases h0:32<ss.length\/128<vs.length
 ·rw[if_pos h0]at g;exact absurd g (by decide)
 ·rw[if_neg h0]at g
  by_cases h1:dcl ss vs=false
  ·rw[if_pos h1]at g;exact absurd g (by decide)
  ·exact⟨by omega,zPs (by simpa using h1)⟩
theorem yCw (ss:List Scp)(vs:List Vr)(v:Value)(ad2:Option Addr)(fl2:Nat)(h:SH)(hv:Has h (zF scF ss) 3 ss.length v)(hw:Has h (zF vrF vs) 7 vs.length (.slice ad2 vs.length fl2))(hl:ss.length<=1000)(hl2:vs.length<=1000)
  (hs:∀c∈ss,c.1.length<=1000) (hr:∀c∈vs,c.1.length<=1000) (he:chk ss vs=0) :
  zH Tryz.prog 102 [v,.slice ad2 vs.length fl2] h (OrdR ss vs ad2.isNone h):=by
 have hC:=λh hv hw=>zHy ss vs v (.slice ad2 vs.length fl2) h hv hw hl hl2 hs hr;rw[he]at hC;obtain⟨hl32,hd⟩:=yFp he;obtain⟨ad,fl,rfl,-⟩:=id hv;obtain⟨_,_,e,hh2⟩:=id hw;cases e;have hPr:=λh=>zZk (.slice ad ss.length fl) (-1) h ⟨_,_,_,rfl⟩;refine zQk Tryz.func102 rfl rfl ?_;refine uF (uE ?_)
 repeat'(first|apply zD|apply zC|refine jg ?_ ?_|refine jx ?_|apply zB|exact jS|intro A)
 refine uF (uE ?_)
 repeat'(first|apply zE|apply zD|apply zC|refine jg ?_ ?_|(apply jm;exact jI)|(apply zZ;exact rfl;exact rfl;exact rfl;exact rfl;exact⟨_,hC _ (hv.re jD) (hw.re jD),zA.nil⟩;rintro _ _ ⟨rfl,rfl⟩)|(apply zX;exact rfl)|apply zB|apply zL|exact jS|exact jL|exact jE|exact True.intro|exact rfl)
 rename SH=>h;obtain⟨b2,rfl⟩:∃m,m=A:=⟨_,rfl⟩;refine uF (uE ?_)
 repeat'(first|apply zD|apply zC|refine jy ?_|apply zB|intro A)
 obtain⟨b9,rfl⟩:∃m,m=A:=⟨_,rfl⟩;refine uF (uE ?_)
 repeat'(first|apply zD|apply zC|refine jg ?_ ?_|(apply yV zK;(iterate 4 exact rfl);exact up)|refine jy ?_|(apply eN;exact rfl)|(apply zWa (α:=Int);exact rfl;exact up;exact rfl;exact rfl;exact Tryz.underlying97;exact Tryz.underlying3;exact sI)|apply zB|exact jS|exact jL|((with_reducible apply Se.mk);first|(focus(repeat(first|exact yD.zero));done))|exact True.intro|intro A)
 rename_i mp;obtain⟨b10,rfl⟩:∃m,m=A:=⟨_,rfl⟩;refine uF (uF (uE ?_))
 repeat'(first|apply zD|apply zC|(apply jm;exact jI)|(refine jc ?_ (c:=by exact⟨_,hPr _,jN⟩);rintro _ _ ⟨bs,bp,rfl,rfl⟩)|apply zB|exact jL|exact jE|exact True.intro|exact rfl)
 refine zIh (zTc (b:=orB b2 b9 b10) rfl (by kernel_rfl) (aI Tryz.func102 rfl rfl) ⟨rfl,rfl,rfl,trivial⟩ (λx hx=>by
  simp only[List.mem_cons,List.not_mem_nil,or_false]at hx;rcases hx with rfl|rfl|rfl
  ·exact(show 2<70 by decide)
  ·exact(show 9<70 by decide)
  ·exact(show 10<70 by decide)) (λA=>zH.take (by unfold orG;exact(by repeat(first|with_reducible exact zA.nil|with_reducible apply zA.c|((with_reducible apply zA.cE);first|exact rfl|(apply pL;(focus first|exact rfl|exact uZ rfl|exact pI rfl|exact congrArg (λv=>[v]) (vR rfl rfl (by first|rfl|exact ‹_›|omega|(simp ;first|done|omega)) (by first|rfl|exact ‹_›|omega|(simp ;first|done|omega)) rfl))))|with_reducible apply zA.drop|with_reducible apply zA.pre|with_reducible apply zA.drops))) (yGy ss A bs bp b2 b9 b10 mp fl ad h hv hl32 hd)) ?_)
 rintro g ⟨u,q',rfl,hG⟩;apply zQ;apply zB;refine uE ?_;have hwq:=hw.re hG.tk;obtain⟨adu,flu,hus⟩:=hG.sl;obtain⟨A1,hu,hq⟩:=hG.own;rw[zJx]at hu;rw[zKn]at hq;have hq2:∀B,(B,(⟨[],false⟩:Blk))::q'=(B,(⟨[],false⟩:Blk))::(obl (decide ((xN ss).1.length=0)) A1 (zF scF (xN ss).1)++h):=λB=>by rw[hq]
 rw[hus]at hu;subst hus;unfold orG;by_cases hN0:vs.length=0
 ·have hvs:vs=[]:=List.length_eq_zero_iff.1 hN0
  subst hvs;cases ad2 with
  |none =>
   repeat'(first|apply zE|apply zD|apply zC|refine jg ?_ ?_|(refine jc ?_ (c:=by exact⟨_,yBv _ _,jN⟩);rintro _ _ ⟨rfl,rfl⟩)|apply zB|apply zM|exact jS|fail)
   all_goals try exact jX
   refine yH (S:=Unit) (λ_=>[(9,zG b9 0 1),(10,zG b10 0 1),(13,.slice none 0 0),(47,I 0),(48,I 0)]) (λ_=>(b9,⟨[.slice adu (xN ss).1.length flu],false⟩)::(b10,⟨[.map (some mp)],false⟩)::(mp,⟨xK kI (ivl (xN ss).2),false⟩)::(b2,⟨[.slice ad ss.length fl],false⟩)::q') (λ_=>True) (λ_=>0) () trivial jB (by exact zA.nil) ?_;rintro - -
   repeat'(first|apply zE|apply zD|apply zC|refine jg ?_ ?_|(apply jm;exact jI)|(refine jc ?_ (c:=by exact⟨_,zIn _ _ _,jN⟩);rintro _ _ ⟨rfl,rfl⟩)|(refine jc ?_ (c:=by exact⟨_,zVv _ _ _,jN⟩);rintro _ _ ⟨rfl,rfl⟩)|(apply zX;exact rfl)|apply zB|apply zW|apply zT|apply zJ|apply zU|exact jS|exact jL|exact jE|exact True.intro|exact rfl)
   all_goals first|exact jX|(apply yA;(exact(show zO _ _ _ _ [_,_,_,_] from⟨rfl,⟨rfl,⟨rfl,⟨rfl,trivial⟩⟩⟩⟩));exact⟨A1,0,0,by rw[hu];rfl,hq⟩;exact jT)
  |some x =>
   repeat'(first|apply zE|apply zD|apply zC|refine jg ?_ ?_|(refine jc ?_ (c:=by exact⟨_,yAd _ _ _,jN⟩);rintro _ _ ⟨B,rfl,rfl⟩)|apply zB|apply zM|exact jS|fail)
   all_goals try exact jX
   refine yH (S:=Unit) (λ_=>[(9,zG b9 0 1),(10,zG b10 0 1),(13,gsl B 0 (0*7) 0 7),(47,I 0),(48,I 0)]) (λ_=>(B,⟨[],false⟩)::(b9,⟨[.slice adu (xN ss).1.length flu],false⟩)::(b10,⟨[.map (some mp)],false⟩)::(mp,⟨xK kI (ivl (xN ss).2),false⟩)::(b2,⟨[.slice ad ss.length fl],false⟩)::q') (λ_=>True) (λ_=>0) () trivial jB (by exact zA.nil) ?_;rintro - -
   repeat'(first|apply zE|apply zD|apply zC|refine jg ?_ ?_|(apply jm;exact jI)|(refine jc ?_ (c:=by exact⟨_,zIn _ _ _,jN⟩);rintro _ _ ⟨rfl,rfl⟩)|(refine jc ?_ (c:=by exact⟨_,zVv _ _ _,jN⟩);rintro _ _ ⟨rfl,rfl⟩)|(apply zX;exact rfl)|apply zB|apply zW|apply zT|apply zJ|apply zU|exact jS|exact jL|exact jE|exact True.intro|exact rfl)
   all_goals first|exact jX|(apply yA;(exact(show zO _ _ _ _ [_,_,_,_] from⟨rfl,⟨rfl,⟨rfl,⟨rfl,trivial⟩⟩⟩⟩));exact⟨A1,B,0,by rw[hu];rfl,hq2 B⟩;exact jT)
 ·obtain⟨N,hN⟩:∃N,vs.length=N:=⟨_,rfl⟩
  obtain⟨A2,ro2,h2,rfl,hp2⟩:=hh2 hN0;obtain⟨h3,hp3,_⟩:=hG.tk.pick hp2;obtain⟨M,hM⟩:∃M,(xN ss).2=M:=⟨_,rfl⟩;rw[hM];have hCl:=λh h1 hp=>yCz N A2 fl2 ro2 vs h h1 hp hN (by omega) (by omega);rw[hN]
  repeat'(first|apply zE|apply zD|apply zC|refine jg ?_ ?_|(apply zZ;exact rfl;exact rfl;exact rfl;exact rfl;exact⟨_,hCl _ _ pk,zA.nil⟩;rintro _ _ ⟨B,rfl,rfl⟩)|apply zB|apply zM|exact jS|fail)
  all_goals try exact jX
  obtain⟨f,hf⟩:∃f:Vr->Vr,f=λx=>zRa x (sR M x.2.2.1):=⟨_,rfl⟩;have hLs:vs.map f=qW ss vs:=by rw[hf,<-hM];rfl
  have hLl:(vs.map f).length=N:=by rw[List.length_map];exact hN
  refine yH (S:=Nat) (λj=>[(9,zG b9 0 1),(10,zG b10 0 1),(13,gsl B 0 (N*7) N 7),(47,I N),(48,I j)]) (λj=>(B,⟨zF vrF ((vs.take j).map f++vs.drop j),false⟩)::(b9,⟨[.slice adu (xN ss).1.length flu],false⟩)::(b10,⟨[.map (some mp)],false⟩)::(mp,⟨xK kI (ivl M),false⟩)::(b2,⟨[.slice ad ss.length fl],false⟩)::q') (λj=>j<=N) (λj=>N-j) 0 (Nat.zero_le _) jB (by exact zA.nil) ?_;intro j hj;by_cases hjN:j<N
  ·rw[zAy (by omega)]
   have hPl:((vs.take j).map f).length=j:=by rw[List.length_map,List.length_take];omega
   have hXl:((vs.take j).map f++vs[j]!::vs.drop (j+1)).length=N:=by rw[List.length_append,hPl,List.length_cons,List.length_drop];omega
   have hXr:=qJ hXl;have hXj:((vs.take j).map f++vs[j]!::vs.drop (j+1))[j]! = vs[j]!:=eW hPl;have hXc:(zF vrF ((vs.take j).map f++vs[j]!::vs.drop (j+1)))[0+((j:Int)).toNat*7+2]?=some (I vs[j]!.2.2.1) :=
    vL (λ_=>rfl) (by omega) (by decide) (by rw[hXj];rfl)
   have hXs:yD (zF vrF ((vs.take j).map f++vs[j]!::vs.drop (j+1))) (0+((j:Int)).toNat*7+2) (I (sR M vs[j]!.2.2.1)) (zF vrF ((vs.take (j+1)).map f++vs.drop (j+1))):=by
    have e:(vs.take (j+1)).map f++vs.drop (j+1)=((vs.take j).map f++vs[j]!::vs.drop (j+1)).set j (f vs[j]!):=by rw[iR (by omega),iH hPl]
    rw[e];exact oH (w:=7) (λ_=>rfl) (by omega) (by decide) (by rw[hXj,hf];rfl)
   have hlk:(wM (ivl M) vs[j]!.2.2.1).getD (I 0)=I (sR M vs[j]!.2.2.1):=zNj;generalize (vs.take j).map f++vs[j]!::vs.drop (j+1)=X at *;obtain⟨X2,hX2⟩:∃Z,(vs.take (j+1)).map f++vs.drop (j+1)=Z:=⟨_,rfl⟩;rw[hX2]at hXs
   repeat'(first|apply zE|apply zD|apply zC|refine jr ?_|(apply yEc (α:=Int) zK;exact rfl;exact pk;exact rfl;exact Tryz.underlying97;exact Tryz.underlying3;exact sI;exact rfl;exact rfl;exact hlk)|refine jg ?_ ?_|(apply ja;exact jH)|(apply jm;exact jI)|(apply yV zK;(iterate 4 exact rfl);exact up)|refine jd ?_|apply zB|apply zQ|apply zL|apply zM|exact jO|((with_reducible apply Ln.mk);first|rfl|omega)|exact jW|((with_reducible apply Ce.mk);first|rfl|exact hXc)|((with_reducible apply Se.mk);first|exact hXs)|exact True.intro|exact Or.inl rfl|apply And.intro|exact rfl)
   all_goals first
    |exact jX
    |exact⟨j+1,hjN,by show N-(j+1)<N-j;omega,jB,by rw[hX2];exact zA.nil⟩
  ·rw[List.take_of_length_le (by omega),List.drop_of_length_le (by omega),List.append_nil,hLs]
   rw[hLs]at hLl;have hSl:(vW (qW ss vs)).length=N:=by rw[zFh];exact hLl
   have hSo:=yBg N B 7 (qW ss vs);have hNb:=λh=>(yPk N B 7 (vW (qW ss vs)) h hSl (by omega)).mono λr q g=>g.own;have hq3:∀A3,ob A3 (zF iF (sT (vW (qW ss vs))).1) (sT (vW (qW ss vs))).1.length++((B,⟨zF vrF (sT (vW (qW ss vs))).2,false⟩)::q')=obl (decide ((yE ss vs).1.length=0)) A3 (zF iF (yE ss vs).1)++(obl false B (zF vrF (yE ss vs).2)++(obl (decide ((xN ss).1.length=0)) A1 (zF scF (xN ss).1)++h)):=λA3=>by
    rw[zKn,hq];rfl
   have hr3:∀A3,Value.tuple #[.slice adu (xN ss).1.length flu,gsl B 0 (N*7) N 7,os A3 1 (sT (vW (qW ss vs))).1.length,I 0]=.tuple #[osl (decide ((xN ss).1.length=0)) A1 ((xN ss).1.length*3) (xN ss).1.length 3,osl false B (vs.length*7) vs.length 7,osl (decide ((yE ss vs).1.length=0)) A3 ((yE ss vs).1.length*1) (yE ss vs).1.length 1,I 0]:=λA3=>by
    rw[hu,zJx,hN];rfl
   repeat'(first|apply zE|apply zD|apply zC|refine jg ?_ ?_|(apply jm;exact jI)|(refine jc ?_ (c:=by exact⟨_,hSo _ hLl (by omega),jN⟩);rintro _ _ ⟨rfl,rfl⟩)|(refine jc ?_ (c:=by exact⟨_,hNb _,jN⟩);rintro _ _ ⟨A3,rfl,rfl⟩)|refine jf ?_|apply zB|apply zW|apply zT|apply zJ|apply zU|exact jS|exact jL|exact jE|exact True.intro|exact rfl)
   all_goals first|exact jX|(apply yA;(exact(show zO _ _ _ _ [_,_,_,_] from⟨rfl,⟨rfl,⟨rfl,⟨rfl,trivial⟩⟩⟩⟩));exact⟨A1,B,A3,hr3 A3,hq3 A3⟩;exact jT)

def vat :List UInt8->List Chg->Int->List UInt8
 |v,[],_=>v
 |v,c::r,t=>if c.1<=t then vat c.2 r t else v
def nd :Int->List Chg->Prop
 |_,[]=>True
 |a,c::r=>a<=c.1/\nd c.1 r
def ino :Int->List Chg->Prop
 |_,[]=>True
 |a,c::r=>a<c.1/\ino c.1 r
def chn (k:Int):List UInt8->List Chg->Prop
 |_,[]=>True
 |v,c::r=>(k=3\/c.2≠v)/\chn k c.2 r
theorem sU {a b:Int}(h:a<=b){cs:List Chg}(g:nd b cs):nd a cs:=by
 cases cs with
 |nil=>trivial
 |cons c r=>exact⟨by have:=g.1;omega,g.2⟩
theorem zZe {a b:Int}(h:a<=b){cs:List Chg}(g:ino b cs):ino a cs:=by
 cases cs with
 |nil=>trivial
 |cons c r=>exact⟨by have:=g.1;omega,g.2⟩
theorem rD {cs:List Chg}:∀{a:Int},ino a cs->nd (a+1) cs:=by
 induction cs with
 |nil=>intro a _;trivial
 |cons c r ih=>intro a g;exact⟨by have:=g.1;omega,sU (by omega) (ih g.2)⟩
theorem aP {v:List UInt8}{a t:Int}{cs:List Chg}(g:nd a cs)(h:t<a):vat v cs t=v:=by
 cases cs with
 |nil=>rfl
 |cons c r=>exact if_neg (by have:=g.1;omega)
theorem zCb {cs:List Chg}:∀{a:Int},nd a cs->∀c∈cs,a<=c.1:=by
 induction cs with
 |nil=>intro a _ c h;cases h
 |cons d r ih =>
  intro a g c h;rcases List.mem_cons.1 h with rfl|h
  ·exact g.1
  ·have:=ih g.2 c h;have:=g.1;omega
theorem iN {cs:List Chg}{a:Int}(g:ino a cs):∀c∈cs,a<c.1:=λc h=>by have:=zCb (rD g) c h;omega
theorem oZ (k:Int){cs:List Chg}:∀(v:List UInt8) (a:Int),nd (a+1) cs->ino a (nrm k v cs):=by
 induction cs with
 |nil=>intro v a _;trivial
 |cons c r ih =>
  intro v a h;obtain⟨h1,h2⟩:=h;unfold nrm;split
  ·exact zZe (show a<=c.1-1 by omega) (ih v (c.1-1) (by rw[Int.sub_add_cancel];exact h2))
  ·rename_i g
   refine⟨by omega,ih c.2 c.1 ?_⟩;cases r with
   |nil=>trivial
   |cons d r =>
    have hd:¬d.1=c.1:=λe=>g (.inl (decide_eq_true e));exact⟨by have:=h2.1;omega,h2.2⟩
theorem bI (k:Int){cs:List Chg}:∀(v:List UInt8),chn k v (nrm k v cs):=by
 induction cs with
 |nil=>intro v;trivial
 |cons c r ih =>
  intro v;unfold nrm;split
  ·exact ih v
  ·rename_i g
   refine⟨?_,ih c.2⟩;by_cases hk:k=3
   ·exact .inl hk
   ·exact .inr λe=>g (.inr ⟨hk,e⟩)
theorem yAz (k:Int){cs:List Chg}:∀(v:List UInt8) (a:Int),ino a cs->chn k v cs->nrm k v cs=cs:=by
 induction cs with
 |nil=>intros;rfl
 |cons c r ih =>
  intro v a h g;obtain⟨h1,h2⟩:=h;obtain⟨g1,g2⟩:=g;unfold nrm;rw[if_neg,ih c.2 c.1 h2 g2];rintro(e|⟨e1,e2⟩)
  ·cases r with
   |nil=>exact Bool.noConfusion e
   |cons d r=>have:=of_decide_eq_true e;have:=h2.1;omega
  ·rcases g1 with g1|g1
   ·exact e1 g1
   ·exact g1 e2
theorem sX (k:Int){cs:List Chg}:∀(v:List UInt8),∀c∈nrm k v cs,c∈cs:=by
 induction cs with
 |nil=>intro v c h;cases h
 |cons d r ih =>
  intro v c h;unfold nrm at h;split at h
  ·exact List.mem_cons_of_mem _ (ih v c h)
  ·rcases List.mem_cons.1 h with rfl|h
   ·exact List.mem_cons_self
   ·exact List.mem_cons_of_mem _ (ih d.2 c h)
theorem zAt {k:Int}(hk:k≠3){cs:List Chg}:∀(v:List UInt8) (a t:Int),nd a cs->vat v (nrm k v cs) t=vat v cs t:=by
 induction cs with
 |nil=>intros;rfl
 |cons c r ih =>
  intro v a t h;obtain⟨h1,h2⟩:=h;unfold nrm;split
  ·rename_i g
   rw[ih v c.1 t h2];show _=if _ then _ else _
   rcases g with g|⟨-,g⟩
   ·cases r with
    |nil=>exact Bool.noConfusion g
    |cons d r =>
     have e:d.1=c.1:=of_decide_eq_true g;show(if d.1<=t then _ else _)=if c.1<=t then(if d.1<=t then _ else _)else _
     rw[e];split
     ·rfl
     ·rfl
   ·split
    ·rw[g]
    ·exact aP h2 (by omega)
  ·show(if _ then _ else _)=if _ then _ else _
   split
   ·exact ih c.2 c.1 t h2
   ·rfl
theorem zYf {k m:Int}(hk:k≠3){cs:List Chg}:∀{ds:List Chg} (v:List UInt8) (a:Int),ino a cs->ino a ds->chn k v cs->chn k v ds->(∀c∈cs,c.1<=m)->(∀c∈ds,c.1<=m) ->
  (∀t,a<t->t<=m->vat v cs t=vat v ds t)->cs=ds:=by
 have self:∀(v:List UInt8) (c:Chg) (r:List Chg),ino c.1 r->vat v (c::r) c.1=c.2:=λv c r h=>by
  show(if c.1<=c.1 then _ else _)=_;rw[if_pos (Int.le_refl _)];exact aP (rD h) (by omega)
 induction cs with
 |nil =>
  intro ds v a _ h2 _ g2 _ b2 he;cases ds with
  |nil=>rfl
  |cons d s =>
   have:=he d.1 h2.1 (b2 d List.mem_cons_self);rw[self v d s h2.2]at this;rcases g2.1 with g|g
   ·exact absurd g hk
   ·exact absurd this.symm g
 |cons c r ih =>
  intro ds v a h1 h2 g1 g2 b1 b2 he;have hc:=g1.1.resolve_left hk;cases ds with
  |nil =>
   have:=he c.1 h1.1 (b1 c List.mem_cons_self);rw[self v c r h1.2]at this;exact absurd this hc
  |cons d s =>
   have hd:=g2.1.resolve_left hk;have e1:=he c.1 h1.1 (b1 c List.mem_cons_self);have e2:=he d.1 h2.1 (b2 d List.mem_cons_self);rw[self v c r h1.2]at e1;rw[self v d s h2.2]at e2;have ht:c.1=d.1:=by
    rcases Int.lt_trichotomy c.1 d.1 with q|q|q
    ·rw[show vat v (d::s) c.1=v from if_neg (by omega)]at e1
     exact absurd e1 hc
    ·exact q
    ·rw[show vat v (c::r) d.1=v from if_neg (by omega)]at e2
     exact absurd e2.symm hd
   rw[ht,self v d s h2.2]at e1;have hcd:c=d:=Prod.ext ht e1;subst hcd;rw[ih c.2 c.1 h1.2 h2.2 g1.2 g2.2 (λx hx=>b1 x (List.mem_cons_of_mem _ hx)) (λx hx=>b2 x (List.mem_cons_of_mem _ hx)) ?_];intro t q1 q2;have:=he t (by have:=h1.1;omega) q2;rw[show vat v (c::r) t=vat c.2 r t from if_pos (by omega),show vat v (c::s) t=vat c.2 s t from if_pos (by omega)]at this;exact this
theorem zBk {cs:List Chg}:∀{a:Int},ino a cs->srt cs:=by
 induction cs with
 |nil=>intro a _ x y _ h;exact absurd h (Nat.not_lt_zero _)
 |cons c r ih =>
  intro a g x y h1 h2;obtain⟨y,rfl⟩:∃z,y=z+1:=⟨y-1,by omega⟩;rw[List.length_cons]at h2;have hy:(c::r)[y+1]! = r[y]!:=by rw[getElem!_pos _ _ (by rw[List.length_cons];omega),getElem!_pos r y (by omega)];rfl
  rw[hy];cases x with
  |zero =>
   show c.1<_;exact iN g.2 _ (xD (by omega))
  |succ x =>
   have hx:(c::r)[x+1]! = r[x]!:=by rw[getElem!_pos _ _ (by rw[List.length_cons];omega),getElem!_pos r x (by omega)];rfl
   rw[hx];exact ih g.2 x y (by omega) (by omega)
theorem yJb {cs:List Chg}:∀(v:List UInt8) (a t:Int),nd a cs->vat v cs t=if fi (t+1) cs=0 then v else cs[fi (t+1) cs-1]!.2:=by
 induction cs with
 |nil=>intros;rfl
 |cons c r ih =>
  intro v a t g;show(if c.1<=t then _ else _)=_;unfold fi;by_cases h:c.1<=t
  ·rw[if_pos h,List.takeWhile_cons_of_pos (by rw[decide_eq_true_eq];omega),List.length_cons,if_neg (by omega),ih c.2 c.1 t g.2,Nat.add_sub_cancel]
   show(if fi (t+1) r=0 then _ else _)=(c::r)[fi (t+1) r]!.2;have hle:fi (t+1) r<=r.length:=by unfold fi;exact(List.takeWhile_prefix _).length_le
   generalize fi (t+1) r=n at *;cases n with
   |zero=>rfl
   |succ n =>
    rw[if_neg (by omega),getElem!_pos (c::r) (n+1) (by rw[List.length_cons];omega),Nat.add_sub_cancel,getElem!_pos r n (by omega)];rfl
  ·rw[if_neg h,List.takeWhile_cons_of_neg (by rw[decide_eq_true_eq];omega)]
   rfl
theorem zAm {k w:Int}(hk:k≠3){cs:List Chg}{a:Int}(g:nd a cs)(t:Int):atv k w cs t=vat (ini k w) cs t:=by
 rw[yJb (ini k w) a t g];unfold atv;by_cases h:fi (t+1) cs=0
 ·rw[if_pos h,if_pos (.inr h)]
 ·rw[if_neg h,if_neg (by rintro(g|g);exact hk g;exact h g)]
theorem dH {k w:Int}{cs:List Chg}:∀{a:Int},nzl k w a cs=true↔nd a cs/\∀c∈cs,c.1<=1099511627776/\vok k w c.2=true:=by
 induction cs with
 |nil=>intro a;exact⟨λ_=>⟨trivial,λc h=>by cases h⟩,λ_=>rfl⟩
 |cons c r ih =>
  intro a;show((_ && _) && _)=true↔_;rw[Bool.and_eq_true,Bool.and_eq_true,decide_eq_true_eq,ih];constructor
  ·rintro⟨⟨⟨h1,h2⟩,h3⟩,h4,h5⟩
   exact⟨⟨h1,h4⟩,λx hx=>by
    rcases List.mem_cons.1 hx with rfl|hx
    ·exact⟨h2,h3⟩
    ·exact h5 x hx⟩
  ·rintro⟨⟨h1,h4⟩,h5⟩
   obtain⟨h2,h3⟩:=h5 c List.mem_cons_self;exact⟨⟨⟨h1,h2⟩,h3⟩,h4,λx hx=>h5 x (List.mem_cons_of_mem _ hx)⟩
theorem zHn {k w:Int}{cs:List Chg}:∀{a:Int} {v:List UInt8},svl k w a v cs=true↔ino a cs/\chn k v cs/\∀c∈cs,c.1<=1099511627776/\vok k w c.2=true:=by
 induction cs with
 |nil=>intro a v;exact⟨λ_=>⟨trivial,trivial,λc h=>by cases h⟩,λ_=>rfl⟩
 |cons c r ih =>
  intro a v;show((_ && (_ && _)) && _)=true↔_;rw[Bool.and_eq_true,Bool.and_eq_true,Bool.and_eq_true,decide_eq_true_eq,decide_eq_true_eq,ih];constructor
  ·rintro⟨⟨⟨h1,h2⟩,h3,h6⟩,h4,h7,h5⟩
   exact⟨⟨h1,h4⟩,⟨h6,h7⟩,λx hx=>by
    rcases List.mem_cons.1 hx with rfl|hx
    ·exact⟨h2,h3⟩
    ·exact h5 x hx⟩
  ·rintro⟨⟨h1,h4⟩,⟨h6,h7⟩,h5⟩
   obtain⟨h2,h3⟩:=h5 c List.mem_cons_self;exact⟨⟨⟨h1,h2⟩,h3,h6⟩,h4,h7,λx hx=>h5 x (List.mem_cons_of_mem _ hx)⟩
def scl (p:Int)(cs:List Chg):List Chg:=cs.map λc=>(c.1*p,c.2)
theorem lE {p a b:Int}(hp:1<=p):a*p<b*p↔a<b:=⟨λh=>Int.lt_of_mul_lt_mul_right h (by omega),λh=>Int.mul_lt_mul_of_pos_right h (by omega)⟩
theorem tS {p a b:Int}(hp:1<=p):a*p<=b*p↔a<=b:=⟨λh=>Int.le_of_mul_le_mul_right h (by omega),λh=>Int.mul_le_mul_of_nonneg_right h (by omega)⟩
theorem zOl {p a b:Int}(hp:1<=p):a*p=b*p↔a=b:=⟨λh=>Int.eq_of_mul_eq_mul_right (by omega) h,λh=>by rw[h]⟩
theorem zVd {p a b:Int}(hp:1<=p):a*p<b*p+1↔a<b+1:=by
 rw[Int.lt_add_one_iff,Int.lt_add_one_iff];exact tS hp
theorem zWm {p:Int}{cs:List Chg}:(scl p cs).length=cs.length:=List.length_map _
theorem zPz {p:Int}(hp:1<=p){c:Chg}{r:List Chg}:nxt (c.1*p,c.2) (scl p r)=nxt c r:=by
 cases r with
 |nil=>rfl
 |cons d r=>exact decide_eq_decide.2 (zOl hp)
theorem zCx {k:Int}{v:List UInt8}{c:Chg}{r:List Chg}(h:nxt c r=true\/(k≠3/\c.2=v)):nrm k v (c::r)=nrm k v r:=if_pos h
theorem zHq {k:Int}{v:List UInt8}{c:Chg}{r:List Chg}(h:¬(nxt c r=true\/(k≠3/\c.2=v))):nrm k v (c::r)=c::nrm k c.2 r:=if_neg h
theorem yQe {p k:Int}(hp:1<=p){cs:List Chg}:∀(v:List UInt8),nrm k v (scl p cs)=scl p (nrm k v cs):=by
 induction cs with
 |nil=>intro v;rfl
 |cons c r ih =>
  intro v;show nrm k v ((c.1*p,c.2)::scl p r)=_;by_cases h:nxt c r=true\/(k≠3/\c.2=v)
  ·rw[zCx h,zCx (by rw[zPz hp];exact h),ih]
  ·rw[zHq h,zHq (by rw[zPz hp];exact h),ih];rfl
theorem zQi {α β:Type}{f:α->β}{q:β->Bool}{r:α->Bool}{l:List α}(h:∀x∈l,q (f x)=r x):(l.map f).takeWhile q=(l.takeWhile r).map f:=by
 induction l with
 |nil=>rfl
 |cons x l ih =>
  have hx:=h x List.mem_cons_self;rw[List.map_cons,List.takeWhile_cons,List.takeWhile_cons,hx];split
  ·rw[List.map_cons,ih λy hy=>h y (List.mem_cons_of_mem _ hy)]
  ·rfl
theorem yCo {p t:Int}(hp:1<=p){cs:List Chg}:fi (t*p) (scl p cs)=fi t cs:=by
 unfold fi scl;rw[zQi (f:=λc:Chg=>((c.1*p,c.2):Chg)) (q:=λc=>decide (c.1<t*p)) (r:=λc=>decide (c.1<t)) (l:=cs) (λc _=>decide_eq_decide.2 (lE hp)),List.length_map]
theorem zFs {p t:Int}(hp:1<=p){cs:List Chg}:fi (t*p+1) (scl p cs)=fi (t+1) cs:=by
 unfold fi scl;rw[zQi (f:=λc:Chg=>((c.1*p,c.2):Chg)) (q:=λc=>decide (c.1<t*p+1)) (r:=λc=>decide (c.1<t+1)) (l:=cs) (λc _=>decide_eq_decide.2 (zVd hp)),List.length_map]
theorem zVz {p:Int}{cs:List Chg}{i:Nat}(h:i<cs.length):(scl p cs)[i]! = (cs[i]!.1*p,cs[i]!.2):=by
 rw[getElem!_pos _ _ (by rw[zWm];exact h),getElem!_pos cs i h];exact List.getElem_map _
theorem kQ {t:Int}{cs:List Chg}:fi t cs<=cs.length:=by unfold fi;exact(List.takeWhile_prefix _).length_le
theorem zZv {p k w t:Int}(hp:1<=p){cs:List Chg}:atv k w (scl p cs) (t*p)=atv k w cs t:=by
 unfold atv;rw[zFs hp];split
 ·rfl
 ·rename_i h
  have:=@kQ (t+1) cs;rw[zVz (by omega)]
theorem yGm {p f:Int}(hp:1<=p){cs:List Chg}:fil (-(f*p)) (scl p cs)=scl p (fil (-f) cs):=by
 unfold fil scl;rw[List.filter_map,List.map_map,List.map_map];have hf:((λc:Chg=>decide (0<=c.1+-(f*p))) ∘ λc:Chg=>(c.1*p,c.2))=λc=>decide (0<=c.1+-f):=by
  funext c
  refine decide_eq_decide.2 ?_;show 0<=c.1*p+-(f*p)↔_;have:=@tS p f c.1 hp;omega
 rw[hf];refine List.map_congr_left λc _=>?_;show(c.1*p+-(f*p),c.2)=((c.1+-f)*p,c.2);rw[Int.add_mul,Int.neg_mul]
theorem yMx {p k w f:Int}(hp:1<=p){cs:List Chg}:shf k w (scl p cs) (f*p)=scl p (shf k w cs f):=by
 unfold shf;have h0:f*p=0↔f=0:=by
  have:=@zOl p f 0 hp;rwa [Int.zero_mul]at this
 by_cases h:f=0\/k=3
 ·rw[if_pos h,if_pos (by rcases h with h|h;exact .inl (h0.2 h);exact .inr h)]
  exact yGm hp
 ·rw[if_neg h,if_neg (by rintro(g|g);exact h (.inl (h0.1 g));exact h (.inr g)),zZv hp,zFs hp]
  unfold scl;rw[<-List.map_drop,List.map_map,List.map_cons,List.map_map,Int.zero_mul]
  congr 1
  refine List.map_congr_left λc _=>?_;show(c.1*p+-(f*p),c.2)=((c.1+-f)*p,c.2);rw[Int.add_mul,Int.neg_mul]
theorem yCt {p b:Int}(hp:1<=p){cs:List Chg}:win (scl p cs) 0 (b*p)=scl p (win cs 0 b):=by
 unfold win;have h0:=@yCo p 0 hp cs;rw[Int.zero_mul]at h0;rw[h0,zFs hp];unfold scl;rw[List.map_take,List.map_drop]

def toE (en:Int)(g:Int × Int):Int:=if g.2<=en then g.2 else 1099511627777
def xP (k w en:Int)(S:List Chg):List (Int × Int)->List Chg->List Chg
 |[],cs=>cs
 |g::r,cs=>cs.takeWhile (λc=>decide (c.1<g.1))++((g.1,ini k w)::((if g.2<=en then [(g.2,atv k w S g.2)] else []) ++
   xP k w en S r ((cs.dropWhile (λc=>decide (c.1<g.1))).dropWhile (λc=>decide (c.1<toE en g+1)))))
def gch :Int->List (Int × Int)->Prop
 |_,[]=>True
 |b,g::r=>b<g.1/\g.1<g.2/\gch g.2 r
def ing (en:Int)(ga:List (Int × Int))(t:Int):Bool:=ga.any λg=>decide (g.1<=t/\(t<g.2\/en<g.2))
theorem zEj {a b:Int}(h:a<=b){ga:List (Int × Int)}(g:gch b ga):gch a ga:=by
 cases ga with
 |nil=>trivial
 |cons x r=>exact⟨by have:=g.1;omega,g.2⟩
theorem pR {ga:List (Int × Int)}:∀{b:Int},gch b ga->∀g∈ga,b<g.1/\g.1<g.2:=by
 induction ga with
 |nil=>intro b _ g h;cases h
 |cons x r ih =>
  intro b h g hg;obtain⟨h1,h2,h3⟩:=h;rcases List.mem_cons.1 hg with rfl|hg
  ·exact⟨h1,h2⟩
  ·have:=ih h3 g hg;exact⟨by omega,this.2⟩
theorem yPr {en t b:Int}{ga:List (Int × Int)}(h:gch b ga)(ht:t<=b):ing en ga t=false:=by
 unfold ing;rw[List.any_eq_false];intro g hg;have:=(pR h g hg).1;rw[decide_eq_true_eq];omega
theorem yFv {en t:Int}{g:Int × Int}{ga:List (Int × Int)}:ing en (g::ga) t=(decide (g.1<=t/\(t<g.2\/en<g.2)) || ing en ga t):=rfl
theorem zWr {m:Int}{X:List Chg}(hX:nd m X){cs:List Chg}:∀{a:Int},nd a cs->a<=m->nd a (cs.takeWhile (λc=>decide (c.1<m))++X):=by
 induction cs with
 |nil=>intro a _ h;exact sU h hX
 |cons c r ih =>
  intro a h ha;obtain⟨h1,h2⟩:=h;rw[List.takeWhile_cons];by_cases hc:c.1<m
  ·rw[if_pos (decide_eq_true hc)]
   exact⟨h1,ih h2 (by omega)⟩
  ·rw[if_neg (by rw[decide_eq_true_eq];exact hc)]
   exact sU ha hX
theorem nT {m:Int}{cs:List Chg}:∀{a:Int},nd a cs->nd m (cs.dropWhile (λc=>decide (c.1<m))):=by
 induction cs with
 |nil=>intro a _;trivial
 |cons c r ih =>
  intro a h;obtain⟨h1,h2⟩:=h;rw[List.dropWhile_cons];by_cases hc:c.1<m
  ·rw[if_pos (decide_eq_true hc)];exact ih h2
  ·rw[if_neg (by rw[decide_eq_true_eq];exact hc)];exact⟨by omega,h2⟩
theorem kG {α:Type}{q:α->Bool}{l:List α}:∀x∈l.dropWhile q,x∈l:=λx h=>(List.dropWhile_suffix q).subset h
theorem zQo {α:Type}{q:α->Bool}{l:List α}:∀x∈l.takeWhile q,x∈l:=λx h=>(List.takeWhile_prefix q).subset h
theorem yCf {α:Type}{q:α->Bool}{l:List α}:(l.dropWhile q).length<=l.length:=(List.dropWhile_suffix q).length_le
theorem yHb {m n:Int}(h:m<=n){cs:List Chg}:(cs.dropWhile (λc=>decide (c.1<m))).dropWhile (λc=>decide (c.1<n))=cs.dropWhile (λc=>decide (c.1<n)):=by
 induction cs with
 |nil=>rfl
 |cons c r ih =>
  by_cases hc:c.1<m
  ·rw[List.dropWhile_cons_of_pos (by rw[decide_eq_true_eq];exact hc),List.dropWhile_cons_of_pos (p:=λc:Chg=>decide (c.1<n)) (by rw[decide_eq_true_eq];omega),ih]
  ·rw[List.dropWhile_cons_of_neg (by rw[decide_eq_true_eq];exact hc)]
theorem zCs {m t:Int}{X:List Chg}(hX:nd m X){cs:List Chg}:∀{v:List UInt8} {a:Int},nd a cs->vat v (cs.takeWhile (λc=>decide (c.1<m))++X) t=if t<m then vat v cs t else vat (vat v cs (m-1)) X t:=by
 induction cs with
 |nil =>
  intro v a _;show vat v X t=if t<m then v else vat v X t
  split
  ·exact aP hX (by assumption)
  ·rfl
 |cons c r ih =>
  intro v a h;obtain⟨h1,h2⟩:=h;by_cases hc:c.1<m
  ·rw[List.takeWhile_cons_of_pos (by rw[decide_eq_true_eq];exact hc)]
   show(if c.1<=t then vat c.2 (r.takeWhile _++X) t else v)=if t<m then(if c.1<=t then vat c.2 r t else v)else vat (if c.1<=m-1 then vat c.2 r (m-1)else v) X t
   rw[ih h2,if_pos (show c.1<=m-1 by omega)];by_cases ht:c.1<=t
   ·rw[if_pos ht,if_pos ht]
   ·rw[if_neg ht,if_neg ht,if_pos (by omega)]
  ·rw[List.takeWhile_cons_of_neg (by rw[decide_eq_true_eq];exact hc)]
   show vat v X t=if t<m then(if c.1<=t then vat c.2 r t else v)else vat (if c.1<=m-1 then vat c.2 r (m-1)else v) X t
   rw[if_neg (show ¬c.1<=m-1 by omega)];split
   ·rw[if_neg (by omega),aP hX (by assumption)]
   ·rfl
theorem zKk {m t:Int}(hm:m<=t+1){cs:List Chg}:∀{v:List UInt8} {a:Int},nd a cs->vat (vat v cs (m-1)) (cs.dropWhile (λc=>decide (c.1<m))) t=vat v cs t:=by
 induction cs with
 |nil=>intros;rfl
 |cons c r ih =>
  intro v a h;obtain⟨h1,h2⟩:=h;by_cases hc:c.1<m
  ·rw[List.dropWhile_cons_of_pos (by rw[decide_eq_true_eq];exact hc)]
   show vat (if c.1<=m-1 then vat c.2 r (m-1)else v) _ t=if c.1<=t then vat c.2 r t else v
   rw[if_pos (by omega),if_pos (by omega)];exact ih h2
  ·rw[List.dropWhile_cons_of_neg (by rw[decide_eq_true_eq];exact hc)]
   show vat (if c.1<=m-1 then vat c.2 r (m-1)else v) _ t=_;rw[if_neg (by omega)]
theorem zUf {en:Int}{g:Int × Int}(h:g.2<=1099511627777):g.2<=toE en g:=by unfold toE;split <;> omega
theorem cF {k w en:Int}{S:List Chg}{ga:List (Int × Int)}:∀{cs:List Chg} {a b:Int},nd a cs->gch b ga->(∀g∈ga,g.2<=1099511627777)->a<=b+1->nd a (xP k w en S ga cs):=by
 induction ga with
 |nil=>intro cs a b h _ _ _;exact h
 |cons g r ih =>
  intro cs a b h hg hb ha;obtain⟨g1,g2,g3⟩:=hg;have hge:=zUf (en:=en) (hb g List.mem_cons_self);show nd a (cs.takeWhile _++((g.1,ini k w)::((if g.2<=en then [(g.2,atv k w S g.2)] else [])++xP k w en S r _)));refine zWr (X:=(g.1,ini k w)::((if g.2<=en then [(g.2,atv k w S g.2)] else [])++xP k w en S r ((cs.dropWhile (λc=>decide (c.1<g.1))).dropWhile (λc=>decide (c.1<toE en g+1))))) ?_ h (by omega);refine⟨Int.le_refl _,?_⟩;have hZ:=ih (cs:=(cs.dropWhile (λc=>decide (c.1<g.1))).dropWhile (λc=>decide (c.1<toE en g+1))) (a:=g.2+1) (sU (by omega) (nT (nT h))) g3 (λx hx=>hb x (List.mem_cons_of_mem _ hx)) (Int.le_refl _);split
  ·exact⟨by show g.1<=g.2;omega,sU (by omega) hZ⟩
  ·exact sU (by omega) hZ
theorem fF {k w en:Int}{S:List Chg}{ga:List (Int × Int)}:∀{cs:List Chg},∀c∈xP k w en S ga cs,c∈cs\/(∃g∈ga,c=(g.1,ini k w))\/∃g∈ga,g.2<=en/\c=(g.2,atv k w S g.2):=by
 induction ga with
 |nil=>intro cs c h;exact .inl h
 |cons g r ih =>
  intro cs c h;rcases List.mem_append.1 h with h|h
  ·exact .inl (zQo _ h)
  rcases List.mem_cons.1 h with h|h
  ·exact .inr (.inl ⟨g,List.mem_cons_self,h⟩)
  rcases List.mem_append.1 h with h|h
  ·split at h
   ·rename_i hle
    rcases List.mem_cons.1 h with h|h
    ·exact .inr (.inr ⟨g,List.mem_cons_self,hle,h⟩)
    ·cases h
   ·cases h
  ·rcases ih c h with h|⟨x,hx,h⟩|⟨x,hx,h⟩
   ·exact .inl (kG _ (kG _ h))
   ·exact .inr (.inl ⟨x,List.mem_cons_of_mem _ hx,h⟩)
   ·exact .inr (.inr ⟨x,List.mem_cons_of_mem _ hx,h⟩)
theorem zLk {k w en:Int}{S:List Chg}{ga:List (Int × Int)}:∀{cs:List Chg},(xP k w en S ga cs).length<=cs.length+2*ga.length:=by
 induction ga with
 |nil=>intro cs;exact Nat.le_refl _
 |cons g r ih =>
  intro cs;have h1:=ih (cs:=(cs.dropWhile (λc=>decide (c.1<g.1))).dropWhile (λc=>decide (c.1<toE en g+1)));have h2:=yCf (q:=λc=>decide (c.1<toE en g+1)) (l:=cs.dropWhile (λc=>decide (c.1<g.1)));have h3:(cs.takeWhile (λc=>decide (c.1<g.1))).length+(cs.dropWhile (λc=>decide (c.1<g.1))).length=cs.length:=by
   rw[<-List.length_append,List.takeWhile_append_dropWhile]
  have h4:(if g.2<=en then [(g.2,atv k w S g.2)] else([]:List Chg)).length<=1:=by split <;> simp
  show(_++(_::(_++_))).length<=_;rw[List.length_append,List.length_cons,List.length_append,List.length_cons];omega
theorem zSq {k w en:Int}{S:List Chg}(hen:en<=1099511627776){ga:List (Int × Int)}:∀{cs:List Chg} {v:List UInt8} {a b:Int},nd a cs->(∀c∈cs,c.1<=1099511627776)->gch b ga->(∀g∈ga,g.2<=en+1) ->
  (∀t,b<=t->atv k w S t=vat v cs t)->∀t,b<=t->vat v (xP k w en S ga cs) t=if ing en ga t=true then ini k w else vat v cs t:=by
 induction ga with
 |nil=>intro cs v a b _ _ _ _ _ t _;rfl
 |cons g r ih =>
  intro cs v a b h hm hg hb hS t ht;obtain⟨g1,g2,g3⟩:=hg;have hb1:=hb g List.mem_cons_self;have hge:=zUf (en:=en) (g:=g) (by omega);have hdw:(cs.dropWhile (λc=>decide (c.1<g.1))).dropWhile (λc=>decide (c.1<toE en g+1))=cs.dropWhile (λc=>decide (c.1<toE en g+1)):=yHb (by omega);have hZn:nd (g.2+1) (xP k w en S r ((cs.dropWhile (λc=>decide (c.1<g.1))).dropWhile (λc=>decide (c.1<toE en g+1)))) :=
   cF (sU (by omega) (nT (nT h))) g3 (λx hx=>by have:=hb x (List.mem_cons_of_mem _ hx);omega) (Int.le_refl _)
  have hX:nd g.1 ((g.1,ini k w)::((if g.2<=en then [(g.2,atv k w S g.2)] else [])++xP k w en S r ((cs.dropWhile (λc=>decide (c.1<g.1))).dropWhile (λc=>decide (c.1<toE en g+1))))):=by
   refine⟨Int.le_refl _,?_⟩;split
   ·exact⟨by show g.1<=g.2;omega,sU (by omega) hZn⟩
   ·exact sU (by omega) hZn
  show vat v (cs.takeWhile _++_) t=_;rw[zCs hX h,yFv];by_cases h1:t<g.1
  ·rw[if_pos h1,decide_eq_false (by omega),Bool.false_or,yPr g3 (by omega)];rfl
  ·rw[if_neg h1]
   show(if g.1<=t then vat (ini k w) _ t else _)=_;rw[if_pos (by omega)];by_cases h2:g.2<=en
   ·rw[if_pos h2]
    show(if g.2<=t then vat (atv k w S g.2) (xP k w en S r _) t else ini k w)=_;by_cases h3:g.2<=t
    ·have hE:toE en g=g.2:=if_pos h2
     have hv:∀s,g.2<=s->vat (atv k w S g.2) (cs.dropWhile (λc=>decide (c.1<g.2+1))) s=vat v cs s:=λs hs=>by
      rw[hS g.2 (by omega)];have:=zKk (m:=g.2+1) (t:=s) (by omega) (v:=v) h;rw[Int.add_sub_cancel]at this;exact this
     rw[if_pos h3,decide_eq_false (by omega),Bool.false_or,ih (sU (Int.le_refl _) (nT (nT h))) (λc hc=>hm c (kG _ (kG _ hc))) g3 (λx hx=>hb x (List.mem_cons_of_mem _ hx)) ?_ t h3]
     ·rw[hdw,hE,hv t h3]
     ·intro s hs
      rw[hdw,hE,hv s hs];exact hS s (by omega)
    ·rw[if_neg h3,decide_eq_true ⟨by omega,.inl (by omega)⟩,Bool.true_or,if_pos rfl]
   ·rw[if_neg h2,decide_eq_true ⟨by omega,.inr (by omega)⟩,Bool.true_or,if_pos rfl]
    have hr:r=[]:=by
     cases r with
     |nil=>rfl
     |cons x r =>
      have:=hb x (List.mem_cons_of_mem _ List.mem_cons_self);have:=g3.1;have:=g3.2.1;omega
    have hE:toE en g=1099511627777:=if_neg h2;have hd:cs.dropWhile (λc=>decide (c.1<toE en g+1))=[]:=by
     rw[hE];refine List.eq_nil_iff_forall_not_mem.2 λc hc=>?_;have:=zCb (nT (m:=1099511627777+1) h) c hc;have:=hm c (kG _ hc);omega
    rw[hdw,hd,hr];rfl
def wY (w en:Int)(ga:List (Int × Int))(cs:List Chg):List Chg:=nrm 0 (ini 0 w) (xP 0 w en cs ga cs)
structure Nf (k w:Int)(cs:List Chg):Prop where
 io:ino (-1) cs
 ch:chn k (ini k w) cs
 le:∀c∈cs,c.1<=1099511627776
structure Gp (en:Int)(ga:List (Int × Int)):Prop where
 bd:0<=en/\en<=1099511627776
 ch:gch (-1) ga
 le:∀g∈ga,g.2<=en+1
def Off (w en:Int)(ga:List (Int × Int))(cs:List Chg):Prop:=∀t,0<=t->ing en ga t=true->vat (ini 0 w) cs t=ini 0 w
theorem zNi {w en:Int}{ga:List (Int × Int)}{cs:List Chg}(hn:Nf 0 w cs)(hg:Gp en ga):Nf 0 w (wY w en ga cs)/\Off w en ga (wY w en ga cs):=by
 obtain⟨n1,n2,n3⟩:=hn;obtain⟨g1,g2,g3⟩:=hg;have h0:=rD n1;have hnd:nd 0 (xP 0 w en cs ga cs):=cF h0 g2 (λg hg=>by have:=g3 g hg;omega) (by omega);refine⟨⟨oZ _ _ _ hnd,bI _ _,λc hc=>?_⟩,λt ht hi=>?_⟩
 ·rcases fF c (sX _ _ c hc)with h|⟨g,hg,rfl⟩|⟨g,hg,hge,rfl⟩
  ·exact n3 c h
  ·have:=g3 g hg;have:=(pR g2 g hg).2;show g.1<=_;omega
  ·show g.2<=_;omega
 ·unfold wY
  rw[zAt (by decide) _ 0 t hnd,zSq g1.2 h0 n3 g2 g3 (λt _=>zAm (by decide) h0 t) t (by omega),if_pos hi]
theorem yFm {w en:Int}{ga:List (Int × Int)}{cs:List Chg}(hn:Nf 0 w cs)(hg:Gp en ga)(ho:Off w en ga cs):wY w en ga cs=cs:=by
 obtain⟨⟨m1,m2,m3⟩,-⟩:=zNi hn hg;obtain⟨n1,n2,n3⟩:=hn;obtain⟨g1,g2,g3⟩:=hg;have h0:=rD n1;have hnd:nd 0 (xP 0 w en cs ga cs):=cF h0 g2 (λg hg=>by have:=g3 g hg;omega) (by omega);refine zYf (k:=0) (m:=1099511627776) (by decide) (ini 0 w) (-1) m1 n1 m2 n2 m3 n3 λt h1 h2=>?_;unfold wY;rw[zAt (by decide) _ 0 t hnd,zSq g1.2 h0 n3 g2 g3 (λt _=>zAm (by decide) h0 t) t (by omega)];split
 ·rename_i hi
  exact(ho t (by omega) hi).symm
 ·rfl
theorem zYu {k w:Int}{cs:List Chg}(h:nzl k w 0 cs=true):Nf k w (nrm k (ini k w) cs):=by
 obtain⟨h1,h2⟩:=dH.1 h;exact⟨oZ _ _ _ h1,bI _ _,λc hc=>(h2 c (sX _ _ c hc)).1⟩
end Go.Proofs.YtbidadebolllkaaGreatDoor
end
