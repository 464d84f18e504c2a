/- Part 6 of the proof of the law TopCutScale: texts merged. No condition. -/
import Derived.Test.YtbidadebolllkaaGreatDoorZTopCutScaleE
set_option linter.unusedSimpArgs false
set_option linter.unusedVariables false
section
set_option maxRecDepth 4000
namespace Go.Proofs.YtbidadebolllkaaGreatDoor
open Go.Gh Go.RowKit

theorem yNa (k w:Int)(cs:List Chg)(v:Value)(h:SH)(hv:Has h (zF chF cs) 2 cs.length v)(hl:cs.length<=100000)(hs:∀x∈cs,x.2.length<=100000) :
  zH Tryz.prog 118 [I k,I w,v] h λr q=>∃A,r=os A 2 (nrm k (ini k w) cs).length/\q=ob A (zF chF (nrm k (ini k w) cs)) (nrm k (ini k w) cs).length++h :=
 (yKw k w cs v h hv hl hs).mono λr q hG=>hG.own
def MdR (k w:Int)(L:List Chg)(h:SH)(r:Value)(q:SH):Prop:=∃A,r=.tuple #[sgV k w (os A 2 L.length),I 0]/\q=ob A (zF chF L) L.length++h
theorem zGd (k w:Int)(cs:List Chg)(v:Value)(h:SH)(hv:Has h (zF chF cs) 2 cs.length v)(hl:cs.length<=4096)(hs:∀x∈cs,x.2.length<=100000) :
  zH Tryz.prog 58 [I k,I w,v] h λr q=>MdR k w (nrm k (ini k w) cs) h r q:=by
 have hN:=λh hv=>yNa k w cs v h hv (by omega) hs;have hle:=oY k cs (ini k w);obtain⟨ad,fl,rfl,-⟩:=id hv;unfold MdR;generalize nrm k (ini k w) cs=R at *;refine wF Tryz.func58 rfl rfl ?_
 repeat'(first|apply zE|apply zD|apply zC|refine jg ?_ ?_|(apply js;exact jJ)|refine jy ?_|(apply xZ zK;exact rfl;exact rfl;(focus first|with_reducible exact zDe);exact rfl;(focus repeat(first|exact yT.nil|(apply yT.one;exact rfl;exact rfl;(first|(focus(repeat(first|exact yD.zero|apply yD.succ));done)))));exact rfl)|(apply zZ;exact rfl;exact rfl;exact rfl;exact rfl;exact⟨_,hN _ (hv.re jD),zA.nil⟩;rintro _ _ ⟨A2,rfl,rfl⟩)|refine jf ?_|apply zB|apply zL|apply zJ|exact jS|exact jL|exact jP|exact True.intro|intro A)
 all_goals first|exact jX|(apply yA;(exact(show zO _ _ _ _ [_,_] from jY));exact⟨A2,rfl,rfl⟩;exact jT)
noncomputable def nzl (k w:Int):Int->List Chg->Bool
 |_,[]=>true
 |a,c::r=>(decide (a<=c.1/\c.1<=1099511627776) && vok k w c.2) && nzl k w c.1 r
theorem yHn {k w a:Int}{l:List Chg}{i:Nat}(h:i<l.length):nzl k w a (l.drop i)=((decide (a<=l[i]!.1/\l[i]!.1<=1099511627776) && vok k w l[i]!.2) && nzl k w l[i]!.1 (l.drop (i+1))):=by rw[wD h];rfl
def NzR (k w:Int)(cs:List Chg)(h:SH)(b:Bool)(r:Value)(q:SH):Prop :=
 (b=true/\MdR k w (nrm k (ini k w) cs) h r q)\/(b=false/\∃e:Int,e≠0/\r=.tuple #[sgV 0 0 (.slice none 0 0),I e]/\q=h)
theorem zUq (k w:Int)(cs:List Chg)(v:Value)(h:SH)(hv:Has h (zF chF cs) 2 cs.length v)(hl:cs.length<=4096)(hs:∀x∈cs,x.2.length<=100000) :
  zH Tryz.prog 175 [I k,I w,v] h λr q=>NzR k w cs h (vty k w && nzl k w 0 cs) r q:=by
 have hM:=λh hv=>zGd k w cs v h hv hl hs;unfold NzR MdR;unfold MdR at hM;obtain⟨ad,fl,rfl,hh⟩:=id hv;have hlb:=yK (f:=chF) (w:=2) (λ_=>rfl) cs;have hT:=λh=>zHv k w h;generalize vty k w=ty at *;generalize nrm k (ini k w) cs=R at *;cases ty with
 |false =>
  rw[Bool.false_and];refine wF Tryz.func175 rfl rfl ?_
  repeat'(first|apply zE|apply zD|apply zC|refine jg ?_ ?_|(apply yS;exact rfl;exact rfl)|(apply js;exact jJ)|refine jy ?_|(apply xZ zK;exact rfl;exact rfl;(focus first|with_reducible exact zDe);exact rfl;(focus repeat(first|exact yT.nil));exact rfl)|refine jq ?_ (c:=by exact⟨_,hT _,jN⟩)|(apply yO;exact rfl)|apply zB|apply zV|apply zJ|exact jS|exact jL|exact jP|exact True.intro|intro A)
  all_goals first|exact jX|(apply yA;(exact(show zO _ _ _ _ [_,_] from jY));exact .inr ⟨rfl,7,by decide,rfl,rfl⟩;exact jT)
 |true =>
 rw[Bool.true_and];obtain⟨b,hb⟩:∃b,nzl k w 0 cs=b:=⟨_,rfl⟩;rw[hb];refine wF Tryz.func175 rfl rfl ?_
 repeat'(first|apply zE|apply zD|apply zC|refine jg ?_ ?_|(apply yS;exact rfl;exact rfl)|refine jy ?_|refine jq ?_ (c:=by exact⟨_,hT _,jN⟩)|(apply zX;exact rfl)|apply zB|apply zL|apply zM|exact jS|intro A)
 all_goals try exact jX
 refine yH (S:=Nat × Int) (λx=>[(0,I k),(1,I w),(2,.slice ad cs.length fl),(6,zG A 0 3),(8,I x.2),(16,.slice ad cs.length fl),(17,I cs.length),(18,I x.1)]) (λ_=>(A,⟨[I 0,I 0,.slice none 0 0],false⟩)::h)
  (λx=>x.1<=cs.length/\nzl k w x.2 (cs.drop x.1)=b) (λx=>cs.length-x.1) (0,0) ⟨Nat.zero_le _,hb⟩ jB jT ?_
 rintro⟨i,a⟩ ⟨hi,hg⟩;dsimp only at hi hg ⊢;by_cases hil:i<cs.length
 ·obtain⟨A',ro,h1,rfl,hp⟩:=hh (by omega)
  have hV:=λh=>zJh k w cs[i]!.2 h (by have:=hs _ (xD hil);omega);rw[yHn hil]at hg;generalize vok k w cs[i]!.2=ok at *
  repeat'(first|apply zE|apply zD|apply zC|refine jg ?_ ?_|(apply ja;exact jH)|(apply yS;exact rfl;exact rfl)|(apply jm;exact jI)|(apply jl;exact jI)|(apply js;exact jJ)|refine jy ?_|(apply xZ zK;exact rfl;exact rfl;(focus first|with_reducible exact zDe);exact rfl;(focus repeat(first|exact yT.nil));exact rfl)|refine jq ?_ (c:=by exact⟨_,hV _,jN⟩)|refine jw ?_|refine jk ?_|(apply vJ;(iterate 3 exact rfl);all_goals intro hc)|(apply yO;exact rfl)|refine jd ?_|(apply vA;exact rfl;all_goals intro hc)|(apply uO;exact rfl;all_goals intro hc)|apply zB|apply zV|apply zQ|apply xM|apply zL|apply zJ|apply zM|exact jO|((with_reducible apply Ln.mk);first|rfl|(simp[hlb];first|done|omega))|exact jW|exact jE|exact jP|((with_reducible apply Su.mk);first|exact xO (λ_=>rfl) (by omega))|exact True.intro|intro A|exact rfl)
  all_goals first
   |exact jX
   |(apply yA;(exact(show zO _ _ _ _ [_,_] from jY));exact .inr ⟨by rw[<-hg,decide_eq_false (by omega),Bool.false_and,Bool.false_and],_,show(2:Int)≠0 by decide,rfl,rfl⟩;exact jT)
   |(apply yA;(exact(show zO _ _ _ _ [_,_] from jY));exact .inr ⟨by rw[<-hg,show ok=false by simpa using ‹(!ok)=true›,Bool.and_false,Bool.false_and],_,show(1:Int)≠0 by decide,rfl,rfl⟩;exact jT)
   |exact⟨(i+1,cs[i]!.1),⟨hil,by rw[<-hg,decide_eq_true (by omega),show ok=true by simpa using ‹(!ok)=false›];rfl⟩,by show cs.length-(i+1)<cs.length-i;omega,jB,jT⟩
 ·rw[List.drop_of_length_le (by omega)]at hg
  have hg:true=b:=hg;subst hg
  repeat'((fail_if_success (show SWp _ _ (Code.seq (Code.region 13 _ _) _) _ _ _));(fail_if_success (show SWp _ _ (Code.region 13 _ _) _ _ _));first|apply zE|apply zD|apply zC|refine jg ?_ ?_|refine jf ?_|apply zB|apply zW|apply zT|apply zU|exact jS|fail)
  all_goals try exact jX
  repeat'(first|apply zE|apply zD|apply zC|refine jg ?_ ?_|(apply js;exact jJ)|(apply zZ;exact rfl;exact rfl;exact rfl;exact rfl;exact⟨_,hM _ (hv.re jD),zA.nil⟩;rintro _ _ ⟨A2,rfl,rfl⟩)|apply zB|apply zJ|exact jS|exact jL|exact jP|exact True.intro)
  all_goals first|exact jX|(apply yA;(exact(show zO _ _ _ _ [_,_] from jY));exact .inl ⟨rfl,A2,rfl,rfl⟩;exact jT)
def fi (t:Int)(cs:List Chg):Nat:=(cs.takeWhile (λc=>decide (c.1<t))).length
theorem zUd {t:Int}{cs:List Chg}{k:Nat}(hk:k<=cs.length)(h1:∀j,j<k->cs[j]!.1<t)(h2:∀j,k<=j->j<cs.length->t<=cs[j]!.1):fi t cs=k:=by
 unfold fi
 conv=>lhs;rw[<-List.take_append_drop k cs]
 rw[List.takeWhile_append_of_pos]
 ·rw[List.length_append,List.length_take]
  have:(cs.drop k).takeWhile (λc=>decide (c.1<t))=[]:=by
   by_cases hkl:k<cs.length
   ·rw[wD hkl,List.takeWhile_cons_of_neg]
    have:=h2 k (Nat.le_refl _) hkl;rw[decide_eq_true_eq];omega
   ·rw[List.drop_of_length_le (by omega)];rfl
  rw[this];show min k cs.length+0=k;omega
 ·intro a ha
  obtain⟨j,hj,e⟩:=List.mem_iff_getElem.1 ha;rw[List.length_take]at hj;have:=h1 j (by omega);rw[getElem!_pos cs j (by omega)]at this;rw[<-e,List.getElem_take,decide_eq_true_eq];exact this
def srt (cs:List Chg):Prop:=∀a b:Nat,a<b->b<cs.length->cs[a]!.1<cs[b]!.1
theorem aN {t:Int}{cs:List Chg}(hs:srt cs):fi t cs<=cs.length/\(∀j,j<fi t cs->cs[j]!.1<t)/\(∀j,fi t cs<=j->j<cs.length->t<=cs[j]!.1):=by
 have:∀d k:Nat,k+d=cs.length->(∀j,j<k->cs[j]!.1<t)->∃m,m<=cs.length/\(∀j,j<m->cs[j]!.1<t)/\(∀j,m<=j->j<cs.length->t<=cs[j]!.1):=by
  intro d
  induction d with
  |zero=>intro k hk h;exact⟨k,by omega,h,λj g1 g2=>by omega⟩
  |succ d ih =>
   intro k hk h;by_cases hc:cs[k]!.1<t
   ·exact ih (k+1) (by omega) λj hj=>by
     by_cases e:j=k
     ·rw[e];exact hc
     ·exact h j (by omega)
   ·refine⟨k,by omega,h,λj g1 g2=>?_⟩
    by_cases e:j=k
    ·rw[e];omega
    ·have:=hs k j (by omega) g2;omega
 obtain⟨m,h1,h2,h3⟩:=this cs.length 0 (by omega) (λj hj=>by omega);rw[zUd h1 h2 h3];exact⟨h1,h2,h3⟩
theorem zOb (c:Chg)(t:Int)(h:SH):zH Tryz.prog 116 [.agg ⟨chF c⟩,I t] h λr q=>r=I (sc3 c.1 t)/\q=h:=by
 refine yJ Tryz.func116 rfl rfl ?_
 repeat'(first|apply zE|apply zD|apply zC|refine jg ?_ ?_|(apply jm;exact jI)|refine jx ?_|refine jq ?_ (c:=by exact⟨_,zRc c.1 t _,jN⟩)|apply zB|apply zJ|exact jS|exact jL|exact jE|exact True.intro|intro A|exact rfl)
 all_goals first|exact jX|exact jG
theorem zFr {x y:Int}:sc3 x y<0↔x<y:=by
 unfold sc3;split
 ·omega
 ·split <;> omega
theorem yGf (cs:List Chg)(t:Int)(v:Value)(h:SH)(hv:Has h (zF chF cs) 2 cs.length v)(hl:cs.length<=100000)(hs:srt cs) :
  zH Tryz.prog 115 [v,I t,fnV 116] h λr q=>∃bb,r=.tuple #[I (fi t cs),B bb]/\q=h:=by
 obtain⟨ad,fl,rfl,hh⟩:=hv;have hlb:=yK (f:=chF) (w:=2) (λ_=>rfl) cs;refine wF Tryz.func115 rfl rfl ?_
 repeat'(first|apply zE|apply zD|apply zC|refine jg ?_ ?_|apply zB|apply zM|exact jS|fail)
 all_goals first|(exfalso;omega)|skip
 refine yH (S:=Nat × Nat) (λs=>[(0,.slice ad cs.length fl),(1,I t),(2,fnV 116),(8,I cs.length),(9,I s.1),(10,I s.2)])
  (λ_=>h) (λs=>s.1<=s.2/\s.2<=cs.length/\(∀j,j<s.1->cs[j]!.1<t)/\(∀j,s.2<=j->j<cs.length->t<=cs[j]!.1)) (λs=>s.2-s.1) (0,cs.length) ⟨Nat.zero_le _,Nat.le_refl _,λj hj=>absurd hj (Nat.not_lt_zero _),λj g1 g2=>by dsimp only at g1;omega⟩ jB jT ?_
 rintro⟨i,j⟩ ⟨hij,hj,h1,h2⟩;dsimp only at hij hj h1 h2 ⊢;by_cases hil:i<j
 ·obtain⟨A',ro,hx1,rfl,hp⟩:=hh (by omega)
  obtain⟨m,hm⟩:∃m,m=(i+j)/2:=⟨_,rfl⟩;have hsub:xF (zF chF cs) (0+((m:Int)).toNat*2) (chF cs[m]!):=xO (λ_=>rfl) (by omega);have hsh:((i:Int)+j)/2^(min (Int.toNat 1) IntKind.u64.bits)=(m:Int):=by
   rw[show min (Int.toNat 1) IntKind.u64.bits=1 from rfl];omega
  have hsc:=@zFr cs[m]!.1 t
  repeat'(first|apply zE|apply zD|apply zC|refine jg ?_ ?_|(apply ja;exact jH)|(apply uW;exact rfl;exact rfl)|(apply jl;exact jI)|refine jq ?_ (c:=by exact⟨_,zOb cs[m]! t _,jN⟩)|refine jd ?_|(apply vA;exact rfl;all_goals intro hc)|apply zB|apply zQ|apply zL|apply zM|exact jO|((with_reducible apply Ln.mk);first|rfl|(simp[hlb];first|done|omega))|((with_reducible apply Wr.mk);first|exact IntWalk.i64_in _ (by omega)|exact IntWalk.u64_in _ (by omega))|((with_reducible apply Ex.mk);first|exact hsh)|((with_reducible apply Su.mk);first|exact hsub)|exact True.intro|exact rfl)
  all_goals first
   |exact jX
   |(have hlt:=hsc.1 (by assumption)
     exact⟨(m+1,j),⟨by omega,hj,λa ha=>by
     have ha:a<m+1:=ha;by_cases e:a=m
     ·rw[e];exact hlt
     ·have:=hs a m (by omega) (by omega);omega,h2⟩,by show j-(m+1)<j-i;omega,jB,jT⟩)
   |exact⟨(i,m),⟨by omega,by omega,h1,λa g1 g2=>by
     have g1:m<=a:=g1;have hn:t<=cs[m]!.1:=by omega
     by_cases e:a=m
     ·rw[e];exact hn
     ·have:=hs m a (by omega) g2;omega⟩,by show m-i<j-i;omega,jB,jT⟩
 ·obtain rfl:i=j:=by omega
  have hR:=zUd hj h1 h2;by_cases hin:i<cs.length
  ·obtain⟨A',ro,hx1,rfl,hp⟩:=hh (by omega)
   have hsub:xF (zF chF cs) (0+((i:Int)).toNat*2) (chF cs[i]!):=xO (λ_=>rfl) (by omega)
   repeat'(first|apply zE|apply zD|apply zC|refine jg ?_ ?_|(apply jl;exact jI)|refine jq ?_ (c:=by exact⟨_,zOb cs[i]! t _,jN⟩)|refine jw ?_|refine jh ?_|refine jf ?_|apply zB|apply zW|apply zT|apply zJ|apply zU|exact jO|((with_reducible apply Ln.mk);first|rfl|(simp[hlb];first|done|omega))|((with_reducible apply Su.mk);first|exact hsub)|exact True.intro|exact rfl)
   all_goals first
    |exact jX
    |exact jF (k:=by exact⟨_,congrArg (λz:Nat=>Value.tuple #[I z,B _]) hR.symm,rfl⟩)
  ·repeat'(first|apply zE|apply zD|apply zC|refine jg ?_ ?_|refine jk ?_|(apply tO;(iterate 3 exact rfl);omega;exact rfl)|refine jf ?_|apply zB|apply zW|apply zT|apply zJ|apply zU|exact jS|fail)
   all_goals first
    |exact jX
    |exact jF (k:=by exact⟨_,congrArg (λz:Nat=>Value.tuple #[I z,B _]) hR.symm,rfl⟩)
theorem cS (k w:Int)(cs:List Chg)(t:Int)(v:Value)(h:SH)(hv:Has h (zF chF cs) 2 cs.length v)(hl:cs.length<=100000)(hs:srt cs) :
  zH Tryz.prog 57 [sgV k w v,I t] h λr q=>r=I (fi t cs)/\q=h:=by
 have hB:=λh hv=>yGf cs t v h hv hl hs;obtain⟨ad,fl,rfl,hh⟩:=id hv;refine yJ Tryz.func57 rfl rfl ?_
 repeat'(first|apply zE|apply zD|apply zC|refine jg ?_ ?_|(apply jm;exact jI)|refine jx ?_|(apply zZ;exact rfl;exact rfl;exact rfl;exact rfl;exact⟨_,hB _ (hv.re jD),zA.nil⟩;rintro _ _ ⟨bb,rfl,rfl⟩)|apply zB|apply zJ|exact jS|exact jL|exact jE|exact True.intro|intro A|exact rfl)
 all_goals first|exact jX|exact jG
def atv (k w:Int)(cs:List Chg)(t:Int):List UInt8:=if k=3\/fi (t+1) cs=0 then ini k w else cs[fi (t+1) cs-1]!.2
theorem zJu (k w:Int)(cs:List Chg)(t:Int)(v:Value)(h:SH)(hv:Has h (zF chF cs) 2 cs.length v)(hl:cs.length<=100000)(hs:srt cs)(ht:0<=t/\t<=1099511627776) :
  zH Tryz.prog 56 [sgV k w v,I t] h λr q=>r=S (atv k w cs t)/\q=h:=by
 have hF:=λh hv=>cS k w cs (t+1) v h hv hl hs;have hI:=λh=>fW k w h;have hlb:=yK (f:=chF) (w:=2) (λ_=>rfl) cs;obtain⟨hf,-,-⟩:=aN (t:=t+1) hs;unfold atv;generalize fi (t+1) cs=n at *;obtain⟨ad,fl,rfl,hh⟩:=id hv;by_cases hc0:k=3\/n=0
 ·rw[if_pos hc0]
  refine yJ Tryz.func56 rfl rfl ?_
  repeat'(first|apply zE|apply zD|apply zC|refine jg ?_ ?_|(apply ja;exact jH)|(apply jm;exact jI)|(apply jl;exact jI)|refine jx ?_|(apply zZ;exact rfl;exact rfl;exact rfl;exact rfl;exact⟨_,hF _ (hv.re jD),zA.nil⟩;rintro _ _ ⟨rfl,rfl⟩)|refine jq ?_ (c:=by exact⟨_,hI _,jN⟩)|refine jw ?_|refine jk ?_|(apply vJ;(iterate 3 exact rfl);all_goals intro hc)|(apply yO;exact rfl)|refine jd ?_|apply zB|apply zV|apply zJ|exact jS|exact jL|exact jW|exact jE|exact jU|exact True.intro|intro A|exact rfl)
  all_goals first|exact jX|exact jG
 ·rw[if_neg hc0]
  obtain⟨A',ro,hx1,rfl,hp⟩:=hh (by omega);have hc1:(zF chF cs)[0+((n:Int)-1).toNat*2+1]?=some (S cs[n-1]!.2):=by
   rw[show((n:Int)-1).toNat=n-1 by omega];exact tX (λ_=>rfl) (by omega) (by decide) rfl
  refine yJ Tryz.func56 rfl rfl ?_
  repeat'(first|apply zE|apply zD|apply zC|refine jg ?_ ?_|(apply ja;exact jH)|(apply jm;exact jI)|(apply jl;exact jI)|refine jx ?_|(apply zZ;exact rfl;exact rfl;exact rfl;exact rfl;exact⟨_,hF _ (hv.re jD),zA.nil⟩;rintro _ _ ⟨rfl,rfl⟩)|refine jw ?_|refine ji ?_|refine jf ?_|apply zB|apply zL|apply zJ|exact jO|((with_reducible apply Ln.mk);first|rfl|(simp[hlb];first|done|omega))|exact jW|((with_reducible apply Ce.mk);first|rfl|exact hc1)|exact jU|exact True.intro|intro A|exact rfl)
  all_goals first|exact jX|exact jG
theorem zYy (k w:Int)(cs:List Chg)(t:Int)(v:Value)(h:SH)(hv:Has h (zF chF cs) 2 cs.length v)(hl:cs.length<=100000)(hb:∀x∈cs,x.2.length<=100000)(hs:srt cs)(ht:0<=t/\t<=1099511627776)(hV:siv (k,w,cs)=true) :
  zH Tryz.prog 204 [sgV k w v,I t] h λr q=>r=.tuple #[S (atv k w cs t),I 0]/\q=h:=by
 have hA:=λh hv=>zJu k w cs t v h hv hl hs ht;have hW:=λh hv=>cT (k,w,cs) v h hv hl hb;rw[hV]at hW;obtain⟨ad,fl,rfl,hh⟩:=id hv;refine yJ Tryz.func204 rfl rfl ?_
 repeat'(first|apply zE|apply zD|apply zC|refine jg ?_ ?_|(apply yS;exact rfl;exact rfl)|(apply jl;exact jI)|refine jx ?_|(apply zZ;exact rfl;exact rfl;exact rfl;exact rfl;exact⟨_,hA _ (hv.re jD),zA.nil⟩;rintro _ _ ⟨rfl,rfl⟩)|(apply zZ;exact rfl;exact rfl;exact rfl;exact rfl;exact⟨_,hW _ (hv.re jD),zA.nil⟩;rintro _ _ ⟨rfl,rfl⟩)|refine jw ?_|refine ji ?_|(apply zX;exact rfl)|refine jf ?_|apply zB|apply zQ|apply zL|apply zJ|apply zM|exact jS|exact jL|exact jU|exact True.intro|intro A|exact rfl)
 all_goals first|exact jX|exact jG
end Go.Proofs.YtbidadebolllkaaGreatDoor
end
section
set_option maxRecDepth 4000
namespace Go.Gh
open Go.RowKit

section
variable {P:Program} {N:Fr} {o:Oper} {a:AF} {H:zI}
theorem yLl (T:TypeId)(x hi:Operand){ad:Option Addr}{fl E s b:Nat}{z:Option Value}{k:IntKind}{h:Int}(ho:o.op=.slice T x none (some hi) none)(hx:ev a x=some (.slice ad 0 fl))
  (hhi:ev a hi=some (.int k h)) (hT:P.underlying T=some (.slice E)) (hI:yC P E=some (z,s,b)) (h1:h=0):zR P N o a H (.slice ad 0 fl):=by
 subst h1;refine⟨λB0 w0 φ w ac r hf=>?_⟩;have hu:=zN hf hx;have e3:=(zN hf hhi).scalar rfl;obtain⟨bs,cp,hv⟩:∃bs cp,ac.eval x=.slice bs 0 cp:=by
  generalize ac.eval x=u2 at hu;cases hu <;> exact⟨_,_,rfl⟩
 refine⟨ac.eval x,hu,λw _=>?_⟩;unfold execOp;simp only[ho,hv,e3,Instr.sliceAt,Instr.slice,Option.map_some,Option.map_none,Sem.run_bind,run_underlying hT,Result.andThen_ok,Instr.sliceBounds,Instr.sliceBound,asIntOf,Sem.run_pure,
  Sem.run_ite,if_pos (show(0:Int)<=0/\(0:Int)<=(cp:Int)from⟨by omega,by omega⟩),wV hI,Nat.zero_mul]
 cases bs <;> simp[Addr.add]
theorem zSx (T:TypeId)(x lo:Operand){ad:Option Addr}{fl E s b:Nat}{z:Option Value}{k:IntKind}{h:Int}(ho:o.op=.slice T x (some lo) none none)(hx:ev a x=some (.slice ad 0 fl))
  (hlo:ev a lo=some (.int k h)) (hT:P.underlying T=some (.slice E)) (hI:yC P E=some (z,s,b)) (h1:h=0):zR P N o a H (.slice ad 0 fl):=by
 subst h1;refine⟨λB0 w0 φ w ac r hf=>?_⟩;have hu:=zN hf hx;have e3:=(zN hf hlo).scalar rfl;obtain⟨bs,cp,hv⟩:∃bs cp,ac.eval x=.slice bs 0 cp:=by
  generalize ac.eval x=u2 at hu;cases hu <;> exact⟨_,_,rfl⟩
 refine⟨ac.eval x,hu,λw _=>?_⟩;unfold execOp;simp only[ho,hv,e3,Instr.sliceAt,Instr.slice,Option.map_some,Option.map_none,Sem.run_bind,run_underlying hT,Result.andThen_ok,Instr.sliceBounds,Instr.sliceBound,asIntOf,Sem.run_pure,
  Sem.run_ite,if_pos (show(0:Int)<=0/\(0:Int)<=((0:Nat):Int)from⟨by omega,by omega⟩),wV hI,Nat.zero_mul]
 cases bs <;> simp[Addr.add]
end
section
variable {P:Program} {tt:TT} {sz:Nat} {ops:Array Oper} {Q:wA} {rest:List Oper} {a:AF} {h h' h1 h2:SH} {m:Mode} {t:Nat} {op:Op} {ty:TypeId} {pos:String} {aft:Array Edge} {p:Prop} {v:Value}
theorem zFm {T:Nat}{x lo:Operand}{ad:Option Addr}{fl:Nat}{k:IntKind}{i:Int}{E s b:Nat}{z:Option Value}{e:TE}(ht:tt.Ok P)(hx:ev a x=some (.slice ad 0 fl))(hlo:ev a lo=some (.int k i))(hT:tt.get T=some ⟨.slice E,s,b,z⟩)(hE:tt.get E=some e)(hi0:i=0)
  (hN:Nat.blt t sz=true) (kk:GO m.next P sz ops Q rest ((t,.slice ad 0 fl)::a) h):GO m P sz ops Q (⟨some t,.slice T x (some lo) none none,ty,pos,aft,none⟩::rest) a h :=
 let ⟨_,hI,_⟩:=xQ (TT.get_ok ht hE)
 qL (λ_ _ _ hag=>zSx T x lo rfl ((hag.ev (by simp[Op.operands,Call.operands])).trans hx) ((hag.ev (by simp[Op.operands,Call.operands])).trans hlo) (vP (TT.get_ok ht hT) rfl) hI hi0) hN kk
end
end Go.Gh
end
section
set_option maxRecDepth 4000
namespace Go.Proofs.YtbidadebolllkaaGreatDoor
open Go.Gh Go.RowKit

theorem yKc (c:Chg)(y:Int)(b:Nat)(h h1:SH)[hp:Pick h b ⟨[I y],false⟩ h1](hc1:-1<=c.1/\c.1<=1099511627776)(hy:-1099511627776<=y/\y<=1099511627776) :
  zH Tryz.prog 55 [.agg ⟨chF c⟩,zG b 0 1] h λr q=>r=.tuple #[.agg ⟨chF (c.1+y,c.2)⟩,B (decide (0<=c.1+y))]/\q=h:=by
 refine yJ Tryz.func55 rfl rfl ?_
 repeat'(first|apply zE|apply zD|apply zC|refine jr ?_|refine jg ?_ ?_|(apply ja;exact jH)|(apply jm;exact jI)|(apply js;exact jJ)|refine jy ?_|refine jx ?_|(apply xZ zK;exact rfl;exact rfl;(focus first|with_reducible exact mO);exact rfl;(focus repeat(first|exact yT.nil|(apply yT.one;exact rfl;exact rfl;(first|(focus(repeat(first|exact yD.zero|apply yD.succ));done)))));exact rfl)|apply zB|apply zJ|exact jS|exact jL|exact jW|exact jE|exact jP|exact True.intro|refine Rc.mk ⟨_,_,pk,?_⟩|exact Or.inl rfl|apply And.intro|apply Or.inr|intro A|exact rfl)
 all_goals first|exact jX|(apply yA;(exact(show zO _ _ _ _ [_,_] from jY));exact⟨rfl,rfl⟩;(focus repeat(first|with_reducible exact zA.nil|with_reducible apply zA.c|with_reducible apply zA.drop)))
def fil (y:Int)(cs:List Chg):List Chg:=(cs.filter (λc=>decide (0<=c.1+y))).map (λc=>(c.1+y,c.2))
theorem tN {α:Type}[Inhabited α]{l:List α}{i:Nat}(h:i<l.length):l.take (i+1)=l.take i++[l[i]!]:=by rw[getElem!_pos l i h,List.take_succ_eq_append_getElem h]
theorem yEu {y:Int}{cs:List Chg}{i:Nat}(h:i<cs.length):fil y (cs.take (i+1))=fil y (cs.take i)++if 0<=cs[i]!.1+y then [(cs[i]!.1+y,cs[i]!.2)] else []:=by
 unfold fil;rw[tN h,List.filter_append,List.map_append]
 congr 1
 by_cases hc:0<=cs[i]!.1+y
 ·rw[if_pos hc,List.filter_cons_of_pos (by rw[decide_eq_true_eq];exact hc)];rfl
 ·rw[if_neg hc,List.filter_cons_of_neg (by rw[decide_eq_true_eq];exact hc)];rfl
theorem bS (y:Int)(cs:List Chg):(fil y cs).length<=cs.length:=by
 unfold fil;rw[List.length_map];exact List.length_filter_le _ _
theorem yMy {y:Int}{cs:List Chg}{n:Nat}(hs:∀x∈cs,x.2.length<=n):∀x∈fil y cs,x.2.length<=n:=by
 intro x hx;obtain⟨c,hc,rfl⟩:=List.mem_map.1 hx;exact hs c (List.mem_filter.1 hc).1
theorem zWs (k w:Int)(cs:List Chg)(y:Int)(b:Nat)(v:Value)(h h1:SH)(hb:Pick h b ⟨[I y],false⟩ h1)(hv:Has h (zF chF cs) 2 cs.length v)(hl:cs.length<=4096)(hs:∀x∈cs,x.2.length<=100000)
  (ht:∀x∈cs,-1<=x.1/\x.1<=1099511627776) (hy:-1099511627776<=y/\y<=1099511627776) :
  zH Tryz.prog 54 [sgV k w v,I w,.func (.func 55) #[] #[zG b 0 1]] h λr q=>MdR k w (nrm k (ini k w) (fil y cs)) h r q:=by
 have hM:=λv h hv=>zGd k w (fil y cs) v h hv (by have:=bS y cs;omega) (yMy hs);have hX:=λc h h1 hp hc1=>@yKc c y b h h1 hp hc1 hy;unfold MdR at hM ⊢;obtain⟨ad,fl,rfl,hh⟩:=id hv;have hlb:=yK (f:=chF) (w:=2) (λ_=>rfl) cs;generalize nrm k (ini k w) (fil y cs)=R at *;refine wF Tryz.func54 rfl rfl ?_
 repeat'(first|apply zE|apply zD|apply zC|refine jg ?_ ?_|(apply jm;exact jI)|refine jy ?_|refine jx ?_|apply zB|apply zM|exact jS|exact jL|exact jE|exact True.intro|intro A|exact rfl)
 all_goals try exact jX
 rename_i A0;obtain⟨A9,rfl⟩:∃m,m=A:=⟨_,rfl⟩;refine yH (S:=Nat × Value × SH) (λx=>[(1,I w),(2,.func (.func 55) #[] #[zG b 0 1]),(3,zG A0 0 3),(6,zG A9 0 3),(8,x.2.1),(14,.slice ad cs.length fl),(15,I cs.length),(16,I x.1)])
  (λx=>(A9,⟨[I 0,I 0,.slice none 0 0],false⟩)::(A0,⟨[I k,I w,.slice ad cs.length fl],false⟩)::x.2.2)
  (λx=>x.1<=cs.length/\GrR chF 2 h (fil y (cs.take x.1)) x.2.1 x.2.2) (λx=>cs.length-x.1) (0,.slice none 0 0,h) ⟨Nat.zero_le _,.nil⟩ jB jT ?_
 rintro⟨i,u,q⟩ ⟨hi,hG⟩;dsimp only at hi hG ⊢;by_cases hil:i<cs.length
 ·obtain⟨A',ro,h2,rfl,hp⟩:=hh (by omega)
  have htk:=yEu (y:=y) hil;have hci:=ht _ (xD hil);have hle:=bS y (cs.take i);rw[List.length_take]at hle;generalize fil y (cs.take i)=O at *;have hob:=yK (f:=chF) (w:=2) (λ_=>rfl) O;cases hG with
  |nil =>
   repeat'(first|apply zE|apply zD|apply zC|refine jg ?_ ?_|(apply ja;exact jH)|(apply jl;exact jI)|(apply js;exact jJ)|refine jy ?_|(apply xT zK;(iterate 5 exact rfl);decide;exact rfl;decide;(focus repeat(first|exact xE.last rfl));exact rfl)|(apply qD zK;(iterate 5 exact rfl);exact⟨by decide⟩;exact pk)|(refine jc ?_ (c:=by exact⟨_,hX cs[i]! _ _ (.tail (.tail (.tail hb))) hci,jN⟩);rintro _ _ ⟨rfl,rfl⟩)|refine jd ?_|(apply vA;exact rfl;all_goals intro hc)|apply zB|apply zQ|apply zL|apply zM|exact jV|((with_reducible apply Ln.mk);first|rfl|(simp[hlb,hob];first|done|omega))|exact jW|exact jP|((with_reducible apply Su.mk);first|exact xY|exact xO (λ_=>rfl) (by omega))|exact True.intro|intro A|exact rfl)
   all_goals first
    |exact jX
    |(rw[if_pos hc]at htk
      exact⟨(i+1,gsl A 0 2 1 2,(A,⟨chF (cs[i]!.1+y,cs[i]!.2),false⟩)::h),⟨hil,by rw[htk];exact .ofc (n:=1) (k:=2) tW.symm rfl rfl⟩,by show cs.length-(i+1)<cs.length-i;omega,jB,jT⟩)
    |(rw[if_neg hc]at htk
      exact⟨(i+1,.slice none 0 0,h),⟨hil,by rw[htk];exact .nil⟩,by show cs.length-(i+1)<cs.length-i;omega,jB,jT⟩)
  |some A1 _ hO0 =>
   repeat'(first|apply zE|apply zD|apply zC|refine jg ?_ ?_|(apply ja;exact jH)|(apply jl;exact jI)|(apply js;exact jJ)|refine jy ?_|(apply xT zK;(iterate 5 exact rfl);decide;exact rfl;decide;(focus repeat(first|exact xE.last rfl));exact rfl)|(apply qK zK;(iterate 5 exact rfl);exact⟨by decide⟩;exact up;exact pk)|(refine jc ?_ (c:=by exact⟨_,hX cs[i]! _ _ (.tail (.tail (.tail (.tail hb)))) hci,jN⟩);rintro _ _ ⟨rfl,rfl⟩)|refine jd ?_|(apply vA;exact rfl;all_goals intro hc)|apply zB|apply zQ|apply zL|apply zM|exact jV|((with_reducible apply Ln.mk);first|rfl|omega|(simp[hlb,hob];first|done|omega))|exact jW|exact jP|((with_reducible apply Su.mk);first|exact xY|exact xO (λ_=>rfl) (by omega))|exact True.intro|intro A|exact rfl)
   all_goals first
    |exact jX
    |(rw[if_pos hc]at htk
      exact⟨(i+1,gsl A1 0 (O.length*2+1*2) (O.length+1) 2,(A1,⟨zF chF O++chF (cs[i]!.1+y,cs[i]!.2),false⟩)::h),⟨hil,by rw[htk];exact .ofc (n:=O.length+1) rO.symm (by simp) (by omega)⟩,by show cs.length-(i+1)<cs.length-i;omega,jB,jT⟩)
    |(rw[if_neg hc,List.append_nil]at htk
      exact⟨(i+1,gsl A1 0 (O.length*2) O.length 2,(A1,⟨zF chF O,false⟩)::h),⟨hil,by rw[htk];exact .some A1 O hO0⟩,by show cs.length-(i+1)<cs.length-i;omega,jB,jT⟩)
 ·obtain rfl:i=cs.length:=by omega
  rw[List.take_length]at hG;have hv2:=hG.has.1;have htq:=hG.has.2;obtain⟨ad2,fl2,rfl⟩:=hG.sl;generalize fil y cs=O at *
  repeat'(first|apply zE|apply zD|apply zC|refine jg ?_ ?_|(apply jm;exact jI)|(apply js;exact jJ)|(apply zZ;exact rfl;exact rfl;exact rfl;exact rfl;exact⟨_,hM _ _ (hv2.re jD),zA.nil⟩;rintro _ _ ⟨A2,rfl,rfl⟩)|refine jf ?_|apply zB|apply zW|apply zT|apply zJ|apply zU|exact jS|exact jL|exact jE|exact jP|exact True.intro|exact rfl)
  all_goals first|exact jX|(apply yA;(exact(show zO _ _ _ _ [_,_] from jY));exact⟨A2,rfl,rfl⟩;(focus repeat(first|with_reducible exact zA.nil|exact htq|with_reducible apply zA.c|with_reducible apply zA.drop|with_reducible apply zA.pre|with_reducible apply zA.drops)))
def shf (k w:Int)(cs:List Chg)(f:Int):List Chg:=if f=0\/k=3 then fil (-f) cs else(0,atv k w cs f)::(cs.drop (fi (f+1) cs)).map (λc=>(c.1+-f,c.2))
theorem fP {cs:List Chg}(h:0<cs.length):((cs.length:Int)-1).toNat=cs.length-1:=by omega
theorem yIf (k w:Int)(cs:List Chg)(f:Int)(v:Value)(h:SH)(hv:Has h (zF chF cs) 2 cs.length v)(hl:cs.length<=4000)(hs:∀x∈cs,x.2.length<=100000)
  (ht:∀x∈cs,-1<=x.1/\x.1<=1099511627776) (hf:0<=f/\f<=1099511627776) (hV:siv (k,w,cs)=true) (hfk:f=0\/k=3) :
  zH Tryz.prog 22 [sgV k w v,I (-f)] h λr q=>MdR k w (nrm k (ini k w) (shf k w cs f)) h r q:=by
 rw[show shf k w cs f=fil (-f) cs from if_pos hfk];have hW:=λh hv=>cT (k,w,cs) v h hv (by show cs.length<=100000;omega) hs;rw[hV]at hW;have hE:=λb h h1 hb hv=>zWs k w cs (-f) b v h h1 hb hv (by omega) hs ht (by omega);unfold MdR at hE ⊢;generalize nrm k (ini k w) (fil (-f) cs)=R at *;obtain⟨ad,fl,rfl,hh⟩:=id hv;have hlb:=yK (f:=chF) (w:=2) (λ_=>rfl) cs;by_cases h0:0<cs.length
 ·obtain⟨A',ro,h2,rfl,hp⟩:=hh (by omega)
  have hlt:=ht _ (xD (l:=cs) (i:=cs.length-1) (by omega));have hc1:(zF chF cs)[0+((cs.length:Int)-1).toNat*2+0]?=some (I cs[cs.length-1]!.1):=by
   rw[fP h0];exact tX (λ_=>rfl) (by omega) (by decide) rfl
  refine yJ Tryz.func22 rfl rfl ?_
  repeat'(first|apply zE|apply zD|apply zC|refine jr ?_|refine jg ?_ ?_|(apply ja;exact jH)|(apply yS;exact rfl;exact rfl)|(apply jm;exact jI)|(apply jl;exact jI)|(apply js;exact jJ)|refine jy ?_|refine jx ?_|(apply rK;iterate 3 exact rfl)|(apply zZ;exact rfl;exact rfl;exact rfl;exact rfl;exact⟨_,hW _ (hv.re jD),zA.nil⟩;rintro _ _ ⟨rfl,rfl⟩)|(apply zZ;exact rfl;exact rfl;exact rfl;exact rfl;exact⟨_,hE _ _ _ (.tail .head) (hv.re jD),zA.nil⟩;rintro _ _ ⟨A2,rfl,rfl⟩)|refine jw ?_|refine jk ?_|refine jh ?_|refine ji ?_|(apply vJ;(iterate 3 exact rfl);all_goals intro hc)|(apply yO;exact rfl)|(apply zX;exact rfl)|refine jd ?_|refine jf ?_|apply zB|apply zV|apply zL|apply zJ|exact jO|((with_reducible apply Ln.mk);first|rfl|(simp[hlb];first|done|omega))|exact jW|((with_reducible apply Ce.mk);first|rfl|exact hc1)|exact jP|exact jU|exact True.intro|intro A|exact rfl)
  all_goals first|exact jX|(apply yA;(exact(show zO _ _ _ _ [_,_] from jY));exact⟨A2,rfl,rfl⟩;exact jT)
 ·refine yJ Tryz.func22 rfl rfl ?_
  repeat'(first|apply zE|apply zD|apply zC|refine jr ?_|refine jg ?_ ?_|(apply yS;exact rfl;exact rfl)|(apply jm;exact jI)|(apply jl;exact jI)|(apply js;exact jJ)|refine jy ?_|refine jx ?_|(apply rK;iterate 3 exact rfl)|(apply zZ;exact rfl;exact rfl;exact rfl;exact rfl;exact⟨_,hW _ (hv.re jD),zA.nil⟩;rintro _ _ ⟨rfl,rfl⟩)|(apply zZ;exact rfl;exact rfl;exact rfl;exact rfl;exact⟨_,hE _ _ _ (.tail .head) (hv.re jD),zA.nil⟩;rintro _ _ ⟨A2,rfl,rfl⟩)|refine jw ?_|refine jk ?_|refine ji ?_|(apply tO;(iterate 3 exact rfl);omega;exact rfl)|(apply vJ;(iterate 3 exact rfl);all_goals intro hc)|(apply yO;exact rfl)|(apply zX;exact rfl)|refine jd ?_|apply zB|apply zV|apply zL|apply zJ|exact jS|exact jL|exact jE|exact jP|exact jU|exact True.intro|intro A|exact rfl)
  all_goals first|exact jX|(apply yA;(exact(show zO _ _ _ _ [_,_] from jY));exact⟨A2,rfl,rfl⟩;exact jT)
theorem zPd (k w:Int):(ini k w).length<=128:=by
 unfold ini;split
 ·split
  ·unfold oE;split
   ·rw[List.length_replicate];omega
   ·decide
  ·unfold ktx;split <;> decide
 ·decide
theorem yIw {k w t:Int}{cs:List Chg}(hs:∀x∈cs,x.2.length<=100000)(hf:fi (t+1) cs<=cs.length):(atv k w cs t).length<=100000:=by
 unfold atv;split
 ·have:=zPd k w;omega
 ·rename_i g
  exact hs _ (xD (by omega))
theorem zWw {cs:List Chg}{a i:Nat}(h:a+i<cs.length):xF (zF chF cs) (a*2+((i:Int)).toNat*2) (chF cs[a+i]!):=by
 rw[show a*2+((i:Int)).toNat*2=0+(a+i)*2 by omega];exact kH (w:=2) (λ_=>rfl) h
theorem zWk (k w:Int)(cs:List Chg)(f:Int)(v:Value)(h:SH)(hv:Has h (zF chF cs) 2 cs.length v)(hl:cs.length<=4000)(hs:∀x∈cs,x.2.length<=100000)
  (ht:∀x∈cs,-1<=x.1/\x.1<=1099511627776) (hf:0<=f/\f<=1099511627776) (hV:siv (k,w,cs)=true) (hso:srt cs) (hfk:¬(f=0\/k=3)) :
  zH Tryz.prog 22 [sgV k w v,I (-f)] h λr q=>MdR k w (nrm k (ini k w) (shf k w cs f)) h r q:=by
 obtain⟨hfi,-,-⟩:=aN (t:=f+1) hso;have hal:=yIw (k:=k) (w:=w) hs hfi;rw[show shf k w cs f=(0,atv k w cs f)::(cs.drop (fi (f+1) cs)).map (λc=>(c.1+-f,c.2))from if_neg hfk];have hW:=λh hv=>cT (k,w,cs) v h hv (by show cs.length<=100000;omega) hs;rw[hV]at hW;have ef:(0:Int) - -f=f:=by omega
 have hA:∀h,Has h (zF chF cs) 2 cs.length v->zH Tryz.prog 56 [sgV k w v,I (0 - -f)] h λr q=>r=S (atv k w cs f)/\q=h:=λh hv=>by rw[ef];exact zJu k w cs f v h hv (by omega) hso (by omega)
 have hF:∀h,Has h (zF chF cs) 2 cs.length v->zH Tryz.prog 57 [sgV k w v,I (0 - -f+1)] h λr q=>r=I (fi (f+1) cs)/\q=h:=λh hv=>by rw[ef];exact cS k w cs (f+1) v h hv (by omega) hso
 have hM:=λv h hv=>zGd k w ((0,atv k w cs f)::(cs.drop (fi (f+1) cs)).map (λc=>(c.1+-f,c.2))) v h hv (by rw[List.length_cons,List.length_map,List.length_drop];omega) (by
  intro x hx;rcases List.mem_cons.1 hx with rfl|hx
  ·exact hal
  ·obtain⟨c,hc,rfl⟩:=List.mem_map.1 hx
   exact hs c (List.mem_of_mem_drop hc))
 unfold MdR at hM ⊢;generalize atv k w cs f=z at *;generalize fi (f+1) cs=n at *;obtain⟨X,hX⟩:∃X,(cs.drop n).map (λc=>(c.1+-f,c.2))=X:=⟨_,rfl⟩;have hXl:X.length=cs.length-n:=by rw[<-hX,List.length_map,List.length_drop]
 have hXb:∀i,i<X.length->X[i]! = (cs[n+i]!.1+-f,cs[n+i]!.2):=by
  intro i hi;subst hX;rw[getElem!_pos _ i hi,getElem!_pos cs (n+i) (by omega),List.getElem_map,List.getElem_drop]
 rw[hX]at hM ⊢;generalize nrm k (ini k w) ((0,z)::X)=R at *;obtain⟨ad,fl,rfl,hh⟩:=id hv;have hlb:=yK (f:=chF) (w:=2) (λ_=>rfl) cs;have hv2:∀(bg:Nat) (q:SH),Has ((bg,⟨zF chF ((0,z)::X),false⟩)::q) (zF chF ((0,z)::X)) 2 ((0,z)::X).length (gsl bg 0 ((1+X.length)*2) (1+X.length) 2):=λbg q =>
  ⟨some ⟨bg,0,some ((1+X.length)*2)⟩,2,by rw[List.length_cons,Nat.add_comm 1],λ_=>⟨bg,false,q,by rw[List.length_cons,Nat.add_comm 1,Nat.mul_comm],.head⟩⟩
 by_cases hnl:n<cs.length
 ·obtain⟨A',ro,h2,rfl,hp⟩:=hh (by omega)
  have h0:0<cs.length:=by omega
  have hlt:=ht _ (xD (l:=cs) (i:=cs.length-1) (by omega));have hc1:(zF chF cs)[0+((cs.length:Int)-1).toNat*2+0]?=some (I cs[cs.length-1]!.1):=by
   rw[fP h0];exact tX (λ_=>rfl) (by omega) (by decide) rfl
  refine yJ Tryz.func22 rfl rfl ?_
  repeat'(first|apply zE|apply zD|apply zC|refine jr ?_|refine jg ?_ ?_|(apply ja;exact jH)|(apply yS;exact rfl;exact rfl)|(apply jm;exact jI)|(apply jl;exact jI)|refine jy ?_|refine jx ?_|(apply xZ zK;exact rfl;exact rfl;(focus first|with_reducible exact mO);exact rfl;(focus repeat(first|exact yT.nil|(apply yT.one;exact rfl;exact rfl;(first|(focus(repeat(first|exact yD.zero|apply yD.succ));done)))));exact rfl)|(apply xT zK;(iterate 5 exact rfl);decide;exact rfl;decide;(focus repeat(first|exact xE.last rfl));exact rfl)|(apply zZ;exact rfl;exact rfl;exact rfl;exact rfl;exact⟨_,hW _ (hv.re jD),zA.nil⟩;rintro _ _ ⟨rfl,rfl⟩)|(apply zZ;exact rfl;exact rfl;exact rfl;exact rfl;exact⟨_,hA _ (hv.re jD),zA.nil⟩;rintro _ _ ⟨rfl,rfl⟩)|(apply wP;(iterate 4 exact rfl);exact⟨_,hF _ (hv.lock.re (by repeat(first|with_reducible exact zA.nil|with_reducible apply tT|with_reducible apply zA.drop))),zA.nil⟩;exact λ_ _ h=>h.1;(focus(repeat(first|exact xV.c rfl))))|refine jw ?_|refine jh ?_|refine ji ?_|(apply zX;exact rfl)|refine jf ?_|apply zB|apply zL|apply zM|exact jO|((with_reducible apply Ln.mk);first|rfl|(simp[hlb];first|done|omega))|exact jW|((with_reducible apply Ce.mk);first|rfl|exact hc1)|exact jU|exact True.intro|intro A|exact rfl)
  all_goals try exact jX
  rename_i b2 b3 b4;obtain⟨bg,rfl⟩:∃m,m=A:=⟨_,rfl⟩;refine yH (S:=Nat) (λi=>[(2,zG b2 0 3),(3,zG b3 0 1),(4,zG b4 0 3),(7,gsl bg 0 ((1+i)*2) (1+i) 2),(67,gsl A' (0+((n:Int)).toNat*2) (2*cs.length) (cs.length-((n:Int)).toNat) 0),(68,I ((cs.length-((n:Int)).toNat:Nat):Int)),(69,I i)])
   (λi=>(bg,⟨zF chF ((0,z)::X.take i),false⟩)::(b4,⟨[I 0,I 0,.slice none 0 0],false⟩)::(b3,⟨[I (-f)],false⟩)::(b2,⟨[I k,I w,.slice (some ⟨A',0,some (2*cs.length)⟩) cs.length fl],false⟩)::h)
   (λi=>i<=X.length) (λi=>X.length-i) 0 (Nat.zero_le _) jB (by repeat(first|with_reducible exact zA.nil|with_reducible apply zA.c|((with_reducible apply zA.cE);first|exact rfl|(apply pL;(focus first|exact rfl|exact uZ rfl|exact pI rfl|exact congrArg (λv=>[v]) (vR rfl rfl (by first|rfl|exact ‹_›|omega|(simp[hlb];first|done|omega)) (by first|rfl|exact ‹_›|omega|(simp[hlb];first|done|omega)) rfl))))|with_reducible apply zA.drop|with_reducible apply zA.pre|with_reducible apply zA.drops)) ?_
  intro i hi;have hXl2:X.length=cs.length-((n:Int)).toNat:=by omega
  by_cases hil:i<X.length
  ·have hxi:=hXb i hil
   have hob:(zF chF ((0,z)::X.take i)).length=(1+i)*2:=by rw[yK (f:=chF) (w:=2) (λ_=>rfl),List.length_cons,List.length_take];omega
   have htm:=ht _ (xD (l:=cs) (i:=n+i) (by omega));have hsub:xF (zF chF cs) (0+((n:Int)).toNat*2+((i:Int)).toNat*2) (chF cs[n+i]!):=by
    rw[show 0+((n:Int)).toNat*2+((i:Int)).toNat*2=n*2+((i:Int)).toNat*2 by omega];exact zWw (by omega)
   repeat'(first|apply zE|apply zD|apply zC|refine jg ?_ ?_|(apply ja;exact jH)|(apply jm;exact jI)|(apply jl;exact jI)|(apply js;exact jJ)|refine jy ?_|(apply xZ zK;exact rfl;exact rfl;(focus first|with_reducible exact mO);exact rfl;(focus repeat(first|exact yT.nil|(apply yT.one;exact rfl;exact rfl;(first|(focus(repeat(first|exact yD.zero|apply yD.succ));done)))));exact rfl)|(apply xT zK;(iterate 5 exact rfl);decide;exact rfl;decide;(focus repeat(first|exact xE.last rfl));exact rfl)|(apply qK zK;(iterate 5 exact rfl);exact⟨by decide⟩;exact up;exact pk)|refine jd ?_|apply zB|apply zQ|apply zL|apply zM|exact jV|((with_reducible apply Ln.mk);first|rfl|omega|(simp[hlb,hob];first|done|omega))|exact jW|exact jE|exact jP|((with_reducible apply Su.mk);first|exact hsub|exact xY)|exact True.intro|intro A|exact rfl)
   all_goals try exact jX
   refine⟨i+1,hil,by omega,⟨rfl,rfl,rfl,congrArg some (vR rfl rfl (by omega) (by omega) rfl),rfl,rfl,rfl,trivial⟩,?_⟩;apply zA.drop;apply zA.drop;apply zA.cE (congrArg (λx=>Blk.mk x false) (show _=zF chF ((0,z)::X.take (i+1))by rw[tN hil,hxi];exact(rO (f:=chF) (l:=(0,z)::X.take i) (x:=(cs[n+i]!.1+-f,cs[n+i]!.2))).symm));exact jT
  ·obtain rfl:i=X.length:=by omega
   rw[List.take_length]
   repeat'(first|apply zE|apply zD|apply zC|refine jg ?_ ?_|(apply jm;exact jI)|(apply js;exact jJ)|(apply zZ;exact rfl;exact rfl;exact rfl;exact rfl;exact⟨_,hM _ _ (hv2 _ _),zA.nil⟩;rintro _ _ ⟨A2,rfl,rfl⟩)|refine jf ?_|apply zB|apply zW|apply zT|apply zJ|apply zU|exact jS|exact jL|exact jE|exact jP|exact True.intro|exact rfl)
   all_goals first|exact jX|(apply yA;(exact(show zO _ _ _ _ [_,_] from jY));exact⟨A2,rfl,rfl⟩;exact jT)
 ·have hX0:X=[]:=List.length_eq_zero_iff.1 (by omega)
  subst hX0;rcases Nat.eq_zero_or_pos cs.length with h0|h0
  ·obtain rfl:cs=[]:=List.length_eq_zero_iff.1 h0
   have hn0:n=0:=by have:n<=0:=hfi;omega
   subst hn0;refine yJ Tryz.func22 rfl rfl ?_
   repeat'(first|apply zE|apply zD|apply zC|refine jr ?_|(apply zFm zK;(iterate 4 exact rfl);(focus omega);exact rfl)|refine jg ?_ ?_|(apply ja;exact jH)|(apply yS;exact rfl;exact rfl)|(apply jm;exact jI)|(apply jl;exact jI)|refine jy ?_|refine jx ?_|(apply xZ zK;exact rfl;exact rfl;(focus first|with_reducible exact mO);exact rfl;(focus repeat(first|exact yT.nil|(apply yT.one;exact rfl;exact rfl;(first|(focus(repeat(first|exact yD.zero|apply yD.succ));done)))));exact rfl)|(apply xT zK;(iterate 5 exact rfl);decide;exact rfl;decide;(focus repeat(first|exact xE.last rfl));exact rfl)|(apply zZ;exact rfl;exact rfl;exact rfl;exact rfl;exact⟨_,hW _ (hv.re jD),zA.nil⟩;rintro _ _ ⟨rfl,rfl⟩)|(apply zZ;exact rfl;exact rfl;exact rfl;exact rfl;exact⟨_,hA _ (hv.re jD),zA.nil⟩;rintro _ _ ⟨rfl,rfl⟩)|(apply wP;(iterate 4 exact rfl);exact⟨_,hF _ (hv.lock.re (by repeat(first|with_reducible exact zA.nil|with_reducible apply tT|with_reducible apply zA.drop))),zA.nil⟩;exact λ_ _ h=>h.1;(focus(repeat(first|exact xV.c rfl))))|refine jw ?_|refine jk ?_|refine ji ?_|(apply zX;exact rfl)|refine jf ?_|apply zB|apply zL|apply zM|exact jS|exact jL|exact jW|exact jE|exact jU|exact True.intro|intro A|exact rfl)
   all_goals try exact jX
   rename_i b2 b3 b4;obtain⟨bg,rfl⟩:∃m,m=A:=⟨_,rfl⟩;refine yH (S:=Unit) (λ_=>[(2,zG b2 0 3),(3,zG b3 0 1),(4,zG b4 0 3),(7,gsl bg 0 (1*2) 1 2),(68,I 0),(69,I 0)])
    (λi=>(bg,⟨zF chF [(0,z)],false⟩)::(b4,⟨[I 0,I 0,.slice none 0 0],false⟩)::(b3,⟨[I (-f)],false⟩)::(b2,⟨[I k,I w,.slice ad 0 fl],false⟩)::h)
    (λ_=>True) (λ_=>0) () trivial jB (by repeat(first|with_reducible exact zA.nil|with_reducible apply zA.c|((with_reducible apply zA.cE);first|exact rfl|(apply pL;(focus first|exact rfl|exact uZ rfl|exact pI rfl|exact congrArg (λv=>[v]) (vR rfl rfl (by first|rfl|exact ‹_›|omega|(simp ;first|done|omega)) (by first|rfl|exact ‹_›|omega|(simp ;first|done|omega)) rfl))))|with_reducible apply zA.drop|with_reducible apply zA.pre|with_reducible apply zA.drops)) ?_
   rintro - -
   repeat'(first|apply zE|apply zD|apply zC|refine jg ?_ ?_|(apply jm;exact jI)|(apply js;exact jJ)|(apply zZ;exact rfl;exact rfl;exact rfl;exact rfl;exact⟨_,hM _ _ (hv2 _ _),zA.nil⟩;rintro _ _ ⟨A2,rfl,rfl⟩)|(apply zX;exact rfl)|apply zB|apply zW|apply zT|apply zJ|apply zU|exact jS|exact jL|exact jE|exact jP|exact True.intro|exact rfl)
   all_goals first|exact jX|(apply yA;(exact(show zO _ _ _ _ [_,_] from jY));exact⟨A2,rfl,rfl⟩;exact jT)
  ·obtain⟨A',ro,h2,rfl,hp⟩:=hh (by omega)
   have hlt:=ht _ (xD (l:=cs) (i:=cs.length-1) (by omega));have hc1:(zF chF cs)[0+((cs.length:Int)-1).toNat*2+0]?=some (I cs[cs.length-1]!.1):=by
    rw[fP h0];exact tX (λ_=>rfl) (by omega) (by decide) rfl
   refine yJ Tryz.func22 rfl rfl ?_
   repeat'(first|apply zE|apply zD|apply zC|refine jr ?_|(apply bP zK;(iterate 4 exact rfl);(focus omega);exact rfl)|refine jg ?_ ?_|(apply ja;exact jH)|(apply yS;exact rfl;exact rfl)|(apply jm;exact jI)|(apply jl;exact jI)|refine jy ?_|refine jx ?_|(apply xZ zK;exact rfl;exact rfl;(focus first|with_reducible exact mO);exact rfl;(focus repeat(first|exact yT.nil|(apply yT.one;exact rfl;exact rfl;(first|(focus(repeat(first|exact yD.zero|apply yD.succ));done)))));exact rfl)|(apply xT zK;(iterate 5 exact rfl);decide;exact rfl;decide;(focus repeat(first|exact xE.last rfl));exact rfl)|(apply zZ;exact rfl;exact rfl;exact rfl;exact rfl;exact⟨_,hW _ (hv.re jD),zA.nil⟩;rintro _ _ ⟨rfl,rfl⟩)|(apply zZ;exact rfl;exact rfl;exact rfl;exact rfl;exact⟨_,hA _ (hv.re jD),zA.nil⟩;rintro _ _ ⟨rfl,rfl⟩)|(apply wP;(iterate 4 exact rfl);exact⟨_,hF _ (hv.lock.re (by repeat(first|with_reducible exact zA.nil|with_reducible apply tT|with_reducible apply zA.drop))),zA.nil⟩;exact λ_ _ h=>h.1;(focus(repeat(first|exact xV.c rfl))))|refine jw ?_|refine jh ?_|refine ji ?_|(apply zX;exact rfl)|refine jf ?_|apply zB|apply zL|apply zM|exact jO|((with_reducible apply Ln.mk);first|rfl|(simp[hlb];first|done|omega))|exact jW|((with_reducible apply Ce.mk);first|rfl|exact hc1)|exact jU|exact True.intro|intro A|exact rfl)
   all_goals try exact jX
   rename_i b2 b3 b4;obtain⟨bg,rfl⟩:∃m,m=A:=⟨_,rfl⟩;refine yH (S:=Unit) (λ_=>[(2,zG b2 0 3),(3,zG b3 0 1),(4,zG b4 0 3),(7,gsl bg 0 (1*2) 1 2),(68,I 0),(69,I 0)])
    (λi=>(bg,⟨zF chF [(0,z)],false⟩)::(b4,⟨[I 0,I 0,.slice none 0 0],false⟩)::(b3,⟨[I (-f)],false⟩)::(b2,⟨[I k,I w,.slice (some ⟨A',0,some (2*cs.length)⟩) cs.length fl],false⟩)::h)
    (λ_=>True) (λ_=>0) () trivial jB (by repeat(first|with_reducible exact zA.nil|with_reducible apply zA.c|((with_reducible apply zA.cE);first|exact rfl|(apply pL;(focus first|exact rfl|exact uZ rfl|exact pI rfl|exact congrArg (λv=>[v]) (vR rfl rfl (by first|rfl|exact ‹_›|omega|(simp ;first|done|omega)) (by first|rfl|exact ‹_›|omega|(simp ;first|done|omega)) rfl))))|with_reducible apply zA.drop|with_reducible apply zA.pre|with_reducible apply zA.drops)) ?_
   rintro - -
   repeat'(first|apply zE|apply zD|apply zC|refine jg ?_ ?_|(apply jm;exact jI)|(apply js;exact jJ)|(apply zZ;exact rfl;exact rfl;exact rfl;exact rfl;exact⟨_,hM _ _ (hv2 _ _),zA.nil⟩;rintro _ _ ⟨A2,rfl,rfl⟩)|(apply zX;exact rfl)|apply zB|apply zW|apply zT|apply zJ|apply zU|exact jS|exact jL|exact jE|exact jP|exact True.intro|exact rfl)
   all_goals first|exact jX|(apply yA;(exact(show zO _ _ _ _ [_,_] from jY));exact⟨A2,rfl,rfl⟩;exact jT)

theorem yGb (k w:Int)(cs:List Chg)(f:Int)(v:Value)(h:SH)(hv:Has h (zF chF cs) 2 cs.length v)(hl:cs.length<=4000)(hs:∀x∈cs,x.2.length<=100000)
  (ht:∀x∈cs,-1<=x.1/\x.1<=1099511627776) (hf:0<=f/\f<=1099511627776) (hV:siv (k,w,cs)=true) (hso:srt cs) :
  zH Tryz.prog 22 [sgV k w v,I (-f)] h λr q=>MdR k w (nrm k (ini k w) (shf k w cs f)) h r q:=by
 by_cases hfk:f=0\/k=3
 ·exact yIf k w cs f v h hv hl hs ht hf hV hfk
 ·exact zWk k w cs f v h hv hl hs ht hf hV hso hfk
theorem zXj (cs:List Chg)(A a n fl:Nat)(ro:Mk)(h h1:SH)(hp:Pick h A ⟨zF chF cs,ro⟩ h1)(hn:0<n)(ha:a+n<=cs.length)(hl:cs.length<=4096) :
  zH Tryz.prog 59 [gsl A (a*2) (2*cs.length) n fl] h λr q=>∃B,r=gsl B 0 (n*2) n 2/\q=(B,⟨zF chF ((cs.drop a).take n),false⟩)::h:=by
 have hlb:=yK (f:=chF) (w:=2) (λ_=>rfl) cs;have hll:((cs.drop a).take n).length=n:=by rw[List.length_take,List.length_drop];omega
 have hlc:(zF chF ((cs.drop a).take n)).length=n*2:=by rw[yK (f:=chF) (w:=2) (λ_=>rfl),hll]
 have hsub:xF (zF chF cs) (a*2) (zF chF ((cs.drop a).take n)):=λj v hj=>by
  have hj2:=(List.getElem?_eq_some_iff.1 hj).1;rw[hlc]at hj2;have e:j=j/2*2+j%2:=by omega
  rw[e,mQ (f:=chF) (w:=2) (λ_=>rfl) (by omega) (by omega)]at hj;rw[show a*2+j=(a+j/2)*2+j%2 by omega,mQ (f:=chF) (w:=2) (λ_=>rfl) (by omega) (by omega),<-hj];rw[getElem!_pos cs (a+j/2) (by omega),getElem!_pos _ (j/2) (by omega),List.getElem_take,List.getElem_drop]
 refine yG Tryz.func59 rfl rfl ?_
 repeat'(first|apply zE|apply zD|apply zC|(apply cU zK;iterate 4 exact rfl)|refine jg ?_ ?_|(apply xT zK;(iterate 5 exact rfl);decide;exact rfl;decide;(focus repeat(first|exact xE.nil));exact rfl)|(apply qK zK;(iterate 5 exact rfl);exact⟨by decide⟩;exact up;exact pk)|(apply zX;exact rfl)|apply zB|apply zL|apply zJ|((with_reducible apply Sd.mk);first|exact True.intro|(constructor <;> first|omega|(unfold maxLen;omega)))|((with_reducible apply Ln.mk);first|rfl|omega|(simp[hlb,hlc];first|done|omega))|((with_reducible apply Su.mk);first|exact hsub)|exact zDb (λ_=>rfl)|exact True.intro|intro A|exact rfl)
 all_goals first|exact jX|exact jF (k:=by exact⟨A,vR rfl rfl (by omega) (by omega) rfl,rfl⟩)
def win (cs:List Chg)(a b:Int):List Chg:=(cs.drop (fi a cs)).take (fi (b+1) cs-fi a cs)
theorem zXi (k w:Int)(cs:List Chg)(a b:Int)(v:Value)(h:SH)(hv:Has h (zF chF cs) 2 cs.length v)(hl:cs.length<=4000)(hs:∀x∈cs,x.2.length<=100000)
  (hab:a<=b) (hb:b<=1099511627776) (ha:0<=a) (hV:siv (k,w,cs)=true) (hso:srt cs) :
  zH Tryz.prog 23 [sgV k w v,I a,I b] h λr q=>∃A,r=os A 2 (win cs a b).length/\q=ob A (zF chF (win cs a b)) (win cs a b).length++h:=by
 have hW:=λh hv=>cT (k,w,cs) v h hv (by show cs.length<=100000;omega) hs;rw[hV]at hW;have hF1:=λh hv=>cS k w cs a v h hv (by omega) hso;have hF2:∀h,Has h (zF chF cs) 2 cs.length v->zH Tryz.prog 57 [sgV k w v,I (min b 1099511627776+1)] h λr q=>r=I (fi (b+1) cs)/\q=h:=λh hv=>by
  rw[show min b 1099511627776=b by omega];exact cS k w cs (b+1) v h hv (by omega) hso
 obtain⟨g1,-,-⟩:=aN (t:=a) hso;obtain⟨g2,-,-⟩:=aN (t:=b+1) hso;unfold win;generalize fi a cs=m at *;generalize fi (b+1) cs=n at *;have hlb:=yK (f:=chF) (w:=2) (λ_=>rfl) cs;by_cases hmn:m<n
 ·obtain⟨ad,fl,rfl,hh⟩:=id hv
  obtain⟨A',ro,h2,rfl,hp⟩:=hh (by omega);have hll:((cs.drop m).take (n-m)).length=n-m:=by rw[List.length_take,List.length_drop];omega
  have hC:∀h h1,Pick h A' ⟨zF chF cs,ro⟩ h1->zH Tryz.prog 59 [gsl A' (0+((m:Int)).toNat*2) (2*cs.length) ((n:Int)-(m:Int)).toNat 0] h λr q=>∃B,r=os B 2 (n-m)/\q=ob B (zF chF ((cs.drop m).take (n-m))) (n-m)++h:=λh h1 hp=>by
   have h0:n-m≠0:=by omega
   rw[Int.toNat_natCast,Nat.zero_add,show((n:Int)-(m:Int)).toNat=n-m by omega];exact(zXj cs A' m (n-m) 0 ro h h1 hp (by omega) (by omega) (by omega)).mono λr q ⟨B,e1,e2⟩=>⟨B,by rw[vN h0];exact e1,by rw[wJ h0];exact e2⟩
  rw[hll];generalize (cs.drop m).take (n-m)=R at *;refine wF Tryz.func23 rfl rfl ?_
  repeat'(first|apply zE|apply zD|apply zC|refine jr ?_|refine jg ?_ ?_|(apply ja;exact jH)|(apply yS;exact rfl;exact rfl)|(apply pU;iterate 3 exact rfl)|(apply jm;exact jI)|(apply jl;exact jI)|refine jx ?_|(apply zZ;exact rfl;exact rfl;exact rfl;exact rfl;exact⟨_,hW _ (hv.re jD),zA.nil⟩;rintro _ _ ⟨rfl,rfl⟩)|(apply wP;(iterate 4 exact rfl);exact⟨_,hF1 _ (hv.lock.re (by repeat(first|with_reducible exact zA.nil|with_reducible apply tT|with_reducible apply zA.drop))),zA.nil⟩;exact λ_ _ h=>h.1;(focus(repeat(first|exact xV.c rfl))))|(apply wP;(iterate 4 exact rfl);exact⟨_,hF2 _ (hv.lock.re (by repeat(first|with_reducible exact zA.nil|with_reducible apply tT|with_reducible apply zA.drop))),zA.nil⟩;exact λ_ _ h=>h.1;(focus(repeat(first|exact xV.c rfl))))|(apply zZ;exact rfl;exact rfl;exact rfl;exact rfl;exact⟨_,hC _ _ (.tail hp),zA.nil⟩;rintro _ _ ⟨A2,rfl,rfl⟩)|refine jw ?_|refine jf ?_|apply zB|apply zL|apply zJ|exact jO|exact jL|exact jW|exact jE|exact jU|exact True.intro|intro A|exact rfl)
  all_goals first|exact jX|exact jF (k:=by exact⟨A2,rfl,rfl⟩)
 ·obtain⟨ad,fl,rfl,hh⟩:=id hv
  rw[show n-m=0 by omega,List.take_zero];refine wF Tryz.func23 rfl rfl ?_
  repeat'(first|apply zE|apply zD|apply zC|refine jr ?_|refine jg ?_ ?_|(apply ja;exact jH)|(apply yS;exact rfl;exact rfl)|(apply pU;iterate 3 exact rfl)|(apply jl;exact jI)|refine jx ?_|(apply zZ;exact rfl;exact rfl;exact rfl;exact rfl;exact⟨_,hW _ (hv.re jD),zA.nil⟩;rintro _ _ ⟨rfl,rfl⟩)|(apply wP;(iterate 4 exact rfl);exact⟨_,hF1 _ (hv.lock.re (by repeat(first|with_reducible exact zA.nil|with_reducible apply tT|with_reducible apply zA.drop))),zA.nil⟩;exact λ_ _ h=>h.1;(focus(repeat(first|exact xV.c rfl))))|(apply wP;(iterate 4 exact rfl);exact⟨_,hF2 _ (hv.lock.re (by repeat(first|with_reducible exact zA.nil|with_reducible apply tT|with_reducible apply zA.drop))),zA.nil⟩;exact λ_ _ h=>h.1;(focus(repeat(first|exact xV.c rfl))))|refine jw ?_|refine jd ?_|refine jf ?_|apply zB|apply zV|apply zL|apply zJ|exact jS|exact jL|exact jW|exact jU|exact True.intro|intro A|exact rfl)
  all_goals first|exact jX|exact jF (k:=by exact⟨0,rfl,(rfl:h=_)⟩)

theorem kT {α:Type}[Inhabited α]{l m:List α}{i:Nat}(h:i<l.length)(e:l.length=m.length)(hn:l[i]!≠m[i]!):l≠m:=λg=>hn (by rw[g])
theorem uS {α:Type}[Inhabited α]{l m:List α}{i:Nat}(h:i<l.length)(e:l.length=m.length)(hg:l.take i=m.take i)(hi:l[i]! = m[i]!):l.take (i+1)=m.take (i+1):=by
 rw[tN h,tN (by omega),hg,hi]
theorem chEq {a b:Chg}:xI (chF a) (chF b)=true↔a=b:=by
 obtain⟨a1,a2⟩:=a;obtain⟨b1,b2⟩:=b;simp[xI]
theorem scEq {a b:Scp}:xI (scF a) (scF b)=true↔a=b:=by
 obtain⟨a1,a2,a3⟩:=a;obtain⟨b1,b2,b3⟩:=b;simp[xI]
theorem prEq {a b:Int × Int}:xI (prF a) (prF b)=true↔a=b:=by
 obtain⟨a1,a2⟩:=a;obtain⟨b1,b2⟩:=b;simp[xI]
instance decVr :DecidableEq Vr:=λa b =>
 decidable_of_iff (a.1=b.1/\a.2.1=b.2.1/\a.2.2.1=b.2.2.1/\a.2.2.2.1=b.2.2.2.1/\a.2.2.2.2.1=b.2.2.2.2.1/\a.2.2.2.2.2.1=b.2.2.2.2.2.1/\a.2.2.2.2.2.2=b.2.2.2.2.2.2) (by
  obtain⟨a1,a2,a3,a4,a5,a6,a7⟩:=a;obtain⟨b1,b2,b3,b4,b5,b6,b7⟩:=b;simp)
theorem vrEq {a b:Vr}:xI (vrF a) (vrF b)=true↔a=b:=by
 obtain⟨a1,a2,a3,a4,a5,a6,a7⟩:=a;obtain⟨b1,b2,b3,b4,b5,b6,b7⟩:=b;simp[xI]
theorem yJr (l m:List Scp)(u v:Value)(h:SH)(hu:Has h (zF scF l) 3 l.length u)(hv:Has h (zF scF m) 3 m.length v)(h1:l.length<=100000)(h2:m.length<=100000) :
  zH Tryz.prog 26 [u,v] h λr q=>r=B (decide (l=m))/\q=h:=by
 obtain⟨ad,fl,rfl,hh⟩:=hu;obtain⟨ad2,fl2,rfl,hh2⟩:=hv;have hlb:=yK (f:=scF) (w:=3) (λ_=>rfl) l;have hmb:=yK (f:=scF) (w:=3) (λ_=>rfl) m;by_cases hlm:l.length=m.length
 ·refine yJ Tryz.func26 rfl rfl ?_
  repeat'(first|apply zE|apply zD|apply zC|refine jg ?_ ?_|refine jf ?_|apply zB|apply zL|apply zM|exact jS|fail)
  all_goals try exact jX
  refine yH (S:=Nat) (λi=>[(0,.slice ad l.length fl),(1,.slice ad2 m.length fl2),(12,I l.length),(13,I i)]) (λ_=>h) (λi=>i<=l.length/\l.take i=m.take i) (λi=>l.length-i) 0 ⟨Nat.zero_le _,rfl⟩ jB jT ?_;rintro i ⟨hi,hg⟩;by_cases hil:i<l.length
  ·obtain⟨A',ro,g1,rfl,hp⟩:=hh (by omega)
   obtain⟨A2,ro2,g2,rfl,hp2⟩:=hh2 (by omega);have hE:=@scEq l[i]! m[i]!
   repeat'(first|apply zE|apply zD|apply zC|refine jr ?_|refine jg ?_ ?_|(apply ja;exact jH)|(apply jl;exact jI)|(apply bG;(iterate 3 exact rfl);kernel_rfl;exact rfl;exact rfl;kernel_rfl;exact rfl)|refine jd ?_|(apply mA;exact rfl;all_goals intro hc)|apply zB|apply zV|apply zQ|apply xM|apply zL|apply zJ|apply zM|exact jO|((with_reducible apply Ln.mk);first|rfl|(simp[hlb,hmb];first|done|omega))|exact jW|((with_reducible apply Su.mk);first|exact xO (λ_=>rfl) (by omega))|exact True.intro|exact rfl)
   all_goals first
    |exact jX
    |(have hne:=kT hil hlm λg=>hc (hE.2 g)
      (apply yA;(exact(show zO _ _ _ _ [_] from⟨rfl,trivial⟩));exact⟨congrArg B (decide_eq_false hne).symm,rfl⟩;exact jT))
    |(have he:=uS hil hlm hg (hE.1 (Classical.not_not.1 hc))
      exact⟨i+1,⟨hil,he⟩,by show l.length-(i+1)<l.length-i;omega,jB,jT⟩)
    |(have he:=uS hil hlm hg (hE.1 hc)
      exact⟨i+1,⟨hil,he⟩,by show l.length-(i+1)<l.length-i;omega,jB,jT⟩)
  ·have he:l=m:=by rw[List.take_of_length_le (by omega),List.take_of_length_le (by omega)]at hg;exact hg
   repeat'(first|apply zE|apply zD|apply zC|refine jg ?_ ?_|refine jf ?_|apply zB|apply zW|apply zT|apply zJ|apply zU|exact jS|fail)
   all_goals first|exact jX|exact jF (k:=by exact⟨congrArg B (decide_eq_true he).symm,rfl⟩)
 ·rw[decide_eq_false (λg=>hlm (by rw[g]))]
  refine yJ Tryz.func26 rfl rfl ?_
  repeat'(first|apply zE|apply zD|apply zC|refine jg ?_ ?_|refine jd ?_|apply zB|apply zV|apply zJ|exact jS|fail)
  all_goals first|exact jX|exact jG
theorem yQi (l m:List Vr)(u v:Value)(h:SH)(hu:Has h (zF vrF l) 7 l.length u)(hv:Has h (zF vrF m) 7 m.length v)(h1:l.length<=100000)(h2:m.length<=100000) :
  zH Tryz.prog 27 [u,v] h λr q=>r=B (decide (l=m))/\q=h:=by
 obtain⟨ad,fl,rfl,hh⟩:=hu;obtain⟨ad2,fl2,rfl,hh2⟩:=hv;have hlb:=yK (f:=vrF) (w:=7) (λ_=>rfl) l;have hmb:=yK (f:=vrF) (w:=7) (λ_=>rfl) m;by_cases hlm:l.length=m.length
 ·refine yJ Tryz.func27 rfl rfl ?_
  repeat'(first|apply zE|apply zD|apply zC|refine jg ?_ ?_|refine jf ?_|apply zB|apply zL|apply zM|exact jS|fail)
  all_goals try exact jX
  refine yH (S:=Nat) (λi=>[(0,.slice ad l.length fl),(1,.slice ad2 m.length fl2),(12,I l.length),(13,I i)]) (λ_=>h) (λi=>i<=l.length/\l.take i=m.take i) (λi=>l.length-i) 0 ⟨Nat.zero_le _,rfl⟩ jB jT ?_;rintro i ⟨hi,hg⟩;by_cases hil:i<l.length
  ·obtain⟨A',ro,g1,rfl,hp⟩:=hh (by omega)
   obtain⟨A2,ro2,g2,rfl,hp2⟩:=hh2 (by omega);have hE:=@vrEq l[i]! m[i]!
   repeat'(first|apply zE|apply zD|apply zC|refine jr ?_|refine jg ?_ ?_|(apply ja;exact jH)|(apply jl;exact jI)|(apply bG;(iterate 3 exact rfl);kernel_rfl;exact rfl;exact rfl;kernel_rfl;exact rfl)|refine jd ?_|(apply mA;exact rfl;all_goals intro hc)|apply zB|apply zV|apply zQ|apply xM|apply zL|apply zJ|apply zM|exact jO|((with_reducible apply Ln.mk);first|rfl|(simp[hlb,hmb];first|done|omega))|exact jW|((with_reducible apply Su.mk);first|exact xO (λ_=>rfl) (by omega))|exact True.intro|exact rfl)
   all_goals first
    |exact jX
    |(have hne:=kT hil hlm λg=>hc (hE.2 g)
      (apply yA;(exact(show zO _ _ _ _ [_] from⟨rfl,trivial⟩));exact⟨congrArg B (decide_eq_false hne).symm,rfl⟩;exact jT))
    |(have he:=uS hil hlm hg (hE.1 (Classical.not_not.1 hc))
      exact⟨i+1,⟨hil,he⟩,by show l.length-(i+1)<l.length-i;omega,jB,jT⟩)
    |(have he:=uS hil hlm hg (hE.1 hc)
      exact⟨i+1,⟨hil,he⟩,by show l.length-(i+1)<l.length-i;omega,jB,jT⟩)
  ·have he:l=m:=by rw[List.take_of_length_le (by omega),List.take_of_length_le (by omega)]at hg;exact hg
   repeat'(first|apply zE|apply zD|apply zC|refine jg ?_ ?_|refine jf ?_|apply zB|apply zW|apply zT|apply zJ|apply zU|exact jS|fail)
   all_goals first|exact jX|exact jF (k:=by exact⟨congrArg B (decide_eq_true he).symm,rfl⟩)
 ·rw[decide_eq_false (λg=>hlm (by rw[g]))]
  refine yJ Tryz.func27 rfl rfl ?_
  repeat'(first|apply zE|apply zD|apply zC|refine jg ?_ ?_|refine jd ?_|apply zB|apply zV|apply zJ|exact jS|fail)
  all_goals first|exact jX|exact jG
theorem yMz (l m:List (Int × Int))(u v:Value)(h:SH)(hu:Has h (zF prF l) 2 l.length u)(hv:Has h (zF prF m) 2 m.length v)(h1:l.length<=100000)(h2:m.length<=100000) :
  zH Tryz.prog 28 [u,v] h λr q=>r=B (decide (l=m))/\q=h:=by
 obtain⟨ad,fl,rfl,hh⟩:=hu;obtain⟨ad2,fl2,rfl,hh2⟩:=hv;have hlb:=yK (f:=prF) (w:=2) (λ_=>rfl) l;have hmb:=yK (f:=prF) (w:=2) (λ_=>rfl) m;by_cases hlm:l.length=m.length
 ·refine yJ Tryz.func28 rfl rfl ?_
  repeat'(first|apply zE|apply zD|apply zC|refine jg ?_ ?_|refine jf ?_|apply zB|apply zL|apply zM|exact jS|fail)
  all_goals try exact jX
  refine yH (S:=Nat) (λi=>[(0,.slice ad l.length fl),(1,.slice ad2 m.length fl2),(12,I l.length),(13,I i)]) (λ_=>h) (λi=>i<=l.length/\l.take i=m.take i) (λi=>l.length-i) 0 ⟨Nat.zero_le _,rfl⟩ jB jT ?_;rintro i ⟨hi,hg⟩;by_cases hil:i<l.length
  ·obtain⟨A',ro,g1,rfl,hp⟩:=hh (by omega)
   obtain⟨A2,ro2,g2,rfl,hp2⟩:=hh2 (by omega);have hE:=@prEq l[i]! m[i]!
   repeat'(first|apply zE|apply zD|apply zC|refine jr ?_|refine jg ?_ ?_|(apply ja;exact jH)|(apply jl;exact jI)|(apply bG;(iterate 3 exact rfl);kernel_rfl;exact rfl;exact rfl;kernel_rfl;exact rfl)|refine jd ?_|(apply mA;exact rfl;all_goals intro hc)|apply zB|apply zV|apply zQ|apply xM|apply zL|apply zJ|apply zM|exact jO|((with_reducible apply Ln.mk);first|rfl|(simp[hlb,hmb];first|done|omega))|exact jW|((with_reducible apply Su.mk);first|exact xO (λ_=>rfl) (by omega))|exact True.intro|exact rfl)
   all_goals first
    |exact jX
    |(have hne:=kT hil hlm λg=>hc (hE.2 g)
      (apply yA;(exact(show zO _ _ _ _ [_] from⟨rfl,trivial⟩));exact⟨congrArg B (decide_eq_false hne).symm,rfl⟩;exact jT))
    |(have he:=uS hil hlm hg (hE.1 (Classical.not_not.1 hc))
      exact⟨i+1,⟨hil,he⟩,by show l.length-(i+1)<l.length-i;omega,jB,jT⟩)
    |(have he:=uS hil hlm hg (hE.1 hc)
      exact⟨i+1,⟨hil,he⟩,by show l.length-(i+1)<l.length-i;omega,jB,jT⟩)
  ·have he:l=m:=by rw[List.take_of_length_le (by omega),List.take_of_length_le (by omega)]at hg;exact hg
   repeat'(first|apply zE|apply zD|apply zC|refine jg ?_ ?_|refine jf ?_|apply zB|apply zW|apply zT|apply zJ|apply zU|exact jS|fail)
   all_goals first|exact jX|exact jF (k:=by exact⟨congrArg B (decide_eq_true he).symm,rfl⟩)
 ·rw[decide_eq_false (λg=>hlm (by rw[g]))]
  refine yJ Tryz.func28 rfl rfl ?_
  repeat'(first|apply zE|apply zD|apply zC|refine jg ?_ ?_|refine jd ?_|apply zB|apply zV|apply zJ|exact jS|fail)
  all_goals first|exact jX|exact jG
theorem yFn (l m:List Chg)(u v:Value)(h:SH)(hu:Has h (zF chF l) 2 l.length u)(hv:Has h (zF chF m) 2 m.length v)(h1:l.length<=100000)(h2:m.length<=100000) :
  zH Tryz.prog 62 [u,v] h λr q=>r=B (decide (l=m))/\q=h:=by
 obtain⟨ad,fl,rfl,hh⟩:=hu;obtain⟨ad2,fl2,rfl,hh2⟩:=hv;have hlb:=yK (f:=chF) (w:=2) (λ_=>rfl) l;have hmb:=yK (f:=chF) (w:=2) (λ_=>rfl) m;by_cases hlm:l.length=m.length
 ·refine yJ Tryz.func62 rfl rfl ?_
  repeat'(first|apply zE|apply zD|apply zC|refine jg ?_ ?_|refine jf ?_|apply zB|apply zL|apply zM|exact jS|fail)
  all_goals try exact jX
  refine yH (S:=Nat) (λi=>[(0,.slice ad l.length fl),(1,.slice ad2 m.length fl2),(12,I l.length),(13,I i)]) (λ_=>h) (λi=>i<=l.length/\l.take i=m.take i) (λi=>l.length-i) 0 ⟨Nat.zero_le _,rfl⟩ jB jT ?_;rintro i ⟨hi,hg⟩;by_cases hil:i<l.length
  ·obtain⟨A',ro,g1,rfl,hp⟩:=hh (by omega)
   obtain⟨A2,ro2,g2,rfl,hp2⟩:=hh2 (by omega);have hE:=@chEq l[i]! m[i]!
   repeat'(first|apply zE|apply zD|apply zC|refine jr ?_|refine jg ?_ ?_|(apply ja;exact jH)|(apply jl;exact jI)|(apply bG;(iterate 3 exact rfl);kernel_rfl;exact rfl;exact rfl;kernel_rfl;exact rfl)|refine jd ?_|(apply mA;exact rfl;all_goals intro hc)|apply zB|apply zV|apply zQ|apply xM|apply zL|apply zJ|apply zM|exact jO|((with_reducible apply Ln.mk);first|rfl|(simp[hlb,hmb];first|done|omega))|exact jW|((with_reducible apply Su.mk);first|exact xO (λ_=>rfl) (by omega))|exact True.intro|exact rfl)
   all_goals first
    |exact jX
    |(have hne:=kT hil hlm λg=>hc (hE.2 g)
      (apply yA;(exact(show zO _ _ _ _ [_] from⟨rfl,trivial⟩));exact⟨congrArg B (decide_eq_false hne).symm,rfl⟩;exact jT))
    |(have he:=uS hil hlm hg (hE.1 (Classical.not_not.1 hc))
      exact⟨i+1,⟨hil,he⟩,by show l.length-(i+1)<l.length-i;omega,jB,jT⟩)
    |(have he:=uS hil hlm hg (hE.1 hc)
      exact⟨i+1,⟨hil,he⟩,by show l.length-(i+1)<l.length-i;omega,jB,jT⟩)
  ·have he:l=m:=by rw[List.take_of_length_le (by omega),List.take_of_length_le (by omega)]at hg;exact hg
   repeat'(first|apply zE|apply zD|apply zC|refine jg ?_ ?_|refine jf ?_|apply zB|apply zW|apply zT|apply zJ|apply zU|exact jS|fail)
   all_goals first|exact jX|exact jF (k:=by exact⟨congrArg B (decide_eq_true he).symm,rfl⟩)
 ·rw[decide_eq_false (λg=>hlm (by rw[g]))]
  refine yJ Tryz.func62 rfl rfl ?_
  repeat'(first|apply zE|apply zD|apply zC|refine jg ?_ ?_|refine jd ?_|apply zB|apply zV|apply zJ|exact jS|fail)
  all_goals first|exact jX|exact jG
theorem yDf (l:List Scp)(v:Value)(h:SH)(hv:Has h (zF scF l) 3 l.length v)(hl:l.length<=100000) :
  zH Tryz.prog 48 [v] h λr q=>∃A,r=os A 3 l.length/\q=ob A (zF scF l) l.length++h:=by
 obtain⟨ad,fl,rfl,hh⟩:=hv;have hlb:=yK (f:=scF) (w:=3) (λ_=>rfl) l;by_cases hn:l.length=0
 ·obtain rfl:l=[]:=List.length_eq_zero_iff.1 hn
  refine yG Tryz.func48 rfl rfl ?_
  repeat'(first|apply zE|apply zD|apply zC|(apply gE zK;iterate 5 exact rfl)|refine jg ?_ ?_|apply zB|apply zJ|exact jS|fail)
  all_goals first|exact jX|exact jF (k:=by exact⟨0,rfl,(rfl:h=_)⟩)
 ·obtain⟨A',ro,g1,rfl,hp⟩:=hh hn
  have hpos:∀A,os A 3 l.length=gsl A 0 (l.length*3) l.length 3:=λA=>vN hn;have hob:∀A,(A,(⟨zF scF l,false⟩:Blk))::h=ob A (zF scF l) l.length++h:=λA=>by rw[wJ hn];rfl
  refine yG Tryz.func48 rfl rfl ?_
  repeat'(first|apply zE|apply zD|apply zC|refine jg ?_ ?_|(apply qD zK;(iterate 5 exact rfl);exact⟨by decide⟩;exact pk)|apply zB|apply zJ|((with_reducible apply Sd.mk);first|exact True.intro|(constructor <;> first|omega|(unfold maxLen;omega)))|((with_reducible apply Ln.mk);first|omega|(simp[hlb];first|done|omega))|exact jU|exact True.intro|intro A|exact rfl)
  all_goals first|exact jX|exact jF (k:=by exact⟨A,(hpos A).symm,hob A⟩)
theorem yBi (l:List Vr)(v:Value)(h:SH)(hv:Has h (zF vrF l) 7 l.length v)(hl:l.length<=100000) :
  zH Tryz.prog 49 [v] h λr q=>∃A,r=os A 7 l.length/\q=ob A (zF vrF l) l.length++h:=by
 obtain⟨ad,fl,rfl,hh⟩:=hv;have hlb:=yK (f:=vrF) (w:=7) (λ_=>rfl) l;by_cases hn:l.length=0
 ·obtain rfl:l=[]:=List.length_eq_zero_iff.1 hn
  refine yG Tryz.func49 rfl rfl ?_
  repeat'(first|apply zE|apply zD|apply zC|(apply gE zK;iterate 5 exact rfl)|refine jg ?_ ?_|apply zB|apply zJ|exact jS|fail)
  all_goals first|exact jX|exact jF (k:=by exact⟨0,rfl,(rfl:h=_)⟩)
 ·obtain⟨A',ro,g1,rfl,hp⟩:=hh hn
  have hpos:∀A,os A 7 l.length=gsl A 0 (l.length*7) l.length 7:=λA=>vN hn;have hob:∀A,(A,(⟨zF vrF l,false⟩:Blk))::h=ob A (zF vrF l) l.length++h:=λA=>by rw[wJ hn];rfl
  refine yG Tryz.func49 rfl rfl ?_
  repeat'(first|apply zE|apply zD|apply zC|refine jg ?_ ?_|(apply qD zK;(iterate 5 exact rfl);exact⟨by decide⟩;exact pk)|apply zB|apply zJ|((with_reducible apply Sd.mk);first|exact True.intro|(constructor <;> first|omega|(unfold maxLen;omega)))|((with_reducible apply Ln.mk);first|omega|(simp[hlb];first|done|omega))|exact jU|exact True.intro|intro A|exact rfl)
  all_goals first|exact jX|exact jF (k:=by exact⟨A,(hpos A).symm,hob A⟩)
theorem yFe (l:List (Int × Int))(v:Value)(h:SH)(hv:Has h (zF prF l) 2 l.length v)(hl:l.length<=100000) :
  zH Tryz.prog 51 [v] h λr q=>∃A,r=os A 2 l.length/\q=ob A (zF prF l) l.length++h:=by
 obtain⟨ad,fl,rfl,hh⟩:=hv;have hlb:=yK (f:=prF) (w:=2) (λ_=>rfl) l;by_cases hn:l.length=0
 ·obtain rfl:l=[]:=List.length_eq_zero_iff.1 hn
  refine yG Tryz.func51 rfl rfl ?_
  repeat'(first|apply zE|apply zD|apply zC|(apply gE zK;iterate 5 exact rfl)|refine jg ?_ ?_|apply zB|apply zJ|exact jS|fail)
  all_goals first|exact jX|exact jF (k:=by exact⟨0,rfl,(rfl:h=_)⟩)
 ·obtain⟨A',ro,g1,rfl,hp⟩:=hh hn
  have hpos:∀A,os A 2 l.length=gsl A 0 (l.length*2) l.length 2:=λA=>vN hn;have hob:∀A,(A,(⟨zF prF l,false⟩:Blk))::h=ob A (zF prF l) l.length++h:=λA=>by rw[wJ hn];rfl
  refine yG Tryz.func51 rfl rfl ?_
  repeat'(first|apply zE|apply zD|apply zC|refine jg ?_ ?_|(apply qD zK;(iterate 5 exact rfl);exact⟨by decide⟩;exact pk)|apply zB|apply zJ|((with_reducible apply Sd.mk);first|exact True.intro|(constructor <;> first|omega|(unfold maxLen;omega)))|((with_reducible apply Ln.mk);first|omega|(simp[hlb];first|done|omega))|exact jU|exact True.intro|intro A|exact rfl)
  all_goals first|exact jX|exact jF (k:=by exact⟨A,(hpos A).symm,hob A⟩)
theorem yPa (l:List Chg)(v:Value)(h:SH)(hv:Has h (zF chF l) 2 l.length v)(hl:l.length<=100000) :
  zH Tryz.prog 52 [v] h λr q=>∃A,r=os A 2 l.length/\q=ob A (zF chF l) l.length++h:=by
 obtain⟨ad,fl,rfl,hh⟩:=hv;have hlb:=yK (f:=chF) (w:=2) (λ_=>rfl) l;by_cases hn:l.length=0
 ·obtain rfl:l=[]:=List.length_eq_zero_iff.1 hn
  refine yG Tryz.func52 rfl rfl ?_
  repeat'(first|apply zE|apply zD|apply zC|(apply gE zK;iterate 5 exact rfl)|refine jg ?_ ?_|apply zB|apply zJ|exact jS|fail)
  all_goals first|exact jX|exact jF (k:=by exact⟨0,rfl,(rfl:h=_)⟩)
 ·obtain⟨A',ro,g1,rfl,hp⟩:=hh hn
  have hpos:∀A,os A 2 l.length=gsl A 0 (l.length*2) l.length 2:=λA=>vN hn;have hob:∀A,(A,(⟨zF chF l,false⟩:Blk))::h=ob A (zF chF l) l.length++h:=λA=>by rw[wJ hn];rfl
  refine yG Tryz.func52 rfl rfl ?_
  repeat'(first|apply zE|apply zD|apply zC|refine jg ?_ ?_|(apply qD zK;(iterate 5 exact rfl);exact⟨by decide⟩;exact pk)|apply zB|apply zJ|((with_reducible apply Sd.mk);first|exact True.intro|(constructor <;> first|omega|(unfold maxLen;omega)))|((with_reducible apply Ln.mk);first|omega|(simp[hlb];first|done|omega))|exact jU|exact True.intro|intro A|exact rfl)
  all_goals first|exact jX|exact jF (k:=by exact⟨A,(hpos A).symm,hob A⟩)
theorem yIb (l:List Sx)(v:Value)(h:SH)(hv:Has h (zF sgF l) 3 l.length v)(hl:l.length<=100000) :
  zH Tryz.prog 50 [v] h λr q=>∃A,r=os A 3 l.length/\q=ob A (zF sgF l) l.length++h:=by
 obtain⟨ad,fl,rfl,hh⟩:=hv;have hlb:=yK (f:=sgF) (w:=3) (λ_=>rfl) l;by_cases hn:l.length=0
 ·obtain rfl:l=[]:=List.length_eq_zero_iff.1 hn
  refine yG Tryz.func50 rfl rfl ?_
  repeat'(first|apply zE|apply zD|apply zC|(apply gE zK;iterate 5 exact rfl)|refine jg ?_ ?_|apply zB|apply zJ|exact jS|fail)
  all_goals first|exact jX|exact jF (k:=by exact⟨0,rfl,(rfl:h=_)⟩)
 ·obtain⟨A',ro,g1,rfl,hp⟩:=hh hn
  have hpos:∀A,os A 3 l.length=gsl A 0 (l.length*3) l.length 3:=λA=>vN hn;have hob:∀A,(A,(⟨zF sgF l,false⟩:Blk))::h=ob A (zF sgF l) l.length++h:=λA=>by rw[wJ hn];rfl
  refine yG Tryz.func50 rfl rfl ?_
  repeat'(first|apply zE|apply zD|apply zC|refine jg ?_ ?_|(apply qD zK;(iterate 5 exact rfl);exact⟨by decide⟩;exact pk)|apply zB|apply zJ|((with_reducible apply Sd.mk);first|exact True.intro|(constructor <;> first|omega|(unfold maxLen;omega)))|((with_reducible apply Ln.mk);first|omega|(simp[hlb];first|done|omega))|exact jU|exact True.intro|intro A|exact rfl)
  all_goals first|exact jX|exact jF (k:=by exact⟨A,(hpos A).symm,hob A⟩)

theorem zNu {ρ:Nat->Nat}{D:Nat->Prop}:∀{l:List Value},(∀v∈l,VR ρ D v v)->VRs ρ D l l
 |[],_=>.nil
 |_::_,h=>.cons (h _ List.mem_cons_self) (zNu λv hv=>h v (List.mem_cons_of_mem _ hv))
section
variable {P:Program} {sz:Nat} {ops:Array Oper} {Q:wA} {rest:List Oper} {a:AF} {h:SH} {t:Nat} {ty:TypeId} {pos:String} {aft:Array Edge}
theorem tE {x:Operand}{xs:List Operand}{ts:Array TypeId}{f:FuncId}{first captured:Array Value}{as0:List Value}{F:Value->Value}{w n:Nat}{c:List Value}{i0:Nat}{last:qP}{cl:SCl}{p:SH}
  (hx:ev a x=some (.func (.func f) first captured)) (hxs:evs a xs=some as0) (hf:xL P f=true) (hN:Nat.blt t sz=true)
  (hr:zH P f (first.toList++as0++captured.toList) p (λr q=>∃A,r=F (os A w n)/\q=ob A c n++p)/\zA h p)
  (hF:∀ρ D u v,VR ρ D u v->VR ρ D (F u) (F v)) (hc:∀v∈c,yB v=true\/∃ad len fl,v=.slice ad len fl/\∃y∈p,v∈y.2.cells)
  (hok:∀A,(Mode.draw i0 last cl).efOk ops (ob A c n++p)) (kk:∀A,GO ((Mode.draw i0 last cl).ef h) P sz ops Q rest ((t,F (os A w n))::a) (ob A c n++p)) :
  GO (.draw i0 last cl) P sz ops Q (⟨some t,.call { callee:=.value x,args:=xs.toArray,argTypes:=ts },ty,pos,aft,none⟩::rest) a h:=by
 refine zNp (k:=if n=0 then 0 else 1) (V:=λns=>F (os ns.head! w n)) (G:=λns=>ob ns.head! c n++p) hx hxs hf hN hr.1 hr.2 (λr q ⟨A,h1,h2⟩=>?_) (λns h=>?_) (λns ms ρ D h1 h2 h3 h4 h5 h6 h7=>?_) (λms _=>hok _) (λms _=>kk _)
 ·by_cases hn:n=0
  ·subst hn;exact⟨[],rfl,h1,h2▸.nil⟩
  ·exact⟨[A],by rw[if_neg hn];rfl,h1,h2▸.nil⟩
 ·by_cases hn:n=0
  ·subst hn
   obtain rfl:=List.length_eq_zero_iff.1 h;exact List.Perm.refl _
  ·rw[if_neg hn]at h
   match ns,h with
   |[A],_=>rw[wJ hn];exact List.Perm.refl _
 ·by_cases hn:n=0
  ·subst hn
   exact⟨hF _ _ _ _ (.const rfl),.same λx hx=>hx⟩
  ·rw[if_neg hn]at h1 h2
   match ns,ms,h1,h2 with
   |[A],[B],_,_ =>
    have e:ρ B=A:=List.head_eq_of_cons_eq h3;rw[wJ hn,wJ hn,vN hn,vN hn];refine⟨hF _ _ _ _ (.slc' e (h5 B (by simp))),.cons e (zNu λv hv=>?_) (.same λx hx=>hx)⟩;rcases hc v hv with g|⟨ad,len,fl,rfl,y,hy,hm⟩
    ·exact .const g
    ·exact h7 y hy ad len fl hm
end
theorem aQ {α:Type}{f:α->List Value}(h:∀x,∀v∈f x,yB v=true){l:List α}{p:SH}:∀v∈zF f l,yB v=true\/∃ad len fl,v=.slice ad len fl/\∃y∈p,v∈y.2.cells:=λv hv=>.inl (fO h v hv)
theorem chC {l:List Chg}{p:SH}:∀v∈zF chF l,yB v=true\/∃ad len fl,v=.slice ad len fl/\∃y∈p,v∈y.2.cells:=aQ λx v hv=>by
 simp only[List.mem_cons,List.not_mem_nil,or_false]at hv;rcases hv with rfl|rfl <;> rfl
theorem prC {l:List (Int × Int)}{p:SH}:∀v∈zF prF l,yB v=true\/∃ad len fl,v=.slice ad len fl/\∃y∈p,v∈y.2.cells:=aQ λx v hv=>by
 simp only[List.mem_cons,List.not_mem_nil,or_false]at hv;rcases hv with rfl|rfl <;> rfl
theorem scC {l:List Scp}{p:SH}:∀v∈zF scF l,yB v=true\/∃ad len fl,v=.slice ad len fl/\∃y∈p,v∈y.2.cells:=aQ λx v hv=>by
 simp only[List.mem_cons,List.not_mem_nil,or_false]at hv;rcases hv with rfl|rfl|rfl <;> rfl
theorem vrC {l:List Vr}{p:SH}:∀v∈zF vrF l,yB v=true\/∃ad len fl,v=.slice ad len fl/\∃y∈p,v∈y.2.cells:=aQ λx v hv=>by
 simp only[List.mem_cons,List.not_mem_nil,or_false]at hv;rcases hv with rfl|rfl|rfl|rfl|rfl|rfl|rfl <;> rfl
theorem sgC {l:List Sx}{n:Nat}{v:Value}{h p:SH}(hv:Has h (zF sgF l) 3 n v)(hn:l.length=n)(ht:zA p h):∀v∈zF sgF l,yB v=true\/∃ad len fl,v=.slice ad len fl/\∃y∈p,v∈y.2.cells:=by
 obtain⟨ad,fl,rfl,hh⟩:=hv;by_cases h0:n=0
 ·obtain rfl:l=[]:=List.length_eq_zero_iff.1 (by omega)
  intro v hv;cases hv
 ·obtain⟨A,ro,h1,_,hp⟩:=hh h0
  obtain⟨h2,hp2,_⟩:=ht.pick hp;intro v hv;have hm:∀l:List Sx,v∈zF sgF l->yB v=true\/∃ad len fl,v=.slice ad len fl:=by
   intro l
   induction l with
   |nil=>intro g;cases g
   |cons x r ih =>
    intro g;rcases List.mem_append.1 g with g|g
    ·simp only[List.mem_cons,List.not_mem_nil,or_false]at g
     rcases g with rfl|rfl|rfl
     ·exact .inl rfl
     ·exact .inl rfl
     ·exact .inr ⟨_,_,_,rfl⟩
    ·exact ih g
  rcases hm l hv with g|⟨ad,len,fl,rfl⟩
  ·exact .inl g
  ·exact .inr ⟨ad,len,fl,rfl,_,hp2.mem,hv⟩
abbrev Sga :=Nat × Sgc
def osx (x:Sga):Sx:=(x.2.1,x.2.2.1,(if x.2.2.2.length=0 then none else some ⟨x.1,0,some (x.2.2.2.length*2)⟩),x.2.2.2.length,if x.2.2.2.length=0 then 0 else 2)
def chB (L:List Sga):SH:=L.reverse.flatMap λx=>ob x.1 (zF chF x.2.2.2) x.2.2.2.length
theorem yLv :chB []=[]:=rfl
theorem zKq (L:List Sga)(x:Sga):chB (L++[x])=ob x.1 (zF chF x.2.2.2) x.2.2.2.length++chB L:=by unfold chB;rw[List.reverse_append];rfl
theorem zKc {α:Type}[Inhabited α]{f:α->List Value}{w:Nat}(hw:∀x,(f x).length=w):∀{l:List α} {i j:Nat} {x:α} {v:Value},i<l.length->j<w->(f l[i]!).set j v=f x->(zF f l).set (i*w+j) v=zF f (l.set i x)
 |[],i,j,x,v,h,_,_=>by simp at h
 |y::r,0,j,x,v,_,hj,e=>by
  simp only[zF,Nat.zero_mul,Nat.zero_add,List.set_cons_zero];rw[List.set_append_left _ _ (by rw[hw];exact hj)];have e:(f y).set j v=f x:=e;rw[e]
 |y::r,i+1,j,x,v,h,hj,e=>by
  simp only[zF,List.set_cons_succ];rw[List.set_append_right _ _ (by rw[hw,Nat.add_mul];omega),hw,show(i+1)*w+j-w=i*w+j by rw[Nat.add_mul];omega,
   zKc hw (by simpa using h) hj (by simpa using e)]
theorem oH {α:Type}[Inhabited α]{f:α->List Value}{w:Nat}(hw:∀x,(f x).length=w){l:List α}{i j:Nat}{x:α}{v:Value}(h:i<l.length)(hj:j<w)(e:(f l[i]!).set j v=f x):yD (zF f l) (0+((i:Int)).toNat*w+j) v (zF f (l.set i x)):=by
 rw[<-zKc hw h hj e,Int.toNat_natCast,Nat.zero_add];refine yD.any ?_;rw[yK hw]
 calc i*w+j<(i+1)*w:=by rw[Nat.add_mul];omega
  _<=l.length*w:=Nat.mul_le_mul_right w h

structure Sm (t:Trc):Prop where
 da:t.da.length<=1000
 ve:t.ve.length<=1000
 co:t.co.length<=1000
 ss:t.ss.length<=64
 vs:t.vs.length<=200
 gs:t.gs.length<=100
 ga:t.ga.length<=100
 sn:∀c∈t.ss,c.1.length<=1000
 vn:∀c∈t.vs,c.1.length<=1000
 cs:∀g∈t.gs,g.2.2.length<=1000/\∀c∈g.2.2,c.2.length<=1000
def clH (t:Trc)(A1 A2 A3 A4:Nat)(L:List Sga)(h:SH):SH :=
 chB L++(ob A4 (zF prF t.ga) t.ga.length++(ob A3 (zF sgF (L.map osx)) t.gs.length++(ob A2 (zF vrF t.vs) t.vs.length++(ob A1 (zF scF t.ss) t.ss.length++h))))
abbrev clV (t:Trc)(A1 A2 A3 A4:Nat):Value:=trV t (os A1 3 t.ss.length) (os A2 7 t.vs.length) (os A3 3 t.gs.length) (os A4 2 t.ga.length)
theorem zOj (t:Trc)(v:Value)(h:SH)(hv:TrH h t v)(hs:Sm t):zH Tryz.prog 21 [v] h λr q=>∃A1 A2 A3 A4 L,L.map (·.2)=t.gs/\r=clV t A1 A2 A3 A4/\q=clH t A1 A2 A3 A4 L h:=by
 obtain⟨s,w,g,a,rfl,h1,h2,⟨xs,hxl,h3,hxs⟩,h4⟩:=hv;obtain⟨f1,f2,f3,f4,f5,f6,f7,f8,f9,f10⟩:=hs;have hc1:=λh h1=>yDf t.ss s h h1 (by omega);have hc2:=λh h1=>yBi t.vs w h h1 (by omega);have hc3:∀h,Has h (zF sgF xs) 3 t.gs.length g->zH Tryz.prog 50 [g] h λr q=>∃A,r=os A 3 t.gs.length/\q=ob A (zF sgF xs) t.gs.length++h:=λh h1=>by rw[<-hxl]at h1 ⊢;exact yIb xs g h h1 (by omega)
 have hc4:=λh h1=>yFe t.ga a h h1 (by omega);have hxc:=λp ht=>sgC (p:=p) h3 hxl ht;obtain⟨sc,da,ve,co,ss,vs,gs,ga,en⟩:=t;unfold clV trV clH;dsimp only at *;obtain⟨ad1,fl1,rfl,hh1⟩:=id h1;obtain⟨ad2,fl2,rfl,hh2⟩:=id h2;obtain⟨ad3,fl3,rfl,hh3⟩:=id h3;obtain⟨ad4,fl4,rfl,hh4⟩:=id h4;refine yG Tryz.func21 rfl rfl ?_
 repeat'(first|apply zE|apply zD|apply zC|refine jr ?_|refine jg ?_ ?_|(apply jm;exact jI)|(apply yV zK;(iterate 4 exact rfl);exact up)|refine jy ?_|refine jx ?_|(apply tE (F:=λv=>v);(iterate 4 exact rfl);exact⟨hc1 _ (h1.re jD),zA.nil⟩;(focus(intro ρ D u v huv;(repeat(first|exact huv))));(focus first|exact scC))|(apply tE (F:=λv=>v);(iterate 4 exact rfl);exact⟨hc2 _ (h2.re (by repeat(first|with_reducible exact zA.nil|with_reducible apply zA.drop|with_reducible apply zA.drops))),zA.nil⟩;(focus(intro ρ D u v huv;(repeat(first|exact huv))));(focus first|exact vrC))|(apply tE (F:=λv=>v);(iterate 4 exact rfl);exact⟨hc3 _ (h3.re (by repeat(first|with_reducible exact zA.nil|with_reducible apply zA.drop|with_reducible apply zA.drops))),zA.nil⟩;(focus(intro ρ D u v huv;(repeat(first|exact huv))));(focus first|exact hxc _ (by repeat(first|with_reducible exact zA.nil|with_reducible apply zA.drop|with_reducible apply zA.drops))))|(apply tE (F:=λv=>v);(iterate 4 exact rfl);exact⟨hc4 _ (h4.re (by repeat(first|with_reducible exact zA.nil|with_reducible apply zA.drop|with_reducible apply zA.drops))),zA.nil⟩;(focus(intro ρ D u v huv;(repeat(first|exact huv))));(focus first|exact prC))|apply zB|apply zM|exact jS|exact jL|exact jE|exact jZ|exact True.intro|refine Rc.mk ⟨_,_,pk,?_⟩|exact Or.inl rfl|refine Or.inr (And.intro ?_ ?_)|apply And.intro|apply Or.inr|intro A|exact rfl)
 all_goals try exact jX
 rename_i b1 b2 A1 A2 A3;obtain⟨A4,rfl⟩:∃m,m=A:=⟨_,rfl⟩;refine yH (S:=List Sga) (λL=>[(1,zG b1 0 9),(2,zG b2 0 9),(22,I gs.length),(23,I L.length)])
  (λL=>chB L++(ob A4 (zF prF ga) ga.length++(ob A3 (zF sgF (L.map osx++xs.drop L.length)) gs.length++(ob A2 (zF vrF vs) vs.length++(ob A1 (zF scF ss) ss.length ++
   ((b2,⟨[I 0,S [],S [],S [],.slice none 0 0,.slice none 0 0,.slice none 0 0,.slice none 0 0,I 0],false⟩)::(b1,⟨[I sc,S da,S ve,S co,os A1 3 ss.length,os A2 7 vs.length,os A3 3 gs.length,os A4 2 ga.length,I en],false⟩)::h))))))
  (λL=>L.length<=gs.length/\L.map (·.2)=gs.take L.length) (λL=>gs.length-L.length) [] ⟨Nat.zero_le _,rfl⟩ jB (by exact zA.nil) ?_
 rintro L ⟨hi,hg⟩;by_cases hil:L.length<gs.length
 ·have hn:gs.length≠0:=by omega
  obtain⟨e1,e2,e3⟩:=hxs _ hil;obtain⟨k1,k2⟩:=f10 _ (xD hil);have hC:=λh h1=>yPa gs[L.length]!.2.2 (sxV xs[L.length]!) h h1 (by omega);have hYl:(L.map osx++xs.drop L.length).length=gs.length:=by rw[List.length_append,List.length_map,List.length_drop];omega
  have hlb:=yK (f:=sgF) (w:=3) (λ_=>rfl) (L.map osx++xs.drop L.length);have hYi:(L.map osx++xs.drop L.length)[L.length]! = xs[L.length]!:=by
   rw[getElem!_pos _ _ (by omega),List.getElem_append_right (by simp),getElem!_pos xs _ (by omega)];simp
  have hcell:(zF sgF (L.map osx++xs.drop L.length))[0+((L.length:Nat):Int).toNat*3+2]?=some (sxV xs[L.length]!):=by
   rw[<-hYi];exact vL (λ_=>rfl) (by omega) (by decide) rfl
  have hset:∀a,yD (zF sgF (L.map osx++xs.drop L.length)) (0+((L.length:Nat):Int).toNat*3+2) (os a 2 gs[L.length]!.2.2.length) (zF sgF ((L++[(a,gs[L.length]!)]).map osx++xs.drop (L++[(a,gs[L.length]!)]).length)):=by
   intro a;have hst:(L.map osx++xs.drop L.length).set L.length (osx (a,gs[L.length]!))=(L++[(a,gs[L.length]!)]).map osx++xs.drop (L++[(a,gs[L.length]!)]).length:=by
    rw[List.set_append_right _ _ (by simp),List.length_map,Nat.sub_self,wD (by omega),List.set_cons_zero,List.map_append,List.append_assoc,List.length_append];rfl
   rw[<-hst];refine oH (w:=3) (λ_=>rfl) (by omega) (by decide) ?_;rw[hYi];show [I xs[L.length]!.1,I xs[L.length]!.2.1,os a 2 gs[L.length]!.2.2.length]=_;rw[e1,e2];rfl
  rw[wJ hn];show SWp _ _ _ _ _ (chB L++(ob A4 (zF prF ga) ga.length++((A3,⟨zF sgF (L.map osx++xs.drop L.length),false⟩)::(ob A2 (zF vrF vs) vs.length++_))));have hos3:=vN (A:=A3) (w:=3) hn;rw[hos3]
  repeat'(first|apply zE|apply zD|apply zC|refine jr ?_|refine jg ?_ ?_|(apply ja;exact jH)|(apply jm;exact jI)|(apply yV zK;(iterate 4 exact rfl);exact up)|(apply tE (F:=λv=>v);(iterate 4 exact rfl);exact⟨hC _ (e3.re (by repeat(first|with_reducible exact zA.nil|with_reducible apply zA.drop|with_reducible apply zA.drops))),zA.nil⟩;(focus(intro ρ D u v huv;(repeat(first|exact huv))));(focus first|exact chC))|refine jd ?_|apply zB|apply zQ|apply zL|apply zM|exact jO|((with_reducible apply Ln.mk);first|rfl|omega|(simp[hlb,hYl];first|done|omega))|exact jW|((with_reducible apply Ce.mk);first|rfl|exact hcell)|((with_reducible apply Se.mk);first|exact hset _)|exact True.intro|refine Rc.mk ⟨_,_,pk,?_⟩|exact Or.inl rfl|apply And.intro|apply Or.inr|intro A|exact rfl)
  all_goals try exact jX
  refine⟨L++[(A,gs[L.length]!)],⟨by rw[List.length_append];exact hil,?_⟩,by rw[List.length_append];show gs.length-(L.length+1)<_;omega,⟨rfl,rfl,rfl,congrArg some (congrArg I (by rw[List.length_append];rfl)),trivial⟩,?_⟩
  ·rw[List.map_append,hg,List.length_append]
   exact(tN hil).symm
  ·rw[zKq,wJ hn,List.append_assoc]
   exact zA.nil
 ·obtain hl:L.length=gs.length:=by omega
  rw[hl,List.take_length]at hg;have hd:xs.drop L.length=[]:=List.drop_of_length_le (by omega);rw[hd,List.append_nil]
  repeat'(first|apply zE|apply zD|apply zC|refine jg ?_ ?_|(apply jl;exact jI)|(apply js;exact jJ)|refine jf ?_|apply zB|apply zW|apply zT|apply zJ|apply zU|exact jS|exact jL|exact jP|exact jU|exact True.intro|exact rfl)
  all_goals first|exact jX|(apply yA;(exact(show zO _ _ _ _ [_] from(sG zK rfl rfl rfl (by exact pk) (by first|rfl|exact ‹_›|omega|(simp ;first|done|omega)) (by first|rfl|exact ‹_›|omega|(simp ;first|done|omega)) trivial)));exact⟨A1,A2,A3,A4,L,hg,rfl,rfl⟩;exact jT)

theorem tY.re {h h':SH}{gs:List Sgc}{v:Value}(k:tY h gs v)(t:zA h' h):tY h' gs v:=by
 obtain⟨xs,e,k,k2⟩:=k;exact⟨xs,e,k.re t,λi hi=>⟨(k2 i hi).1,(k2 i hi).2.1,(k2 i hi).2.2.re t⟩⟩
theorem TrH.re {h h':SH}{t:Trc}{v:Value}(k:TrH h t v)(u:zA h' h):TrH h' t v:=by
 obtain⟨s,w,g,a,e,h1,h2,h3,h4⟩:=k;exact⟨s,w,g,a,e,h1.re u,h2.re u,h3.re u,h4.re u⟩
theorem yAq (c d:Sgc)(u v:Value)(h:SH)(hu:Has h (zF chF c.2.2) 2 c.2.2.length u)(hv:Has h (zF chF d.2.2) 2 d.2.2.length v)(h1:c.2.2.length<=100000)(h2:d.2.2.length<=100000) :
  zH Tryz.prog 30 [sgV c.1 c.2.1 u,sgV d.1 d.2.1 v] h λr q=>r=B (decide (c=d))/\q=h:=by
 obtain⟨k,w,cs⟩:=c;obtain⟨k',w',cs'⟩:=d;dsimp only at *;have hE:=λh a b=>yFn cs cs' u v h a b h1 h2;obtain⟨ad,fl,rfl,-⟩:=id hu;obtain⟨ad2,fl2,rfl,-⟩:=id hv;refine yJ Tryz.func30 rfl rfl ?_
 repeat'(first|apply zE|apply zD|apply zC|refine jg ?_ ?_|(apply jm;exact jI)|refine jx ?_|(apply zZ;exact rfl;exact rfl;exact rfl;exact rfl;exact⟨_,hE _ (hu.re jD) (hv.re jD),zA.nil⟩;rintro _ _ ⟨rfl,rfl⟩)|refine jw ?_|refine jk ?_|(apply rX;(iterate 3 exact rfl);all_goals intro hc)|apply zB|apply zJ|exact jS|exact jL|exact jE|exact True.intro|intro A|exact rfl)
 all_goals first
  |exact jX
  |exact jF (k:=by exact⟨congrArg B (decide_eq_false λg=>by injection g with g1 g2;injection g2 with g2 g3;contradiction).symm,rfl⟩)
  |exact jF (k:=by exact⟨congrArg B (decide_eq_decide.2 ⟨λg=>by subst_vars;rfl,λg=>by injection g with g1 g2;injection g2⟩),rfl⟩)
theorem yEx (gs ms:List Sgc)(u v:Value)(h:SH)(hu:tY h gs u)(hv:tY h ms v)(h1:gs.length<=1000)(h2:ms.length<=1000)(hb1:∀g∈gs,g.2.2.length<=100000)(hb2:∀g∈ms,g.2.2.length<=100000) :
  zH Tryz.prog 29 [u,v,fnV 30] h λr q=>r=B (decide (gs=ms))/\q=h:=by
 obtain⟨xs,hxl,h3,hxs⟩:=hu;obtain⟨ys,hyl,h4,hys⟩:=hv;obtain⟨ad,fl,rfl,hh⟩:=id h3;obtain⟨ad2,fl2,rfl,hh2⟩:=id h4;have hlb:=yK (f:=sgF) (w:=3) (λ_=>rfl) xs;have hmb:=yK (f:=sgF) (w:=3) (λ_=>rfl) ys;by_cases hlm:gs.length=ms.length
 ·refine wF Tryz.func29 rfl rfl ?_
  repeat'(first|apply zE|apply zD|apply zC|refine jg ?_ ?_|refine jf ?_|apply zB|apply zL|apply zM|exact jS|fail)
  all_goals try exact jX
  refine yH (S:=Nat) (λi=>[(1,.slice ad2 ms.length fl2),(2,fnV 30),(15,.slice ad gs.length fl),(16,I gs.length),(17,I i)]) (λ_=>h) (λi=>i<=gs.length/\gs.take i=ms.take i) (λi=>gs.length-i) 0 ⟨Nat.zero_le _,rfl⟩ jB jT ?_;rintro i ⟨hi,hg⟩;by_cases hil:i<gs.length
  ·obtain⟨A',ro,g1,rfl,hp⟩:=hh (by omega)
   obtain⟨A2,ro2,g2,rfl,hp2⟩:=hh2 (by omega);obtain⟨a1,a2,a3⟩:=hxs i hil;obtain⟨b1,b2,b3⟩:=hys i (by omega);have hE:∀h,Has h (zF chF gs[i]!.2.2) 2 gs[i]!.2.2.length (sxV xs[i]!)->Has h (zF chF ms[i]!.2.2) 2 ms[i]!.2.2.length (sxV ys[i]!)->zH Tryz.prog 30 [.agg ⟨sgF xs[i]!⟩,.agg ⟨sgF ys[i]!⟩] h λr q=>r=B (decide (gs[i]! = ms[i]!))/\q=h:=λh x y=>by
    have:=yAq gs[i]! ms[i]! (sxV xs[i]!) (sxV ys[i]!) h x y (hb1 _ (xD hil)) (hb2 _ (xD (by omega)));rw[<-a1,<-a2,<-b1,<-b2]at this;exact this
   repeat'(first|apply zE|apply zD|apply zC|refine jg ?_ ?_|(apply ja;exact jH)|(apply mU;exact rfl;exact rfl)|(apply jl;exact jI)|(apply js;exact jJ)|refine jy ?_|(apply zZ;exact rfl;exact rfl;exact rfl;exact rfl;exact⟨_,hE _ (a3.re jD) (b3.re jD),zA.nil⟩;rintro _ _ ⟨rfl,rfl⟩)|refine jd ?_|(apply mA;exact rfl;all_goals intro hc)|apply zB|apply zV|apply zQ|apply xM|apply zL|apply zJ|apply zM|exact jO|((with_reducible apply Ln.mk);first|rfl|(simp[hlb,hmb];first|done|omega))|exact jW|exact jP|((with_reducible apply Su.mk);first|exact xY|exact xO (λ_=>rfl) (by omega))|exact True.intro|intro A|exact rfl)
   all_goals first
    |exact jX
    |(have hne:=kT hil hlm hc
      (apply yA;(exact(show zO _ _ _ _ [_] from⟨rfl,trivial⟩));exact⟨congrArg B (decide_eq_false hne).symm,rfl⟩;exact jT))
    |(have he:=uS hil hlm hg hc
      exact⟨i+1,⟨hil,he⟩,by show gs.length-(i+1)<gs.length-i;omega,jB,jT⟩)
    |(have he:=uS hil hlm hg (Classical.not_not.1 hc)
      exact⟨i+1,⟨hil,he⟩,by show gs.length-(i+1)<gs.length-i;omega,jB,jT⟩)
  ·have he:gs=ms:=by rw[List.take_of_length_le (by omega),List.take_of_length_le (by omega)]at hg;exact hg
   repeat'(first|apply zE|apply zD|apply zC|refine jg ?_ ?_|refine jf ?_|apply zB|apply zW|apply zT|apply zJ|apply zU|exact jS|fail)
   all_goals first|exact jX|exact jF (k:=by exact⟨congrArg B (decide_eq_true he).symm,rfl⟩)
 ·rw[decide_eq_false (λg=>hlm (by rw[g]))]
  refine wF Tryz.func29 rfl rfl ?_
  repeat'(first|apply zE|apply zD|apply zC|refine jg ?_ ?_|refine jd ?_|apply zB|apply zV|apply zJ|exact jS|fail)
  all_goals first|exact jX|exact jG
def teq (a b:Trc):Bool:=decide (a.sc=b.sc/\a.da=b.da/\a.ve=b.ve/\a.co=b.co/\a.en=b.en/\a.ss=b.ss/\a.vs=b.vs/\a.ga=b.ga/\a.gs=b.gs)
theorem zHc {a b:Trc}:teq a b=true↔a=b:=by
 obtain⟨⟩:=a;obtain⟨⟩:=b;unfold teq;rw[decide_eq_true_eq];dsimp only;constructor
 ·rintro⟨rfl,rfl,rfl,rfl,rfl,rfl,rfl,rfl,rfl⟩;rfl
 ·intro g;injection g;subst_vars;exact⟨rfl,rfl,rfl,rfl,rfl,rfl,rfl,rfl,rfl⟩

def cv (p n:Int):Int:=if 1099511627776<n*p then 0 else n*p
def ce (p n:Int):Int:=if 1099511627776<n*p then 2 else 0
abbrev rsF (c2 c3:Nat):Value:=.func (.func 20) #[] #[zG c2 0 9,zG c3 0 1]
def RsH (b:Int)(k c2 c3:Nat)(h:SH):Prop:=∃cs ro h1 ro2 h2,Pick h c2 ⟨cs,ro⟩ h1/\Pick h c3 ⟨[I b],ro2⟩ h2/\cs[0+0]?=some (I (b+k))/\cs.length=9
theorem RsH.re {b:Int}{k c2 c3:Nat}{h h':SH}(g:RsH b k c2 c3 h)(t:zA h' h):RsH b k c2 c3 h':=by
 obtain⟨cs,ro,h1,ro2,h2,p1,p2,g1,g2⟩:=g;obtain⟨h3,q1,_⟩:=t.pick p1;obtain⟨h4,q2,_⟩:=t.pick p2;exact⟨cs,ro,h3,ro2,h4,q1,q2,g1,g2⟩
theorem RsH.lock {b:Int}{k c2 c3:Nat}{h:SH}(g:RsH b k c2 c3 h):RsH b k c2 c3 (rN h):=by
 obtain⟨cs,ro,h1,ro2,h2,p1,p2,g1,g2⟩:=g;exact⟨cs,_,_,_,_,dX p1,dX p2,g1,g2⟩
theorem zYs (x b:Int)(k:Nat)(c2 c3:Nat)(h:SH)(hb:-15<=b/\b+k<=2)(hx:0<=x/\x<=1099511627776)(hr:RsH b k c2 c3 h) :
  zH Tryz.prog 20 [I x,zG c2 0 9,zG c3 0 1] h λr q=>r=.tuple #[I (cv (yL k) x),I (ce (yL k) x)]/\q=h:=by
 obtain⟨cs,ro,h1,ro2,h2,hp2,hp3,hc,hl⟩:=hr;have hV:∀h,zH Tryz.prog 8 [I x,I (b+k),I b] h λr q=>r=.tuple #[I (cv (yL k) x),I (ce (yL k) x)]/\q=h:=λh=>(zUe x b k h hb hx).mono λr q ⟨e1,e2⟩=>⟨by
  rw[e1];unfold cv ce;split <;> rfl,e2⟩
 generalize cv (yL k) x=y at *;generalize ce (yL k) x=e at *;refine wF Tryz.func20 rfl rfl ?_
 repeat'(first|apply zE|apply zD|apply zC|refine jg ?_ ?_|(apply jm;exact jI)|refine jq ?_ (c:=by exact⟨_,hV _,jN⟩)|apply zB|apply zJ|exact jS|((with_reducible apply Ln.mk);first|rfl|omega)|((with_reducible apply Ce.mk);first|rfl|exact hc)|exact True.intro|exact rfl)
 all_goals first|exact jX|exact jG
theorem yIj (A off n bf bw c2 c3:Nat)(b:Int)(k:Nat)(cells cells':List Value)(x w:Int)(g g1:SH)(g':List Value->SH)(hu:∀c,Upd g A ⟨cells,false⟩ ⟨c,false⟩ (g' c))(hp:Pick g A ⟨cells,false⟩ g1)(hs:yD cells off (I (cv (yL k) x)) cells')(hc:cells[off]?=some (I x))(hl:cells.length=n)
  (hb:-15<=b/\b+k<=2) (hx:0<=x/\x<=1099511627776) (hr:RsH b k c2 c3 g) :
  zH Tryz.prog 47 [zG A off n,zG bf 0 1,zG bw 0 1] ((bw,⟨[I w],false⟩)::(bf,⟨[rsF c2 c3],false⟩)::g)
   λr q=>r=.tuple #[]/\q=(bw,⟨[I (if w=0 then ce (yL k) x else w)],false⟩)::(bf,⟨[rsF c2 c3],false⟩)::g' cells':=by
 have hF:=λh hr=>zYs x b k c2 c3 h hb hx hr;generalize cv (yL k) x=y at *;generalize ce (yL k) x=e at *;by_cases hw:w=0
 ·rw[if_pos hw]
  refine wF Tryz.func47 rfl rfl ?_
  repeat'(first|apply zE|apply zD|apply zC|refine jr ?_|refine jg ?_ ?_|(apply jm;exact jI)|(apply yV zK;(iterate 4 exact rfl);exact up)|(apply wP;(iterate 4 exact rfl);exact⟨_,hF _ (hr.lock.re (by repeat(first|with_reducible exact zA.nil|with_reducible apply tT|with_reducible apply zA.drop))),zA.nil⟩;exact λ_ _ h=>h.1;(focus(repeat(first|exact xV.c rfl))))|(apply tC;exact rfl;exact ‹_›)|apply zB|exact jS|((with_reducible apply Ln.mk);first|rfl|omega)|((with_reducible apply Ce.mk);first|rfl|exact hc)|((with_reducible apply Se.mk);first|(focus(repeat(first|exact yD.zero));done)|exact hs)|exact True.intro|exact rfl)
  all_goals first|exact jX|(apply qQ;(exact(show zO _ _ _ _ [] from trivial));exact⟨rfl,rfl⟩;exact jT)
 ·rw[if_neg hw]
  refine wF Tryz.func47 rfl rfl ?_
  repeat'(first|apply zE|apply zD|apply zC|refine jr ?_|refine jg ?_ ?_|(apply jm;exact jI)|(apply yV zK;(iterate 4 exact rfl);exact up)|(apply wP;(iterate 4 exact rfl);exact⟨_,hF _ (hr.lock.re (by repeat(first|with_reducible exact zA.nil|with_reducible apply tT|with_reducible apply zA.drop))),zA.nil⟩;exact λ_ _ h=>h.1;(focus(repeat(first|exact xV.c rfl))))|(apply pT;exact rfl;exact ‹_›)|apply zB|apply zL|exact jS|((with_reducible apply Ln.mk);first|rfl|omega)|((with_reducible apply Ce.mk);first|rfl|exact hc)|((with_reducible apply Se.mk);first|exact hs)|exact True.intro|exact rfl)
  all_goals first|exact jX|(apply qQ;(exact(show zO _ _ _ _ [] from trivial));exact⟨rfl,rfl⟩;exact jT)

def rsC (p:Int)(c:Chg):Chg:=(cv p c.1,c.2)
def rsS (p:Int)(g:Sgc):Sgc:=(g.1,g.2.1,g.2.2.map (rsC p))
def rsG (p en:Int)(g:Int × Int):Int × Int:=(cv p g.1,if g.2=en+1 then cv p en+1 else cv p g.2)
def rsT (p:Int)(t:Trc):Trc:={ t with en:=cv p t.en,gs:=t.gs.map (rsS p),ga:=t.ga.map (rsG p t.en) }
def rsA (p:Int)(x:Sga):Sga:=(x.1,rsS p x.2)
structure Tm (t:Trc):Prop where
 en:0<=t.en/\t.en<=1099511627776
 cs:∀g∈t.gs,∀c∈g.2.2,0<=c.1/\c.1<=t.en
 ga:∀g∈t.ga,(0<=g.1/\g.1<=t.en)/\(g.2=t.en+1\/(0<=g.2/\g.2<=t.en))
theorem yJl {p n en:Int}(hp:0<=p)(h:n<=en):(if ce p en=0 then ce p n else ce p en)=ce p en:=by
 have hm:=Int.mul_le_mul_of_nonneg_right h hp;unfold ce;by_cases g:1099511627776<en*p
 ·rw[if_pos g];rfl
 ·rw[if_neg g,if_neg (show ¬1099511627776<n*p by omega)];rfl
theorem yOc (p n:Int)(h:0<=n)(hp:0<=p):0<=cv p n/\cv p n<=1099511627776:=by
 have:=Int.mul_nonneg h hp;unfold cv;split <;> omega
theorem yMn (p:Int)(x:Sga):osx (rsA p x)=osx x:=by
 unfold osx rsA rsS;simp only[List.length_map]
theorem zBr (P Q:List Sga)(x:Sga):chB (P++x::Q)=chB Q++(ob x.1 (zF chF x.2.2.2) x.2.2.2.length++chB P):=by
 unfold chB;rw[List.reverse_append,List.reverse_cons,List.append_assoc,List.flatMap_append,List.flatMap_append];simp
theorem iR {α:Type}[Inhabited α]{f:α->α}{l:List α}{i:Nat}(h:i<l.length):(l.take (i+1)).map f++l.drop (i+1)=(l.take i).map f++f l[i]!::l.drop (i+1):=by
 rw[tN h,List.map_append,List.append_assoc];rfl
theorem zAy {α:Type}[Inhabited α]{f:α->α}{l:List α}{i:Nat}(h:i<l.length):(l.take i).map f++l.drop i=(l.take i).map f++l[i]!::l.drop (i+1):=by
 rw[wD h]
theorem eW {α:Type}[Inhabited α]{P Q:List α}{x:α}{i:Nat}(h:P.length=i):(P++x::Q)[i]! = x:=by
 rw[getElem!_pos _ _ (by rw[List.length_append,List.length_cons];omega),List.getElem_append_right (by omega)];simp[h]
theorem iH {α:Type}{P Q:List α}{x y:α}{i:Nat}(h:P.length=i):(P++x::Q).set i y=P++y::Q:=by
 rw[List.set_append_right _ _ (by omega),h,Nat.sub_self,List.set_cons_zero]
set_option maxHeartbeats 1000000 in
theorem yFj (t:Trc)(v:Value)(b:Int)(k c2 c3:Nat)(h:SH)(hv:TrH h t v)(hs:Sm t)(ht:Tm t)(hb:-15<=b/\b+k<=2)(hr:RsH b k c2 c3 h) :
  zH Tryz.prog 19 [v,rsF c2 c3] h λr q =>
   (ce (yL k) t.en=0/\∃A1 A2 A3 A4 L,L.map (·.2)=(rsT (yL k) t).gs/\r=.tuple #[clV (rsT (yL k) t) A1 A2 A3 A4,I 0]/\q=clH (rsT (yL k) t) A1 A2 A3 A4 L h) \/
   (ce (yL k) t.en≠0/\∃e:Int,e≠0/\r=.tuple #[.agg ⟨[I 0,S [],S [],S [],.slice none 0 0,.slice none 0 0,.slice none 0 0,.slice none 0 0,I 0]⟩,I e]/\q=h):=by
 have hCl:=λh hv=>zOj t v h hv hs;have hp1:=gG k;have hput:=λA off n bf bw cells cells' x w g g1 g' hu hp hs hc hl hx hr=>yIj A off n bf bw c2 c3 b k cells cells' x w g g1 g' hu hp hs hc hl hb hx hr;generalize yL k=p at *;obtain⟨f1,f2,f3,f4,f5,f6,f7,f8,f9,f10⟩:=hs;obtain⟨t1,t2,t3⟩:=ht;obtain⟨s,w,g,a,rfl,h1,h2,h3,h4⟩:=id hv;obtain⟨sc,da,ve,co,ss,vs,gs,ga,en⟩:=t;unfold clH clV trV at hCl;unfold trV clV clH rsT trV;dsimp only at *;simp only[List.length_map];obtain⟨ad1,fl1,rfl,-⟩:=id h1;obtain⟨ad2,fl2,rfl,-⟩:=id h2;obtain⟨ad4,fl4,rfl,-⟩:=id h4;obtain⟨ad3,fl3,rfl⟩:∃ad fl,g=.slice ad gs.length fl:=by obtain⟨xs,_,⟨ad,fl,e,_⟩,_⟩:=h3;exact⟨ad,fl,e⟩
 refine yJ Tryz.func19 rfl rfl ?_
 repeat'((fail_if_success (show SWp _ _ (Code.seq (Code.region 5 _ _) _) _ _ _));(fail_if_success (show SWp _ _ (Code.region 5 _ _) _ _ _));first|apply zE|apply zD|apply zC|refine jg ?_ ?_|(apply ja;exact jH)|(apply jm;exact jI)|(apply jl;exact jI)|(apply yV zK;(iterate 4 exact rfl);exact up)|(apply js;exact jJ)|refine jy ?_|refine jx ?_|(apply rK;iterate 3 exact rfl)|(apply zZ;exact rfl;exact rfl;exact rfl;exact rfl;exact⟨_,hCl _ (hv.re jD),zA.nil⟩;rintro _ _ ⟨A1,A2,A3,A4,L,hL,rfl,rfl⟩)|apply zB|exact jS|exact jL|exact jW|exact jE|((with_reducible apply Se.mk);first|(focus(repeat(first|exact yD.zero));done))|exact jP|exact jU|exact True.intro|intro A|exact rfl)
 all_goals try exact jX
 rename_i b2 bf b4;obtain⟨bw,rfl⟩:∃m,m=A:=⟨_,rfl⟩;have hLl:L.length=gs.length:=by rw[<-hL,List.length_map]
 obtain⟨w0,hw0⟩:∃w,ce p en=w:=⟨_,rfl⟩;have hcvb:=yOc p en t1.1 (by omega);have hstep:∀n,n<=en->(if w0=0 then ce p n else w0)=w0:=λn hn=>by rw[<-hw0];exact yJl (by omega) hn
 have hLg:∀i,i<L.length->L[i]!.2=gs[i]!:=by
  intro i hi;rw[getElem!_pos L i hi,getElem!_pos gs i (by omega)];simp only[<-hL,List.getElem_map]
 
 have hce:=hput b2 8 9 bf bw [I sc,S da,S ve,S co,os A1 3 ss.length,os A2 7 vs.length,os A3 3 gs.length,os A4 2 ga.length,I en] [I sc,S da,S ve,S co,os A1 3 ss.length,os A2 7 vs.length,os A3 3 gs.length,os A4 2 ga.length,I (cv p en)] en 0
  (chB L++(ob A4 (zF prF ga) ga.length++(ob A3 (zF sgF (L.map osx)) gs.length++(ob A2 (zF vrF vs) vs.length++(ob A1 (zF scF ss) ss.length++((b4,⟨[I 0,S [],S [],S [],.slice none 0 0,.slice none 0 0,.slice none 0 0,.slice none 0 0,I 0],false⟩)::(b2,⟨[I sc,S da,S ve,S co,os A1 3 ss.length,os A2 7 vs.length,os A3 3 gs.length,os A4 2 ga.length,I en],false⟩)::h)))))) _
  (λc=>chB L++(ob A4 (zF prF ga) ga.length++(ob A3 (zF sgF (L.map osx)) gs.length++(ob A2 (zF vrF vs) vs.length++(ob A1 (zF scF ss) ss.length++((b4,⟨[I 0,S [],S [],S [],.slice none 0 0,.slice none 0 0,.slice none 0 0,.slice none 0 0,I 0],false⟩)::(b2,⟨c,false⟩)::h))))))
  (λc=>up) pk (by repeat(first|exact yD.zero|apply yD.succ)) rfl rfl t1 (hr.re jT)
 rw[if_pos rfl,hw0]at hce
 repeat'((fail_if_success (show SWp _ _ (Code.seq (Code.region 6 _ _) _) _ _ _));(fail_if_success (show SWp _ _ (Code.region 6 _ _) _ _ _));first|apply zE|apply zD|apply zC|refine jg ?_ ?_|(refine jc ?_ (c:=by exact⟨_,hce,jC⟩);rintro _ _ ⟨rfl,rfl⟩)|apply zB|exact jS|fail)
 all_goals try exact jX
 obtain⟨B2,hB2⟩:∃B2:List Value,[I sc,S da,S ve,S co,os A1 3 ss.length,os A2 7 vs.length,os A3 3 gs.length,os A4 2 ga.length,I (cv p en)]=B2:=⟨_,rfl⟩;have hl2:B2.length=9:=by rw[<-hB2];rfl
 rw[hB2];have hg2:B2[0+6]?=some (os A3 3 gs.length)/\B2[0+7]?=some (os A4 2 ga.length)/\B2[0+8]?=some (I (cv p en)):=by rw[<-hB2];exact⟨rfl,rfl,rfl⟩
 repeat'(first|apply zE|apply zD|apply zC|refine jg ?_ ?_|(apply jm;exact jI)|apply zB|apply zM|exact jS|((with_reducible apply Ln.mk);first|omega)|((with_reducible apply Ce.mk);first|exact hg2.1)|exact True.intro|exact rfl)
 all_goals try exact jX
 refine yH (S:=Nat) (λi=>[(2,zG b2 0 9),(4,zG b4 0 9),(5,I 0),(6,zG bw 0 1),(7,.func (.func 47) #[] #[zG bf 0 1,zG bw 0 1]),(8,I (en+1)),(23,I gs.length),(24,I i)]) (λi=>(bw,⟨[I w0],false⟩)::(bf,⟨[rsF c2 c3],false⟩)::(chB ((L.take i).map (rsA p)++L.drop i)++(ob A4 (zF prF (ga)) ga.length++(ob A3 (zF sgF (L.map osx)) gs.length++(ob A2 (zF vrF vs) vs.length++(ob A1 (zF scF ss) ss.length++((b4,⟨[I 0,S [],S [],S [],.slice none 0 0,.slice none 0 0,.slice none 0 0,.slice none 0 0,I 0],false⟩)::(b2,⟨B2,false⟩)::h))))))) (λi=>i<=gs.length) (λi=>gs.length-i) 0 (Nat.zero_le _) jB (by exact zA.nil) ?_;intro i hi;by_cases hil:i<gs.length
 ·have hn3:gs.length≠0:=by omega
  have hxl:=hLg i (by omega);rw[zAy (by omega),wJ hn3];have hlm:(zF sgF (L.map osx)).length=gs.length*3:=by rw[yK (f:=sgF) (w:=3) (λ_=>rfl),List.length_map,hLl]
  have hme:(L.map osx)[i]! = osx L[i]!:=by
   rw[getElem!_pos _ _ (by rw[List.length_map];omega),getElem!_pos L i (by omega),List.getElem_map]
  obtain⟨x,hx⟩:∃x,x=L[i]!:=⟨_,rfl⟩;rw[<-hx]at hxl hme ⊢;obtain⟨aa,kk,ww,cs⟩:=x;have hcell:(zF sgF (L.map osx))[0+((i:Int)).toNat*3+2]?=some (os aa 2 cs.length) :=
   vL (λ_=>rfl) (by rw[List.length_map];omega) (by decide) (by rw[hme];rfl)
  have hg3:B2[0+6]?=some (gsl A3 0 (gs.length*3) gs.length 3):=by rw[<-vN hn3];exact hg2.1
  show SWp _ _ _ _ _ ((bw,⟨[I w0],false⟩)::(bf,⟨[rsF c2 c3],false⟩)::(chB ((L.take i).map (rsA p)++(aa,kk,ww,cs)::L.drop (i+1))++(ob A4 (zF prF (ga)) ga.length++((A3,⟨zF sgF (L.map osx),false⟩)::(ob A2 (zF vrF vs) vs.length++(ob A1 (zF scF ss) ss.length++((b4,⟨[I 0,S [],S [],S [],.slice none 0 0,.slice none 0 0,.slice none 0 0,.slice none 0 0,I 0],false⟩)::(b2,⟨B2,false⟩)::h)))))))
  repeat'(first|apply zE|apply zD|apply zC|refine jg ?_ ?_|(apply jm;exact jI)|refine jd ?_|apply zB|apply zL|apply zM|exact jO|((with_reducible apply Ln.mk);first|omega)|((with_reducible apply Ce.mk);first|exact ‹_›|exact hcell)|exact True.intro|exact rfl)
  all_goals try exact jX
  have hP:((L.take i).map (rsA p)).length=i:=by rw[List.length_map,List.length_take];omega
  refine yH (S:=Nat) (λk=>[(2,zG b2 0 9),(4,zG b4 0 9),(5,I 0),(6,zG bw 0 1),(7,.func (.func 47) #[] #[zG bf 0 1,zG bw 0 1]),(8,I (en+1)),(23,I gs.length),(24,I i),(9,I i),(33,I cs.length),(34,I k)]) (λk=>(bw,⟨[I w0],false⟩)::(bf,⟨[rsF c2 c3],false⟩)::(chB ((L.take i).map (rsA p)++(aa,kk,ww,(cs.take k).map (rsC p)++cs.drop k)::L.drop (i+1))++(ob A4 (zF prF (ga)) ga.length++((A3,⟨zF sgF (L.map osx),false⟩)::(ob A2 (zF vrF vs) vs.length++(ob A1 (zF scF ss) ss.length++((b4,⟨[I 0,S [],S [],S [],.slice none 0 0,.slice none 0 0,.slice none 0 0,.slice none 0 0,I 0],false⟩)::(b2,⟨B2,false⟩)::h))))))) (λk=>k<=cs.length) (λk=>cs.length-k) 0 (Nat.zero_le _) jB (by exact zA.nil) ?_;intro k hk;have hct:=t2 _ (xD hil);have hcb:=(f10 _ (xD hil)).1;rw[<-hxl]at hct hcb;dsimp only at hct hcb;by_cases hkl:k<cs.length
  ·have hn2:cs.length≠0:=by omega
   have hc3:=hct _ (xD hkl);have hXl:((cs.take k).map (rsC p)++cs.drop k).length=cs.length:=by rw[List.length_append,List.length_map,List.length_take,List.length_drop];omega
   have hXr:(zF chF ((cs.take k).map (rsC p)++cs.drop k)).length=cs.length*2:=by rw[yK (f:=chF) (w:=2) (λ_=>rfl),hXl]
   have hXk:((cs.take k).map (rsC p)++cs.drop k)[k]! = cs[k]!:=by rw[wD hkl];exact eW (by rw[List.length_map,List.length_take];omega)
   have hXs:((cs.take k).map (rsC p)++cs.drop k).set k (rsC p cs[k]!)=(cs.take (k+1)).map (rsC p)++cs.drop (k+1):=by
    rw[wD hkl,iH (by rw[List.length_map,List.length_take];omega),iR hkl]
   have hXc:(zF chF ((cs.take k).map (rsC p)++cs.drop k))[0+((k:Int)).toNat*2+0]?=some (I cs[k]!.1):=by
    rw[<-hXk];exact vL (λ_=>rfl) (by omega) (by decide) rfl
   have hXt:yD (zF chF ((cs.take k).map (rsC p)++cs.drop k)) (0+((k:Int)).toNat*2+0) (I (cv p cs[k]!.1)) (zF chF ((cs.take (k+1)).map (rsC p)++cs.drop (k+1))):=by
    rw[<-hXs];exact oH (w:=2) (λ_=>rfl) (by omega) (by decide) (by rw[hXk];rfl)
   have hP2:=hput aa (0+((k:Int)).toNat*2+0) (cs.length*2) bf bw (zF chF ((cs.take k).map (rsC p)++cs.drop k)) (zF chF ((cs.take (k+1)).map (rsC p)++cs.drop (k+1))) cs[k]!.1 w0
    (chB (L.drop (i+1))++((aa,⟨zF chF ((cs.take k).map (rsC p)++cs.drop k),false⟩)::(chB ((L.take i).map (rsA p))++(ob A4 (zF prF ga) ga.length++((A3,⟨zF sgF (L.map osx),false⟩)::(ob A2 (zF vrF vs) vs.length++(ob A1 (zF scF ss) ss.length++((b4,⟨[I 0,S [],S [],S [],.slice none 0 0,.slice none 0 0,.slice none 0 0,.slice none 0 0,I 0],false⟩)::(b2,⟨B2,false⟩)::h)))))))) _ (λc=>(chB (L.drop (i+1))++((aa,⟨c,false⟩)::(chB ((L.take i).map (rsA p))++(ob A4 (zF prF ga) ga.length++((A3,⟨zF sgF (L.map osx),false⟩)::(ob A2 (zF vrF vs) vs.length++(ob A1 (zF scF ss) ss.length++((b4,⟨[I 0,S [],S [],S [],.slice none 0 0,.slice none 0 0,.slice none 0 0,.slice none 0 0,I 0],false⟩)::(b2,⟨B2,false⟩)::h))))))))) (λc=>up) pk hXt hXc hXr (by omega) (hr.re jT)
   rw[hstep _ hc3.2]at hP2;generalize (cs.take k).map (rsC p)++cs.drop k=X at *;have hcell2:(zF sgF (L.map osx))[0+((i:Int)).toNat*3+2]?=some (gsl aa 0 (cs.length*2) cs.length 2):=by rw[<-vN hn2];exact hcell
   rw[zBr,show ob aa (zF chF X) X.length=[(aa,(⟨zF chF X,false⟩:Blk))] from wJ (by omega)];rw[List.append_assoc,List.append_assoc];show SWp _ _ _ _ _ ((bw,⟨[I w0],false⟩)::(bf,⟨[rsF c2 c3],false⟩)::(chB (L.drop (i+1))++((aa,⟨zF chF X,false⟩)::(chB ((L.take i).map (rsA p))++_))))
   repeat'(first|apply zE|apply zD|apply zC|refine jg ?_ ?_|(apply ja;exact jH)|(apply jm;exact jI)|(refine jc ?_ (c:=by exact⟨_,hP2,jN⟩);rintro _ _ ⟨rfl,rfl⟩)|refine jd ?_|apply zB|apply zQ|apply zL|apply zM|exact jO|((with_reducible apply Ln.mk);first|omega)|exact jW|((with_reducible apply Ce.mk);first|exact ‹_›|exact hg3)|exact True.intro|exact rfl)
   all_goals try exact jX
   refine⟨k+1,hkl,by omega,jB,?_⟩;rw[zBr,show ob aa (zF chF ((cs.take (k+1)).map (rsC p)++cs.drop (k+1))) ((cs.take (k+1)).map (rsC p)++cs.drop (k+1)).length=[(aa,(⟨zF chF ((cs.take (k+1)).map (rsC p)++cs.drop (k+1)),false⟩:Blk))] from wJ (by rw[List.length_append,List.length_map,List.length_take,List.length_drop];omega),List.append_assoc,List.append_assoc];exact zA.nil
  ·obtain rfl:k=cs.length:=by omega
   rw[List.take_length,List.drop_length,List.append_nil]
   repeat'(first|apply zE|apply zD|apply zC|refine jg ?_ ?_|(apply ja;exact jH)|refine jf ?_|apply zB|apply zW|apply zQ|apply zT|apply zU|exact jS|exact jW|fail)
   all_goals try exact jX
   refine⟨i+1,hil,by omega,jB,?_⟩;rw[iR (by omega),<-hx];exact zA.nil
 ·obtain rfl:i=gs.length:=by omega
  rw[List.take_of_length_le (by omega),List.drop_of_length_le (by omega),List.append_nil]
  repeat'(first|apply zE|apply zD|apply zC|refine jg ?_ ?_|(apply jm;exact jI)|refine jf ?_|apply zB|apply zW|apply zT|apply zU|apply zM|exact jS|((with_reducible apply Ln.mk);first|omega)|((with_reducible apply Ce.mk);first|exact hg2.2.1)|exact True.intro|exact rfl)
  all_goals try exact jX
  refine yH (S:=Nat) (λj=>[(2,zG b2 0 9),(4,zG b4 0 9),(5,I 0),(6,zG bw 0 1),(7,.func (.func 47) #[] #[zG bf 0 1,zG bw 0 1]),(8,I (en+1)),(52,I ga.length),(53,I j)])
   (λj=>(bw,⟨[I w0],false⟩)::(bf,⟨[rsF c2 c3],false⟩)::(chB (L.map (rsA p))++(ob A4 (zF prF ((ga.take j).map (rsG p en)++ga.drop j)) ga.length++(ob A3 (zF sgF (L.map osx)) gs.length++(ob A2 (zF vrF vs) vs.length++(ob A1 (zF scF ss) ss.length++((b4,⟨[I 0,S [],S [],S [],.slice none 0 0,.slice none 0 0,.slice none 0 0,.slice none 0 0,I 0],false⟩)::(b2,⟨B2,false⟩)::h)))))))
   (λj=>j<=ga.length) (λj=>ga.length-j) 0 (Nat.zero_le _) jB (by exact zA.nil) ?_
  intro j hj;by_cases hjl:j<ga.length
  ·have hn4:ga.length≠0:=by omega
   obtain⟨y1,y2⟩:=t3 _ (xD hjl);obtain⟨x,hx⟩:∃x,x=ga[j]!:=⟨_,rfl⟩;rw[wJ hn4,zAy hjl];rw[<-hx]at y1 y2 ⊢;obtain⟨x1,x2⟩:=x;dsimp only at y1 y2;have hPl:((ga.take j).map (rsG p en)).length=j:=by rw[List.length_map,List.length_take];omega
   have hG1:∀z:Int × Int,((ga.take j).map (rsG p en)++z::ga.drop (j+1)).length=ga.length:=λz=>by rw[List.length_append,hPl,List.length_cons,List.length_drop];omega
   have hGr:∀z:Int × Int,(zF prF ((ga.take j).map (rsG p en)++z::ga.drop (j+1))).length=ga.length*2:=λz=>by rw[yK (f:=prF) (w:=2) (λ_=>rfl),hG1]
   have hGk:∀z:Int × Int,((ga.take j).map (rsG p en)++z::ga.drop (j+1))[j]! = z:=λz=>eW hPl;have hGs:∀z z':Int × Int,((ga.take j).map (rsG p en)++z::ga.drop (j+1)).set j z'=(ga.take j).map (rsG p en)++z'::ga.drop (j+1):=λz z'=>iH hPl;have hc0:∀z1 z2:Int,(zF prF ((ga.take j).map (rsG p en)++(z1,z2)::ga.drop (j+1)))[0+((j:Int)).toNat*2+0]?=some (I z1):=λz1 z2=>by
    exact vL (w:=2) (λ_=>rfl) (by rw[hG1];exact hjl) (by decide) (by rw[hGk];rfl)
   have hc1:∀z1 z2:Int,(zF prF ((ga.take j).map (rsG p en)++(z1,z2)::ga.drop (j+1)))[0+((j:Int)).toNat*2+1]?=some (I z2):=λz1 z2=>by
    exact vL (w:=2) (λ_=>rfl) (by rw[hG1];exact hjl) (by decide) (by rw[hGk];rfl)
   have hs0:∀z1 z2 y:Int,yD (zF prF ((ga.take j).map (rsG p en)++(z1,z2)::ga.drop (j+1))) (0+((j:Int)).toNat*2+0) (I y) (zF prF ((ga.take j).map (rsG p en)++(y,z2)::ga.drop (j+1))):=λz1 z2 y=>by
    rw[<-hGs (z1,z2) (y,z2)];exact oH (w:=2) (λ_=>rfl) (by rw[hG1];exact hjl) (by decide) (by rw[hGk];rfl)
   have hs1:∀z1 z2 y:Int,yD (zF prF ((ga.take j).map (rsG p en)++(z1,z2)::ga.drop (j+1))) (0+((j:Int)).toNat*2+1) (I y) (zF prF ((ga.take j).map (rsG p en)++(z1,y)::ga.drop (j+1))):=λz1 z2 y=>by
    rw[<-hGs (z1,z2) (z1,y)];exact oH (w:=2) (λ_=>rfl) (by rw[hG1];exact hjl) (by decide) (by rw[hGk];rfl)
   have hQ:∀off cells cells' x,yD cells off (I (cv p x)) cells'->cells[off]?=some (I x)->cells.length=ga.length*2->0<=x/\x<=en ->
     zH Tryz.prog 47 [zG A4 off (ga.length*2),zG bf 0 1,zG bw 0 1] ((bw,⟨[I w0],false⟩)::(bf,⟨[rsF c2 c3],false⟩)::(chB (L.map (rsA p))++((A4,⟨cells,false⟩)::(ob A3 (zF sgF (L.map osx)) gs.length++(ob A2 (zF vrF vs) vs.length++(ob A1 (zF scF ss) ss.length++((b4,⟨[I 0,S [],S [],S [],.slice none 0 0,.slice none 0 0,.slice none 0 0,.slice none 0 0,I 0],false⟩)::(b2,⟨B2,false⟩)::h)))))))
      λr q=>r=.tuple #[]/\q=(bw,⟨[I w0],false⟩)::(bf,⟨[rsF c2 c3],false⟩)::(chB (L.map (rsA p))++((A4,⟨cells',false⟩)::(ob A3 (zF sgF (L.map osx)) gs.length++(ob A2 (zF vrF vs) vs.length++(ob A1 (zF scF ss) ss.length++((b4,⟨[I 0,S [],S [],S [],.slice none 0 0,.slice none 0 0,.slice none 0 0,.slice none 0 0,I 0],false⟩)::(b2,⟨B2,false⟩)::h)))))):=λoff cells cells' x hs hc hl hx=>by
    have:=hput A4 off (ga.length*2) bf bw cells cells' x w0 (chB (L.map (rsA p))++((A4,⟨cells,false⟩)::(ob A3 (zF sgF (L.map osx)) gs.length++(ob A2 (zF vrF vs) vs.length++(ob A1 (zF scF ss) ss.length++((b4,⟨[I 0,S [],S [],S [],.slice none 0 0,.slice none 0 0,.slice none 0 0,.slice none 0 0,I 0],false⟩)::(b2,⟨B2,false⟩)::h)))))) _ (λc=>chB (L.map (rsA p))++((A4,⟨c,false⟩)::(ob A3 (zF sgF (L.map osx)) gs.length++(ob A2 (zF vrF vs) vs.length++(ob A1 (zF scF ss) ss.length++((b4,⟨[I 0,S [],S [],S [],.slice none 0 0,.slice none 0 0,.slice none 0 0,.slice none 0 0,I 0],false⟩)::(b2,⟨B2,false⟩)::h)))))) (λc=>up) pk hs hc hl (by omega) (hr.re jT);rw[hstep _ hx.2]at this;exact this
   have hq1:=hQ _ _ _ x1 (hs0 x1 x2 (cv p x1)) (hc0 x1 x2) (hGr _) y1;have hg4:B2[0+7]?=some (gsl A4 0 (ga.length*2) ga.length 2):=by rw[<-vN hn4];exact hg2.2.1
   show SWp _ _ _ _ _ ((bw,⟨[I w0],false⟩)::(bf,⟨[rsF c2 c3],false⟩)::(chB (L.map (rsA p))++((A4,⟨zF prF ((ga.take j).map (rsG p en)++(x1,x2)::ga.drop (j+1)),false⟩)::(ob A3 (zF sgF (L.map osx)) gs.length++(ob A2 (zF vrF vs) vs.length++(ob A1 (zF scF ss) ss.length++((b4,⟨[I 0,S [],S [],S [],.slice none 0 0,.slice none 0 0,.slice none 0 0,.slice none 0 0,I 0],false⟩)::(b2,⟨B2,false⟩)::h)))))));by_cases hto:x2=en+1
   ·skip
    repeat'(first|apply zE|apply zD|apply zC|refine jg ?_ ?_|(apply ja;exact jH)|(apply jm;exact jI)|(apply yV zK;(iterate 4 exact rfl);exact up)|(refine jc ?_ (c:=by exact⟨_,hq1,jN⟩);rintro _ _ ⟨rfl,rfl⟩)|(apply tC;exact rfl;(focus first|exact ‹_›|omega))|apply zB|apply zQ|apply zL|apply zM|exact jO|((with_reducible apply Ln.mk);first|exact hGr _|omega)|exact jW|((with_reducible apply Ce.mk);first|exact hc1 _ _|exact hg4|exact hg2.2.2)|((with_reducible apply Se.mk);first|exact hs1 _ _ _)|exact True.intro|exact rfl)
    all_goals try exact jX
    refine⟨j+1,hjl,by omega,jB,?_⟩;rw[wJ hn4,iR hjl,<-hx,show rsG p en (x1,x2)=(cv p x1,cv p en+1)by unfold rsG;rw[if_pos hto]];exact zA.nil
   ·have y3:0<=x2/\x2<=en:=by rcases y2 with g|g;exact absurd g hto;exact g
    have hq2:=hQ _ _ _ x2 (hs1 (cv p x1) x2 (cv p x2)) (hc1 (cv p x1) x2) (hGr _) y3
    repeat'(first|apply zE|apply zD|apply zC|refine jg ?_ ?_|(apply ja;exact jH)|(apply jm;exact jI)|(refine jc ?_ (c:=by exact⟨_,hq1,jN⟩);rintro _ _ ⟨rfl,rfl⟩)|(refine jc ?_ (c:=by exact⟨_,hq2,jN⟩);rintro _ _ ⟨rfl,rfl⟩)|refine jd ?_|refine jf ?_|apply zB|apply zQ|apply zL|apply zM|exact jO|((with_reducible apply Ln.mk);first|exact hGr _|omega)|exact jW|((with_reducible apply Ce.mk);first|exact hc1 _ _|exact hg4)|exact True.intro|exact rfl)
    all_goals try exact jX
    refine⟨j+1,hjl,by omega,jB,?_⟩;rw[wJ hn4,iR hjl,<-hx,show rsG p en (x1,x2)=(cv p x1,cv p x2)by unfold rsG;rw[if_neg hto]];exact zA.nil
  ·obtain rfl:j=ga.length:=by omega
   have hm:(L.map (rsA p)).map osx=L.map osx:=by rw[List.map_map];exact List.map_congr_left λx _=>yMn p x
   have hm2:(L.map (rsA p)).map (·.2)=gs.map (rsS p):=by rw[<-hL,List.map_map,List.map_map];rfl
   rw[List.take_length,List.drop_length,List.append_nil,<-hm];subst hB2
   repeat'(first|apply zE|apply zD|apply zC|refine jr ?_|refine jg ?_ ?_|(apply jm;exact jI)|(apply jl;exact jI)|(apply js;exact jJ)|(apply xZ zK;exact rfl;exact rfl;(focus first|with_reducible exact oS);exact rfl;(focus repeat(first|exact yT.nil));exact rfl)|refine jf ?_|(apply mA;exact rfl;all_goals intro hc)|apply zB|apply zV|apply zW|apply zT|apply zL|apply zJ|apply zU|exact jS|exact jL|exact jE|exact jP|exact jU|exact True.intro|refine Rc.mk ⟨_,_,pk,?_⟩|apply And.intro|apply Or.inr|exact rfl)
   all_goals first
    |contradiction
    |(apply yA;(exact(show zO _ _ _ _ [_,_] from jY));exact .inr ⟨by rw[hw0];exact hc,w0,hc,rfl,rfl⟩;exact jT)
    |(apply yA;(exact(show zO _ _ _ _ [_,_] from jY));exact .inl ⟨by rw[hw0];exact hc,A1,A2,A3,A4,L.map (rsA p),hm2,rfl,rfl⟩;exact jT)
end Go.Proofs.YtbidadebolllkaaGreatDoor
end
