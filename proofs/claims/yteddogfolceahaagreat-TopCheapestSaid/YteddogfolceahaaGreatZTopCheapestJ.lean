/- Part 10 of the proof of the law TopCheapest: texts merged. No condition. -/
import Derived.Test.YteddogfolceahaaGreatZTopCheapestI
set_option linter.unusedSimpArgs false
set_option linter.unusedVariables false
section
set_option maxRecDepth 4000
namespace Go.Proofs.YteddogfolceahaaGreat
open Go.Gh Go.RowKit

theorem cnan_any (a:Int)(h:SH):SRun Tryz.prog 170 [I a] h fun r q=>r=B false∧q=h:=by
 refine zR Tryz.func170 rfl rfl ?_
 repeat'(first|apply zF|apply zB|apply zE|(apply o_g zC;exact rfl;exact rfl)|apply zA|apply zN|((with_reducible apply Sd.mk);first|exact True.intro))
 all_goals first
  |(apply zL;(exact(show ResS _ _ _ _ [_] from⟨rfl,trivial⟩));(focus exact⟨congrArg B (decide_eq_false (fun g=>g rfl)),rfl⟩);(focus repeat with_reducible first|exact Take.nil|apply Take.c|apply Take.drop))
theorem snan_any (a:Int)(h:SH):SRun Tryz.prog 143 [I a] h fun r q=>r=B false∧q=h:=by
 refine zR Tryz.func143 rfl rfl ?_
 repeat'(first|apply zF|apply zB|apply zE|(apply o_g zC;exact rfl;exact rfl)|apply zA|apply zN|((with_reducible apply Sd.mk);first|exact True.intro))
 all_goals first
  |(apply zL;(exact(show ResS _ _ _ _ [_] from⟨rfl,trivial⟩));(focus exact⟨congrArg B (decide_eq_false (fun g=>g rfl)),rfl⟩);(focus repeat with_reducible first|exact Take.nil|apply Take.c|apply Take.drop))
theorem cless_any (a b:Int)(h:SH):SRun Tryz.prog 142 [I a,I b] h fun r q=>r=B (decide (a<b))∧q=h:=by
 refine zY Tryz.func142 rfl rfl ?_
 repeat'(first|apply zF|apply zB|apply zE|(apply o_g zC;exact rfl;exact rfl)|(apply zD;exact rfl;exact rfl;(focus first|exact rfl);exact rfl;(focus exact⟨_,cnan_any a _,by repeat with_reducible exact Take.nil⟩);rintro _ _ ⟨rfl,rfl⟩)|(apply zU;exact rfl;exact rfl)|(apply yF;iterate 4 exact rfl)|apply zA|apply zN|((with_reducible apply Sd.mk);first|exact True.intro))
 all_goals first
  |contradiction
  |(apply zL;(exact(show ResS _ _ _ _ [_] from⟨rfl,trivial⟩));(focus exact⟨rfl,rfl⟩);(focus repeat with_reducible first|exact Take.nil|apply Take.c|apply Take.drop))
def bsl (L:List Int)(x:Int):Nat→Nat→Nat→Nat
 |0,i,_=>i
 |k+1,i,j=>if i<j then if L[(i+j)/2]!<x then bsl L x k ((i+j)/2+1) j else bsl L x k i ((i+j)/2)else i
theorem bsl_more {L:List Int}{x:Int}:∀(k i j:Nat),j-i≤k→bsl L x k i j=bsl L x (j-i) i j
 |0,i,j,h=>by rw[show j-i=0 by omega]
 |k+1,i,j,h=>by
  by_cases hij:i<j
  ·obtain⟨m,hm⟩:∃m,j-i=m+1:=⟨j-i-1,by omega⟩
   rw[hm]
   show(if i<j then if L[(i+j)/2]!<x then bsl L x k ((i+j)/2+1) j else bsl L x k i ((i+j)/2)else i)=(if i<j then if L[(i+j)/2]!<x then bsl L x m ((i+j)/2+1) j else bsl L x m i ((i+j)/2)else i)
   rw[if_pos hij,if_pos hij]
   split
   ·rw[bsl_more k _ _ (by omega),bsl_more m _ _ (by omega)]
   ·rw[bsl_more k _ _ (by omega),bsl_more m _ _ (by omega)]
  ·rw[show j-i=0 by omega]
   show(if i<j then _ else i)=i
   rw[if_neg hij]
def bsf (L:List Int)(x:Int):Bool:=decide (bsl L x L.length 0 L.length<L.length∧L[bsl L x L.length 0 L.length]! = x)
theorem Search_any (L:List Int)(x:Int)(v:Value)(h:SH)(hv:Has h (nodes L) 1 L.length v)(hl:L.length≤4096) :
  SRun Tryz.prog 123 [v,I x] h fun r q=>∃k,r=.tuple #[I k,B (bsf L x)]∧q=h:=by
 obtain⟨ad,fl,rfl,hh⟩:=hv
 have hlb:(nodes L).length=L.length:=by simp
 obtain⟨R,hR⟩:∃R,bsl L x L.length 0 L.length=R:=⟨_,rfl⟩
 unfold bsf
 rw[hR]
 refine zY Tryz.func123 rfl rfl ?_
 repeat'(first|apply zF|apply zB|apply zE|(apply o_g zC;exact rfl;exact rfl)|apply zA|apply zH|((with_reducible apply Sd.mk);first|exact True.intro))
 all_goals first|(exfalso;omega)|skip
 refine zZ (S:=Nat × Nat) (fun s=>[(0,.slice ad L.length fl),(1,I x),(6,I L.length),(7,I s.1),(8,I s.2)])
  (fun _=>h) (fun s=>s.1≤s.2∧s.2≤L.length∧bsl L x (s.2-s.1) s.1 s.2=R) (fun s=>s.2-s.1) (0,L.length) ⟨Nat.zero_le _,Nat.le_refl _,hR⟩ (by repeat'(first|exact trivial|refine⟨rfl,?_⟩|refine⟨congrArg some ?_,?_⟩)) (by repeat with_reducible first|exact Take.nil|apply Take.c|apply Take.drop) ?_
 rintro⟨i,j⟩ ⟨hij,hj,hr⟩
 dsimp only at hij hj hr ⊢
 by_cases hil:i<j
 ·obtain⟨A',ro,h1,rfl,hp⟩:=hh (by omega)
  obtain⟨k,hk⟩:∃k,j-i=k+1:=⟨j-i-1,by omega⟩
  rw[hk]at hr
  have hr:(if i<j then if L[(i+j)/2]!<x then bsl L x k ((i+j)/2+1) j else bsl L x k i ((i+j)/2)else i)=R:=hr
  rw[if_pos hil]at hr
  obtain⟨m,hm⟩:∃m,m=(i+j)/2:=⟨_,rfl⟩
  rw[←hm]at hr
  have hc1:(nodes L)[0+((m:Int)).toNat*1]?=some (I L[m]!):=yM (by omega)
  generalize L[m]! = y at *
  have hsh:((i:Int)+j)/2^(min (Int.toNat 1) IntKind.u64.bits)=(m:Int):=by
   rw[show min (Int.toNat 1) IntKind.u64.bits=1 from rfl];omega
  by_cases hyx:y<x
  ·rw[if_pos hyx,bsl_more k _ _ (by omega)]at hr
   have hL:=cless_any y x
   rw[decide_eq_true hyx]at hL
   repeat'(first|apply zF|apply zB|apply zE|(apply o_g zC;exact rfl;exact rfl)|(apply o_ar zC;exact rfl;exact rfl)|(apply o_ex;exact rfl;exact rfl)|(apply zM zC;(iterate 3 exact rfl);(focus exact pk))|(apply zD;exact rfl;exact rfl;(focus first|exact rfl);exact rfl;(focus exact⟨_,hL _,by repeat with_reducible exact Take.nil⟩);rintro _ _ ⟨rfl,rfl⟩)|(apply yB;exact rfl)|(apply yC;exact rfl;(focus first|omega))|apply zA|apply zG|apply zI|apply zH|((with_reducible apply Sd.mk);first|exact True.intro|omega)|((with_reducible apply Ln.mk);first|(simp[hlb];first|done|omega))|((with_reducible apply Wr.mk);first|exact IntWalk.i64_in _ (by omega)|exact IntWalk.u64_in _ (by omega))|((with_reducible apply Ex.mk);first|exact hsh)|((with_reducible apply Ce.mk);first|exact hc1)|exact True.intro|exact rfl)
   all_goals first
    |contradiction
    |(exfalso;omega)
    |exact⟨(m+1,j),⟨by omega,hj,hr⟩,by show j-(m+1)<j-i;omega,(by repeat'(first|exact trivial|refine⟨rfl,?_⟩|refine⟨congrArg some ?_,?_⟩)),(by repeat with_reducible first|exact Take.nil|apply Take.c|apply Take.drop)⟩
  ·rw[if_neg hyx,bsl_more k _ _ (by omega)]at hr
   have hL:=cless_any y x
   rw[decide_eq_false hyx]at hL
   repeat'(first|apply zF|apply zB|apply zE|(apply o_g zC;exact rfl;exact rfl)|(apply o_ar zC;exact rfl;exact rfl)|(apply o_ex;exact rfl;exact rfl)|(apply zM zC;(iterate 3 exact rfl);(focus exact pk))|(apply zD;exact rfl;exact rfl;(focus first|exact rfl);exact rfl;(focus exact⟨_,hL _,by repeat with_reducible exact Take.nil⟩);rintro _ _ ⟨rfl,rfl⟩)|(apply zS;exact rfl)|(apply yC;exact rfl;(focus first|omega))|apply zA|apply zG|apply zI|apply zH|((with_reducible apply Sd.mk);first|exact True.intro|omega)|((with_reducible apply Ln.mk);first|(simp[hlb];first|done|omega))|((with_reducible apply Wr.mk);first|exact IntWalk.i64_in _ (by omega)|exact IntWalk.u64_in _ (by omega))|((with_reducible apply Ex.mk);first|exact hsh)|((with_reducible apply Ce.mk);first|exact hc1)|exact True.intro|exact rfl)
   all_goals first
    |contradiction
    |(exfalso;omega)
    |exact⟨(i,m),⟨by omega,by omega,hr⟩,by show m-i<j-i;omega,(by repeat'(first|exact trivial|refine⟨rfl,?_⟩|refine⟨congrArg some ?_,?_⟩)),(by repeat with_reducible first|exact Take.nil|apply Take.c|apply Take.drop)⟩
 ·rw[show j-i=0 by omega]at hr
  have hr:i=R:=hr
  subst hr
  by_cases hin:i<L.length
  ·obtain⟨A',ro,h1,rfl,hp⟩:=hh (by omega)
   have hc1:(nodes L)[0+((i:Int)).toNat*1]?=some (I L[i]!):=yM (by omega)
   generalize L[i]! = y at *
   repeat'(first|apply zF|apply zB|apply zE|(apply o_g zC;exact rfl;exact rfl)|(apply zM zC;(iterate 3 exact rfl);(focus exact pk))|(apply zD;exact rfl;exact rfl;(focus first|exact rfl);exact rfl;(focus exact⟨_,snan_any _ _,by repeat with_reducible exact Take.nil⟩);rintro _ _ ⟨rfl,rfl⟩)|(apply zU;exact rfl;exact rfl)|(apply yF;iterate 4 exact rfl)|(apply o_skip_undef;iterate 3 exact rfl)|(apply o_gT;(iterate 3 exact rfl);(focus first|omega))|(apply o_guardF;(iterate 3 exact rfl);all_goals intro hc)|(apply yD;exact rfl;(focus first|omega))|apply zA|apply zK|apply zJ|apply zN|apply zV|((with_reducible apply Sd.mk);first|exact True.intro|omega)|((with_reducible apply Ln.mk);first|(simp[hlb];first|done|omega))|((with_reducible apply Ce.mk);first|exact ‹_›|exact hc1)|exact True.intro|exact rfl)
   all_goals first
    |contradiction
    |(exfalso;omega)
    |(apply zL;(exact(show ResS _ _ _ _ [_,_] from⟨rfl,⟨rfl,trivial⟩⟩));(focus exact⟨i,congrArg (fun z:Bool=>Value.tuple #[I i,B z]) (decide_eq_true ⟨hin,by omega⟩).symm,rfl⟩);(focus repeat with_reducible first|exact Take.nil|apply Take.c|apply Take.drop))
    |(apply zL;(exact(show ResS _ _ _ _ [_,_] from⟨rfl,⟨rfl,trivial⟩⟩));(focus exact⟨i,congrArg (fun z:Bool=>Value.tuple #[I i,B z]) (decide_eq_false (fun g=>by have:=g.2;omega)).symm,rfl⟩);(focus repeat with_reducible first|exact Take.nil|apply Take.c|apply Take.drop))
  ·repeat'(first|apply zF|apply zB|apply zE|(apply o_g zC;exact rfl;exact rfl)|(apply yF;iterate 4 exact rfl)|(apply o_skip_undef;iterate 3 exact rfl)|(apply o_sF;(iterate 3 exact rfl);(focus first|omega);exact rfl)|(apply yD;exact rfl;(focus first|omega))|apply zA|apply zK|apply zJ|apply zN|apply zV|((with_reducible apply Sd.mk);first|exact True.intro))
   all_goals first
    |contradiction
    |(exfalso;omega)
    |(apply zL;(exact(show ResS _ _ _ _ [_,_] from⟨rfl,⟨rfl,trivial⟩⟩));(focus exact⟨i,congrArg (fun z:Bool=>Value.tuple #[I i,B z]) (decide_eq_false (fun g=>hin g.1)).symm,rfl⟩);(focus repeat with_reducible first|exact Take.nil|apply Take.c|apply Take.drop))
def atc (s f g i:Int):Int:=s+(i+1)/2*f+i/2*g
theorem mul_le2 {a b c:Int}(h0:0≤a)(h1:a≤c)(h2:0≤b)(h3:b≤1099511627776):0≤a*b∧a*b≤c*1099511627776 :=
 ⟨Int.mul_nonneg h0 h2,Int.le_trans (Int.mul_le_mul_of_nonneg_left h3 h0) (Int.mul_le_mul_of_nonneg_right h1 (by decide))⟩
theorem at_any (s f g n i:Int)(h:SH)(hi:0≤i∧i≤4096)(hs:tok s)(hf:tok f)(hg:tok g) :
  SRun Tryz.prog 121 [.agg ⟨[I s,I f,I g,I n]⟩,I i] h fun r q=>r=I (atc s f g i)∧q=h:=by
 have m1:=mul_le2 (a:=(i+1)/2) (b:=f) (c:=2049) (by omega) (by omega) hf.1 hf.2
 have m2:=mul_le2 (a:=i/2) (b:=g) (c:=2049) (by omega) (by omega) hg.1 hg.2
 have q1:(i+1).tdiv 2=(i+1)/2:=Int.tdiv_eq_ediv_of_nonneg (by omega)
 have q2:i.tdiv 2=i/2:=Int.tdiv_eq_ediv_of_nonneg (by omega)
 rw[←q1]at m1
 rw[←q2]at m2
 unfold atc
 rw[←q1,←q2]
 refine zY Tryz.func121 rfl rfl ?_
 repeat'(first|apply zF|apply zB|apply zE|(apply o_g zC;exact rfl;exact rfl)|(apply o_ar zC;exact rfl;exact rfl)|(apply zM zC;(iterate 3 exact rfl);(focus exact pk))|(apply o_box (tt:=tyT);iterate 5 exact rfl)|apply zA|apply zN|((with_reducible apply Sd.mk);first|exact True.intro|omega)|((with_reducible apply Ln.mk);first|rfl)|((with_reducible apply Wr.mk);first|exact IntWalk.i64_in _ (by omega))|((with_reducible apply Ce.mk);first|rfl)|exact True.intro|intro A|exact rfl)
 all_goals first
  |(exfalso;omega)
  |(apply zL;(exact(show ResS _ _ _ _ [_] from⟨rfl,trivial⟩));(focus exact⟨rfl,rfl⟩);(focus repeat with_reducible first|exact Take.nil|apply Take.c|apply Take.drop))
theorem inside_any (n a b:Int)(h:SH):SRun Tryz.prog 169 [I n,I a,I b] h fun r q=>r=B (decide (a≤n∧n≤b))∧q=h:=by
 refine w_body3 Tryz.func169 rfl rfl ?_
 repeat'(first|apply zF|apply zB|apply zE|(apply o_g zC;exact rfl;exact rfl)|(apply zU;exact rfl;exact rfl)|(apply yF;iterate 4 exact rfl)|(apply o_guardT;(iterate 3 exact rfl);all_goals intro hc)|apply zA|apply zN|((with_reducible apply Sd.mk);first|exact True.intro))
 all_goals first
  |contradiction
  |(apply zL;(exact(show ResS _ _ _ _ [_] from⟨rfl,trivial⟩));(focus exact⟨congrArg B (decide_eq_decide.2 (by omega)),rfl⟩);(focus repeat with_reducible first|exact Take.nil|apply Take.c|apply Take.drop))
  |(apply zL;(exact(show ResS _ _ _ _ [_] from⟨rfl,trivial⟩));(focus exact⟨congrArg B (decide_eq_false (by omega)).symm,rfl⟩);(focus repeat with_reducible first|exact Take.nil|apply Take.c|apply Take.drop))
def vck (s f g n:Int):Prop:=(1≤n∧n≤4096)∧tok s∧(1≤f∧f≤1099511627776)∧(1≤g∧g≤1099511627776)∧atc s f g (n-1)≤1099511627776
instance (s f g n:Int):Decidable (vck s f g n):=inferInstanceAs (Decidable (_∧_∧_∧_∧_))
theorem validClock_any (s f g n:Int)(h:SH)(hk:vck s f g n):SRun Tryz.prog 141 [.agg ⟨[I s,I f,I g,I n]⟩] h fun r q=>r=B true∧q=h:=by
 obtain⟨h1,h2,h3,h4,h5⟩:=hk
 have i1:=fun h=>inside_any n 1 4096 h
 have i2:=fun h=>inside_any s 0 1099511627776 h
 have i3:=fun h=>inside_any f 1 1099511627776 h
 have i4:=fun h=>inside_any g 1 1099511627776 h
 rw[decide_eq_true h1]at i1
 rw[decide_eq_true h2]at i2
 rw[decide_eq_true h3]at i3
 rw[decide_eq_true h4]at i4
 have ha:=fun h=>at_any s f g n (n-1) h (by omega) h2 ⟨by omega,h3.2⟩ ⟨by omega,h4.2⟩
 generalize atc s f g (n-1)=t at *
 refine zR Tryz.func141 rfl rfl ?_
 repeat'(first|apply zF|apply zB|apply zE|(apply o_g zC;exact rfl;exact rfl)|(apply o_ar zC;exact rfl;exact rfl)|(apply zM zC;(iterate 3 exact rfl);(focus exact pk))|(apply yQ zC;(iterate 3 exact rfl);(focus exact pk))|(apply o_box (tt:=tyT);iterate 5 exact rfl)|(apply zD;exact rfl;exact rfl;(focus first|exact rfl);exact rfl;(focus exact⟨_,i1 _,by repeat with_reducible exact Take.nil⟩);rintro _ _ ⟨rfl,rfl⟩)|(apply zD;exact rfl;exact rfl;(focus first|exact rfl);exact rfl;(focus exact⟨_,i2 _,by repeat with_reducible exact Take.nil⟩);rintro _ _ ⟨rfl,rfl⟩)|(apply zD;exact rfl;exact rfl;(focus first|exact rfl);exact rfl;(focus exact⟨_,i3 _,by repeat with_reducible exact Take.nil⟩);rintro _ _ ⟨rfl,rfl⟩)|(apply zD;exact rfl;exact rfl;(focus first|exact rfl);exact rfl;(focus exact⟨_,i4 _,by repeat with_reducible exact Take.nil⟩);rintro _ _ ⟨rfl,rfl⟩)|(apply zD;exact rfl;exact rfl;(focus first|exact rfl);exact rfl;(focus exact⟨_,ha _,by repeat with_reducible exact Take.nil⟩);rintro _ _ ⟨rfl,rfl⟩)|(apply zU;exact rfl;exact rfl)|apply zA|apply zN|((with_reducible apply Sd.mk);first|exact True.intro)|((with_reducible apply Ln.mk);first|rfl)|((with_reducible apply Wr.mk);first|exact IntWalk.i64_in _ (by omega))|((with_reducible apply Ce.mk);first|rfl)|((with_reducible apply Su.mk);first|exact zQ)|exact True.intro|intro A|exact rfl)
 all_goals first
  |contradiction
  |(exfalso;omega)
  |(apply zL;(exact(show ResS _ _ _ _ [_] from⟨rfl,trivial⟩));(focus exact⟨congrArg B (decide_eq_true h5),rfl⟩);(focus repeat with_reducible first|exact Take.nil|apply Take.c|apply Take.drop))
  |(apply zL;(exact(show ResS _ _ _ _ [_] from⟨rfl,trivial⟩));(focus exact⟨rfl,rfl⟩);(focus repeat with_reducible first|exact Take.nil|apply Take.c|apply Take.drop))
def tms (s f g:Int)(n:Nat):List Int:=(List.range n).map fun i:Nat=>atc s f g i
theorem tms_bang {s f g:Int}{n i:Nat}(h:i<n):(tms s f g n)[i]! = atc s f g i:=by
 rw[getElem!_pos _ i (by simp[tms];exact h)];simp[tms]
theorem Times_clk (s f g:Int)(n:Nat)(h:SH)(hk:vck s f g n):SRun Tryz.prog 122 [.agg ⟨[I s,I f,I g,I n]⟩] h fun r q =>
  ∃A,r=.tuple #[gsl A 0 n n 1,I 0]∧q=(A,⟨nodes (tms s f g n),false⟩)::h:=by
 have hv:=fun h=>validClock_any s f g n h hk
 obtain⟨h1,h2,h3,h4,h5⟩:=hk
 have ha:=fun(i:Nat) h (hi:i<n)=>at_any s f g n i h (by omega) h2 ⟨by omega,h3.2⟩ ⟨by omega,h4.2⟩
 have hgl:(tms s f g n).length=n:=by simp[tms]
 have hbg:=fun i (hi:i<n)=>tms_bang (s:=s) (f:=f) (g:=g) hi
 generalize tms s f g n=X at *
 have hz:zrow (I 0) (((n:Nat):Int).toNat*1)=nodes (X.take 0++List.replicate (X.length-0) 0):=by
  rw[List.take_zero,List.nil_append,Nat.sub_zero,hgl];exact map_zrow (f:=iV) 0 rfl rfl _
 refine zR Tryz.func122 rfl rfl ?_
 repeat'(first|apply zF|apply zB|apply zE|(apply o_g zC;exact rfl;exact rfl)|(apply yR;exact rfl;exact rfl)|(apply zM zC;(iterate 3 exact rfl);(focus exact pk))|(apply yQ zC;(iterate 3 exact rfl);(focus exact pk))|(apply o_box (tt:=tyT);iterate 5 exact rfl)|(apply o_makeSlice zC;(iterate 6 exact rfl);(focus decide);(focus first|omega);(focus first|exact hz);exact rfl)|(apply zD;exact rfl;exact rfl;(focus first|exact rfl);exact rfl;(focus exact⟨_,hv _,by repeat with_reducible exact Take.nil⟩);rintro _ _ ⟨rfl,rfl⟩)|(apply zS;exact rfl)|apply zA|apply zI|apply zH|((with_reducible apply Sd.mk);first|exact True.intro)|((with_reducible apply Ln.mk);first|rfl)|((with_reducible apply Ce.mk);first|rfl)|((with_reducible apply Su.mk);first|exact zQ)|exact True.intro|intro A|exact rfl)
 all_goals first|contradiction|(exfalso;omega)|skip
 rename_i A1
 revert A;intro A4
 refine zZ (S:=Nat) (fun i=>[(1,gptr A1 0 4),(4,gsl A4 0 (n*1) n 1),(13,I n),(14,I i)])
  (fun i=>(A4,⟨nodes (X.take i++List.replicate (X.length-i) 0),false⟩)::(A1,⟨[I s,I f,I g,I n],false⟩)::h) (fun i=>i≤n) (fun i=>n-i) 0 (Nat.zero_le _) (by repeat'(first|exact trivial|refine⟨rfl,?_⟩|refine⟨congrArg some ?_,?_⟩)) (by repeat with_reducible first|exact Take.nil|apply Take.c|apply Take.drop) ?_
 rintro i hi
 by_cases hil:i<n
 ·have hst:=set_prog (X:=X) (z:=0) (i:=i) (by omega)
  rw[hbg i hil]at hst
  have hai:=fun h=>ha i h hil
  generalize atc s f g i=y at *
  have hml:(X.take i++List.replicate (X.length-i) 0).length=n:=by simp;omega
  have hlen:(nodes (X.take i++List.replicate (X.length-i) 0)).length=n*1:=by rw[List.length_map,hml,Nat.mul_one]
  have hset:SetAt (nodes (X.take i++List.replicate (X.length-i) 0)) (0+((i:Int)).toNat*1) (I y) (nodes (X.take (i+1)++List.replicate (X.length-(i+1)) 0)):=by
   rw[←hst];exact setAt_mapZ (by omega)
  repeat'(first|apply zF|apply zB|apply zE|(apply o_g zC;exact rfl;exact rfl)|(apply o_ar zC;exact rfl;exact rfl)|(apply yQ zC;(iterate 3 exact rfl);(focus exact pk))|(apply zX zC;(iterate 4 exact rfl);(focus exact up))|(apply zD;exact rfl;exact rfl;(focus first|exact rfl);exact rfl;(focus exact⟨_,hai _,by repeat with_reducible exact Take.nil⟩);rintro _ _ ⟨rfl,rfl⟩)|(apply yC;exact rfl;(focus first|omega))|apply zA|apply zG|apply zI|apply zH|((with_reducible apply Sd.mk);first|exact True.intro|omega)|((with_reducible apply Ln.mk);first|rfl|omega)|((with_reducible apply Wr.mk);first|exact IntWalk.i64_in _ (by omega))|((with_reducible apply Se.mk);first|exact hset)|((with_reducible apply Su.mk);first|exact zQ)|exact True.intro|exact rfl)
  all_goals first
   |contradiction
   |(exfalso;omega)
   |exact⟨i+1,hil,by show n-(i+1)<n-i;omega,(by repeat'(first|exact trivial|refine⟨rfl,?_⟩|refine⟨congrArg some ?_,?_⟩)),(by repeat with_reducible first|exact Take.nil|apply Take.c|apply Take.drop)⟩
 ·obtain rfl:i=n:=by omega
  have hfin:X.take i++List.replicate (X.length-i) 0=X:=by rw[←hgl,List.take_length,Nat.sub_self];simp
  rw[hfin]
  repeat'(first|apply zF|apply zB|apply zE|(apply o_g zC;exact rfl;exact rfl)|(apply yD;exact rfl;(focus first|omega))|apply zA|apply zK|apply zJ|apply zN|apply zV|((with_reducible apply Sd.mk);first|exact True.intro))
  all_goals first
   |contradiction
   |(exfalso;omega)
   |(apply zL;(exact(show ResS _ _ _ _ [_,_] from⟨rfl,⟨rfl,trivial⟩⟩));(focus exact⟨A4,congrArg (fun z:Nat=>Value.tuple #[gsl A4 0 z i 1,I 0]) (Nat.mul_one _),rfl⟩);(focus repeat with_reducible first|exact Take.nil|apply Take.c|apply Take.drop))

def clkN (s f g z:Int):Nat→Nat→Nat
 |0,n=>n
 |k+1,n=>if atc s f g n≤z then clkN s f g z k (n+1)else n
theorem clkN_step {s f g z:Int}{n:Nat}(h:n<4096):clkN s f g z (4096-n) n=if atc s f g n≤z then clkN s f g z (4096-(n+1)) (n+1)else n:=by
 obtain⟨k,hk⟩:∃k,4096-n=k+1:=⟨4096-n-1,by omega⟩
 rw[hk,show 4096-(n+1)=k by omega];rfl
set_option maxHeartbeats 2000000 in
theorem Detect_any (a b c:Int)(r:List Int)(v:Value)(h:SH)(hv:Has h (nodes (a::b::c::r)) 1 (a::b::c::r).length v)(hl:(a::b::c::r).length≤4096)(hj:inc (-1) (a::b::c::r)) :
  SRun Tryz.prog 91 [v] h fun y q=>y=.agg ⟨[I a,I (b-a),I (c-b),I (clkN a (b-a) (c-b) (a::b::c::r)[(a::b::c::r).length-1]! 4095 1)]⟩∧q=h:=by
 have hV:=fun h hv=>TValid_any (a::b::c::r) v h hv hl hj
 have h1:=hj.1;have h2:=hj.2.1;have h3:=hj.2.2.1
 obtain⟨R,hR⟩:∃R,clkN a (b-a) (c-b) (a::b::c::r)[(a::b::c::r).length-1]! 4095 1=R:=⟨_,rfl⟩
 rw[hR]
 have hla:(nodes (a::b::c::r))[0+(((a::b::c::r).length:Int)-1).toNat*1]?=some (I (a::b::c::r)[(a::b::c::r).length-1]!):=by
  have:(((a::b::c::r).length:Int)-1).toNat=(a::b::c::r).length-1:=by omega
  rw[this];exact cell_map (by rw[List.length_cons];omega)
 have hzb:=ihas_bang (inc_tok (by omega) hj) (i:=(a::b::c::r).length-1) (by rw[List.length_cons];omega)
 generalize (a::b::c::r)[(a::b::c::r).length-1]! = z at *
 have e0:(nodes (a::b::c::r))[0+(0:Int).toNat*1]?=some (I a):=rfl
 have e1:(nodes (a::b::c::r))[0+(1:Int).toNat*1]?=some (I b):=rfl
 have e2:(nodes (a::b::c::r))[0+(2:Int).toNat*1]?=some (I c):=rfl
 have hlb:(nodes (a::b::c::r)).length=(a::b::c::r).length:=by simp
 have hl3:3≤(a::b::c::r).length:=by simp
 generalize a::b::c::r=L at *
 obtain⟨ad,fl,rfl,hh⟩:=id hv
 obtain⟨A',ro,hx1,rfl,hp⟩:=hh (by omega)
 have ha:=fun(n:Nat) (hn:n≤4096) h=>at_any a (b-a) (c-b) n n h (by omega) (by omega) (by omega) (by omega)
 refine zR Tryz.func91 rfl rfl ?_
 repeat'(first|apply zF|apply zB|apply zE|(apply yH;(focus kernel_rfl);(focus kernel_rfl))|(apply o_g zC;exact rfl;exact rfl)|(apply o_ar zC;exact rfl;exact rfl)|(apply yR;exact rfl;exact rfl)|(apply zM zC;(iterate 3 exact rfl);(focus exact pk))|(apply zX zC;(iterate 4 exact rfl);(focus exact up))|(apply yE zC;(iterate 4 exact rfl);(focus exact⟨rfl⟩);(focus exact up))|(apply yG zC;iterate 5 exact rfl)|(apply yT zC;exact rfl;exact rfl;(focus first|with_reducible exact pl162);exact rfl;(focus repeat(first|exact BuildR.nil|(apply BuildR.one;exact rfl;exact rfl;(first|(focus(repeat(first|exact SetAt.zero|apply SetAt.succ));done)))));exact rfl)|(apply zD;exact rfl;exact rfl;(focus first|exact rfl);exact rfl;(focus exact⟨_,hV _ (hv.re (.drop .nil)),by repeat with_reducible exact Take.nil⟩);rintro _ _ ⟨rfl,rfl⟩)|(apply zU;exact rfl;exact rfl)|(apply o_gF;(iterate 3 exact rfl);(focus first|omega))|(apply zS;exact rfl)|(apply yC;exact rfl;(focus first|omega))|apply zA|apply zI|apply zH|((with_reducible apply Sd.mk);first|exact True.intro|omega)|((with_reducible apply Ln.mk);first|rfl|(simp[hlb];first|done|omega))|((with_reducible apply Wr.mk);first|exact IntWalk.i64_in _ (by omega))|((with_reducible apply Ce.mk);first|rfl|exact e0|exact e1|exact e2)|((with_reducible apply Se.mk);first|(focus(repeat(first|exact SetAt.zero|apply SetAt.succ));done))|((with_reducible apply Pu.mk);first|exact yA rfl)|exact True.intro|exact Or.inl rfl|apply And.intro|intro A|exact rfl)
 all_goals first|contradiction|(exfalso;omega)|skip
 rename_i A2
 revert A;intro A3
 refine zZ (S:=Nat) (fun n=>[(0,.slice (some ⟨A',0,some (1*L.length)⟩) L.length fl),(2,gptr A2 0 4),(3,gptr A3 0 4)])
  (fun n=>(A3,⟨[I a,I (b-a),I (c-b),I n],false⟩)::(A2,⟨[I 0,I 0,I 0,I 0],false⟩)::h) (fun n=>1≤n∧n≤4096∧clkN a (b-a) (c-b) z (4096-n) n=R) (fun n=>4096-n) 1 ⟨Nat.le_refl _,by decide,hR⟩ (by repeat'(first|exact trivial|refine⟨rfl,?_⟩|refine⟨congrArg some ?_,?_⟩)) (by repeat with_reducible first|exact Take.nil|apply Take.c|apply Take.drop) ?_
 rintro n ⟨hn1,hn2,hr⟩
 clear hR
 have han:=ha n hn2
 by_cases hn:n<4096
 ·rw[clkN_step hn]at hr
  by_cases hz:atc a (b-a) (c-b) n≤z
  ·rw[if_pos hz]at hr
   have hr2:Nonempty (PLift (clkN a (b-a) (c-b) z (4096-(n+1)) (n+1)=R)):=⟨⟨hr⟩⟩
   clear hr
   generalize atc a (b-a) (c-b) n=t at *
   replace hz:¬z<t:=by omega
   repeat'(first|apply zF|apply zB|apply zE|(apply yH;(focus kernel_rfl);(focus kernel_rfl))|(apply o_g zC;exact rfl;exact rfl)|(apply o_ar zC;exact rfl;exact rfl)|(apply zM zC;(iterate 3 exact rfl);(focus exact pk))|(apply yQ zC;(iterate 3 exact rfl);(focus exact pk))|(apply zX zC;(iterate 4 exact rfl);(focus exact up))|(apply yS;(iterate 4 exact rfl);(focus exact⟨_,han (lockS h),by repeat(first|with_reducible exact Take.nil|with_reducible apply yL|with_reducible apply Take.drop)⟩);(focus exact fun _ _ h=>h.1);(focus(repeat(first|exact Flat.c rfl))))|(apply o_gT;(iterate 3 exact rfl);(focus first|omega))|(apply zU;exact rfl;exact rfl)|(apply yC;exact rfl;(focus first|omega))|apply zA|apply zG|apply zI|apply zH|((with_reducible apply Sd.mk);first|exact True.intro|omega)|((with_reducible apply Ln.mk);first|rfl|(simp[hlb];first|done|omega))|((with_reducible apply Wr.mk);first|exact IntWalk.i64_in _ (by omega))|((with_reducible apply Ce.mk);first|rfl|exact hla)|((with_reducible apply Se.mk);first|(focus(repeat(first|exact SetAt.zero|apply SetAt.succ));done))|((with_reducible apply Su.mk);first|exact zQ)|exact True.intro|exact rfl)
   all_goals first
    |contradiction
    |(exfalso;omega)
    |exact⟨n+1,⟨by omega,hn,hr2.elim fun g=>g.down⟩,by show 4096-(n+1)<4096-n;omega,(by repeat'(first|exact trivial|refine⟨rfl,?_⟩|refine⟨congrArg some ?_,?_⟩)),(by repeat with_reducible first|exact Take.nil|apply Take.c|apply Take.drop)⟩
  ·rw[if_neg hz]at hr
   subst hr
   generalize atc a (b-a) (c-b) n=t at *
   repeat'(first|apply zF|apply zB|apply zE|(apply yH;(focus kernel_rfl);(focus kernel_rfl))|(apply o_g zC;exact rfl;exact rfl)|(apply o_ar zC;exact rfl;exact rfl)|(apply zM zC;(iterate 3 exact rfl);(focus exact pk))|(apply yQ zC;(iterate 3 exact rfl);(focus exact pk))|(apply yE zC;(iterate 4 exact rfl);(focus exact⟨rfl⟩);(focus exact up))|(apply yS;(iterate 4 exact rfl);(focus exact⟨_,han (lockS h),by repeat(first|with_reducible exact Take.nil|with_reducible apply yL|with_reducible apply Take.drop)⟩);(focus exact fun _ _ h=>h.1);(focus(repeat(first|exact Flat.c rfl))))|(apply o_gT;(iterate 3 exact rfl);(focus first|omega))|(apply zU;exact rfl;exact rfl)|(apply yD;exact rfl;(focus first|exact ‹_›))|apply zA|apply zK|apply zJ|apply zN|apply zV|((with_reducible apply Sd.mk);first|exact True.intro|omega)|((with_reducible apply Ln.mk);first|rfl|(simp[hlb];first|done|omega))|((with_reducible apply Wr.mk);first|exact IntWalk.i64_in _ (by omega))|((with_reducible apply Ce.mk);first|rfl|exact hla)|((with_reducible apply Pu.mk);first|exact yA rfl)|((with_reducible apply Su.mk);first|exact zQ)|exact True.intro|exact rfl)
   all_goals first
    |contradiction
    |(exfalso;omega)
    |(apply zL;(exact(show ResS _ _ _ _ [_] from(res_cell zC rfl rfl rfl (by exact pk) (by first|rfl|exact ‹_›|omega|(simp ;first|done|omega)) (by first|rfl|exact ‹_›|omega|(simp ;first|done|omega)) trivial)));(focus exact⟨rfl,rfl⟩);(focus repeat with_reducible first|exact Take.nil|apply Take.c|apply Take.drop))
 ·have e:n=4096:=by omega
  subst e
  have hr:4096=R:=hr
  subst hr
  repeat'(first|apply zF|apply zB|apply zE|(apply yH;(focus kernel_rfl);(focus kernel_rfl))|(apply o_g zC;exact rfl;exact rfl)|(apply zM zC;(iterate 3 exact rfl);(focus exact pk))|(apply yQ zC;(iterate 3 exact rfl);(focus exact pk))|(apply yE zC;(iterate 4 exact rfl);(focus exact⟨rfl⟩);(focus exact up))|(apply o_sF;(iterate 3 exact rfl);(focus first|omega);exact rfl)|(apply yF;iterate 4 exact rfl)|(apply zS;exact rfl)|apply zA|apply zK|apply zJ|apply zN|apply zV|((with_reducible apply Sd.mk);first|exact True.intro)|((with_reducible apply Ln.mk);first|rfl)|((with_reducible apply Ce.mk);first|rfl)|((with_reducible apply Pu.mk);first|exact yA rfl)|((with_reducible apply Su.mk);first|exact zQ)|exact True.intro|exact rfl)
  all_goals first
   |contradiction
   |(exfalso;omega)
   |(apply zL;(exact(show ResS _ _ _ _ [_] from(res_cell zC rfl rfl rfl (by exact pk) (by first|rfl|exact ‹_›|omega|(simp ;first|done|omega)) (by first|rfl|exact ‹_›|omega|(simp ;first|done|omega)) trivial)));(focus exact⟨rfl,rfl⟩);(focus repeat with_reducible first|exact Take.nil|apply Take.c|apply Take.drop))

def misN (L T:List Int)(n:Nat):List Int:=((List.range n).filter fun i=>!bsf L T[i]!).map fun i:Nat=>(i:Int)
def addN (L T:List Int):List Int:=L.filter fun x=>!bsf T x
theorem filt1 {α:Type}(p:α→Bool)(a:α):[a].filter p=if p a=true then [a] else []:=by rw[List.filter_cons,List.filter_nil]
theorem misN_step {L T:List Int}{i:Nat}:misN L T (i+1)=if bsf L T[i]! = true then misN L T i else misN L T i++[(i:Int)]:=by
 unfold misN
 rw[List.range_succ,List.filter_append,List.map_append,filt1]
 by_cases h:bsf L T[i]! = true
 ·rw[if_pos h,if_neg (by rw[h];decide)];exact List.append_nil _
 ·rw[if_neg h,if_pos (by rw[Bool.not_eq_true]at h;rw[h];rfl)];rfl
theorem filter_take {p:Int→Bool}{L:List Int}{i:Nat}(h:i<L.length):(L.take (i+1)).filter p=if p L[i]! = true then(L.take i).filter p++[L[i]!] else(L.take i).filter p:=by
 rw[tk_bang h,List.filter_append,filt1]
 by_cases h:p L[i]! = true
 ·rw[if_pos h,if_pos h]
 ·rw[if_neg h,if_neg h];exact List.append_nil _
theorem misN_le (L T:List Int)(n:Nat):(misN L T n).length≤n:=by
 unfold misN
 rw[List.length_map]
 exact Nat.le_trans (List.length_filter_le _ _) (by simp)
theorem addN_le (L T:List Int)(j:Nat):(addN (L.take j) T).length≤L.length :=
 Nat.le_trans (List.length_filter_le _ _) (by rw[List.length_take];omega)
set_option maxHeartbeats 2000000 in
theorem Exceptions_any (s f g:Int)(n:Nat)(L:List Int)(v:Value)(h:SH)(hk:vck s f g n)(hv:Has h (nodes L) 1 L.length v)(hl:L.length≤4096)(hj:inc (-1) L)
  (hm:misN L (tms s f g n) n≠[]) (ha:addN L (tms s f g n)≠[]) :
  SRun Tryz.prog 92 [.agg ⟨[I s,I f,I g,I n]⟩,v] h fun r q=>∃A B,r=.tuple #[gsl A 0 (misN L (tms s f g n) n).length (misN L (tms s f g n) n).length 1,gsl B 0 (addN L (tms s f g n)).length (addN L (tms s f g n)).length 1,I 0] ∧
   q=(B,⟨nodes (addN L (tms s f g n)),false⟩)::(A,⟨nodes (misN L (tms s f g n) n),false⟩)::h:=by
 have hT:=fun h=>Times_clk s f g n h hk
 have hV:=fun h hv=>TValid_any L v h hv hl hj
 have hn:=hk.1
 have hgl:(tms s f g n).length=n:=by simp[tms]
 have htk:=inc_tok (by omega) hj
 generalize hX:tms s f g n=X at *
 have hlb:(nodes L).length=L.length:=by simp
 have hxb:(nodes X).length=n:=by simp[hgl]
 obtain⟨ad,fl,rfl,hh⟩:=id hv
 refine zY Tryz.func92 rfl rfl ?_
 repeat'((fail_if_success (show SWp _ _ (Code.seq (Code.region 2 _ _) _) _ _ _));(fail_if_success (show SWp _ _ (Code.region 2 _ _) _ _ _));first|apply zF|apply zB|apply zE|(apply o_g zC;exact rfl;exact rfl)|(apply yQ zC;(iterate 3 exact rfl);(focus exact pk))|(apply o_box (tt:=tyT);iterate 5 exact rfl)|(apply zD;exact rfl;exact rfl;(focus first|exact rfl);exact rfl;(focus exact⟨_,hT _,by repeat with_reducible exact Take.nil⟩);rintro _ _ ⟨A7,rfl,rfl⟩)|apply zA|((with_reducible apply Sd.mk);first|exact True.intro)|((with_reducible apply Ln.mk);first|rfl)|((with_reducible apply Su.mk);first|exact zQ)|exact True.intro|intro A|exact rfl)
 all_goals first|contradiction|(exfalso;omega)|skip
 repeat'(first|apply zF|apply zB|apply zE|(apply o_g zC;exact rfl;exact rfl)|(apply yR;exact rfl;exact rfl)|(apply zD;exact rfl;exact rfl;(focus first|exact rfl);exact rfl;(focus exact⟨_,hV _ (hv.re (.drop (.drop .nil))),by repeat with_reducible exact Take.nil⟩);rintro _ _ ⟨rfl,rfl⟩)|(apply zU;exact rfl;exact rfl)|(apply zS;exact rfl)|apply zA|apply zI|apply zH|((with_reducible apply Sd.mk);first|exact True.intro))
 all_goals first|contradiction|(exfalso;omega)|skip
 revert A;intro A2
 refine zZ (S:=Nat × Value × SH) (fun s'=>[(1,.slice ad L.length fl),(7,gsl A7 0 n n 1),(9,s'.2.1),(10,.slice none 0 0),(31,gsl A7 0 n n 1),(32,I n),(33,I s'.1)])
  (fun s'=>(A7,⟨nodes X,false⟩)::s'.2.2) (fun s'=>s'.1≤n∧GrO iV h (misN L X s'.1) s'.2.1 s'.2.2) (fun s'=>n-s'.1) (0,.slice none 0 0,h) ⟨Nat.zero_le _,.nil⟩ (by repeat'(first|exact trivial|refine⟨rfl,?_⟩|refine⟨congrArg some ?_,?_⟩)) (by repeat with_reducible first|exact Take.nil|apply Take.c|apply Take.drop) ?_
 rintro⟨i,u,q⟩ ⟨hi,hg⟩
 dsimp only at hi hg ⊢
 by_cases hil:i<n
 ·have hS:=fun h hv=>Search_any L X[i]! (.slice ad L.length fl) h hv hl
  have hc1:(nodes X)[0+((i:Int)).toNat*1]?=some (I X[i]!):=yM (by omega)
  have hst:=misN_step (L:=L) (T:=X) (i:=i)
  have hgt:=hg.has.2
  cases hb:bsf L X[i]! with
  |true =>
   rw[hb]at hS
   rw[if_pos hb]at hst
   generalize X[i]! = y at *
   repeat'(first|apply zF|apply zB|apply zE|(apply o_g zC;exact rfl;exact rfl)|(apply o_ar zC;exact rfl;exact rfl)|(apply yR;exact rfl;exact rfl)|(apply zM zC;(iterate 3 exact rfl);(focus exact pk))|(apply zD;exact rfl;exact rfl;(focus first|exact rfl);exact rfl;(focus exact⟨_,hS _ (hv.re (.drop hgt)),by repeat with_reducible exact Take.nil⟩);rintro _ _ ⟨k,rfl,rfl⟩)|(apply zS;exact rfl)|(apply yC;exact rfl;(focus first|omega))|apply zA|apply zG|apply zI|apply zH|((with_reducible apply Sd.mk);first|exact True.intro|omega)|((with_reducible apply Ln.mk);first|omega)|((with_reducible apply Wr.mk);first|exact IntWalk.i64_in _ (by omega))|((with_reducible apply Ce.mk);first|exact hc1)|exact True.intro|exact rfl)
   all_goals first
    |contradiction
    |(exfalso;omega)
    |exact⟨(i+1,u,q),⟨hil,by show GrO iV h (misN L X (i+1)) _ _;rw[hst];exact hg⟩,by show n-(i+1)<n-i;omega,(by repeat'(first|exact trivial|refine⟨rfl,?_⟩|refine⟨congrArg some ?_,?_⟩)),(by repeat with_reducible first|exact Take.nil|apply Take.c|apply Take.drop)⟩
  |false =>
   rw[hb]at hS
   rw[if_neg (by rw[hb];decide)]at hst
   generalize X[i]! = y at *
   have hol:=misN_le L X i
   generalize misN L X i=O at *
   have hob:(nodes O).length=O.length:=by simp
   cases hg with
   |nil =>
    repeat'(first|apply zF|apply zB|apply zE|(apply o_g zC;exact rfl;exact rfl)|(apply o_ar zC;exact rfl;exact rfl)|(apply yR;exact rfl;exact rfl)|(apply zM zC;(iterate 3 exact rfl);(focus exact pk))|(apply zT zC;(iterate 5 exact rfl);(focus decide);exact rfl;(focus decide);(focus repeat(first|exact CatR.nil|(apply CatR.one;exact rfl;exact rfl)));exact rfl)|(apply o_append_nil zC;(iterate 5 exact rfl);(focus exact⟨by decide⟩);(focus exact pk))|(apply zD;exact rfl;exact rfl;(focus first|exact rfl);exact rfl;(focus exact⟨_,hS _ (hv.re (.drop .nil)),by repeat with_reducible exact Take.nil⟩);rintro _ _ ⟨k,rfl,rfl⟩)|(apply yB;exact rfl)|(apply yC;exact rfl;(focus first|omega))|apply zA|apply zG|apply zI|apply zH|((with_reducible apply Sd.mk);first|exact True.intro|omega|(constructor <;> first|omega|(unfold maxLen;omega)))|((with_reducible apply Ln.mk);first|rfl|omega)|((with_reducible apply Wr.mk);first|exact IntWalk.i64_in _ (by omega))|((with_reducible apply Ce.mk);first|exact hc1)|((with_reducible apply Su.mk);first|exact zQ)|exact True.intro|intro A|exact rfl)
    all_goals first
     |contradiction
     |(exfalso;omega)
     |exact⟨(i+1,gsl A 0 1 1 1,(A,⟨[I i],false⟩)::h),⟨hil,by show GrO iV h (misN L X (i+1)) (gsl A 0 1 1 1) _;rw[hst];exact .ofc (n:=1) (k:=1) rfl rfl rfl⟩,by show n-(i+1)<n-i;omega,(by repeat'(first|exact trivial|refine⟨rfl,?_⟩|refine⟨congrArg some ?_,?_⟩)),(by repeat with_reducible first|exact Take.nil|apply Take.c|apply Take.drop)⟩
   |some A1 _ =>
    repeat'(first|apply zF|apply zB|apply zE|(apply o_g zC;exact rfl;exact rfl)|(apply o_ar zC;exact rfl;exact rfl)|(apply yR;exact rfl;exact rfl)|(apply zM zC;(iterate 3 exact rfl);(focus exact pk))|(apply zT zC;(iterate 5 exact rfl);(focus decide);exact rfl;(focus decide);(focus repeat(first|exact CatR.nil|(apply CatR.one;exact rfl;exact rfl)));exact rfl)|(apply o_append zC;(iterate 5 exact rfl);(focus exact⟨by decide⟩);(focus exact up);(focus exact pk))|(apply zD;exact rfl;exact rfl;(focus first|exact rfl);exact rfl;(focus exact⟨_,hS _ (hv.re (.drop (.drop .nil))),by repeat with_reducible exact Take.nil⟩);rintro _ _ ⟨k,rfl,rfl⟩)|(apply yB;exact rfl)|(apply yC;exact rfl;(focus first|omega))|apply zA|apply zG|apply zI|apply zH|((with_reducible apply Sd.mk);first|exact True.intro|omega|(constructor <;> first|omega|(unfold maxLen;omega)))|((with_reducible apply Ln.mk);first|rfl|omega)|((with_reducible apply Wr.mk);first|exact IntWalk.i64_in _ (by omega))|((with_reducible apply Ce.mk);first|exact hc1)|((with_reducible apply Su.mk);first|exact zQ)|exact True.intro|intro A|exact rfl)
    all_goals first
     |contradiction
     |(exfalso;omega)
     |exact⟨(i+1,gsl A1 0 (O.length+1*1) (O.length+1) 1,(A1,⟨nodes O++[I i],false⟩)::h),⟨hil,by show GrO iV h (misN L X (i+1)) (gsl A1 0 (O.length+1*1) (O.length+1) 1) _;rw[hst];exact .ofc (n:=O.length+1) (k:=O.length+1*1) (by simp) (by simp) (by omega)⟩,by show n-(i+1)<n-i;omega,(by repeat'(first|exact trivial|refine⟨rfl,?_⟩|refine⟨congrArg some ?_,?_⟩)),(by repeat with_reducible first|exact Take.nil|apply Take.c|apply Take.drop)⟩
 ·obtain rfl:i=n:=by omega
  generalize misN L X i=M at *
  cases hg with
  |nil=>exact absurd rfl hm
  |some A1 _ =>
   repeat'(first|apply zF|apply zB|apply zE|(apply o_g zC;exact rfl;exact rfl)|(apply yD;exact rfl;(focus first|omega))|apply zA|apply zK|apply zJ|apply zV|apply zH|((with_reducible apply Sd.mk);first|exact True.intro))
   all_goals first|contradiction|(exfalso;omega)|skip
   refine zZ (S:=Nat × Value × SH) (fun s'=>[(1,.slice ad L.length fl),(7,gsl A7 0 i i 1),(9,gsl A1 0 M.length M.length 1),(10,s'.2.1),(51,.slice ad L.length fl),(52,I L.length),(53,I s'.1)])
    (fun s'=>(A7,⟨nodes X,false⟩)::s'.2.2) (fun s'=>s'.1≤L.length∧GrO iV ((A1,⟨nodes M,false⟩)::h) (addN (L.take s'.1) X) s'.2.1 s'.2.2) (fun s'=>L.length-s'.1) (0,.slice none 0 0,(A1,⟨nodes M,false⟩)::h) ⟨Nat.zero_le _,.nil⟩ (by repeat'(first|exact trivial|refine⟨rfl,?_⟩|refine⟨congrArg some ?_,?_⟩)) (by repeat with_reducible first|exact Take.nil|apply Take.c|apply Take.drop) ?_
   rintro⟨j,u,q⟩ ⟨hj',hg⟩
   dsimp only at hj' hg ⊢
   by_cases hjl:j<L.length
   ·have hS:=fun h hv=>Search_any X L[j]! (gsl A7 0 i i 1) h hv (by omega)
    have hc1:(nodes L)[0+((j:Int)).toNat*1]?=some (I L[j]!):=yM hjl
    have hst:addN (L.take (j+1)) X=if(!bsf X L[j]!)=true then addN (L.take j) X++[L[j]!] else addN (L.take j) X:=filter_take hjl
    have hgt:=hg.has.2
    obtain⟨A',ro,hx1,rfl,hp⟩:=hh (by omega)
    rw[hgl]at hS
    have hX7:∀q,Has ((A7,⟨nodes X,false⟩)::q) (nodes X) 1 i (gsl A7 0 i i 1):=fun q=>⟨_,_,rfl,fun _=>⟨A7,false,_,by rw[Nat.one_mul],.head⟩⟩
    cases hb:bsf X L[j]! with
    |true =>
     rw[hb]at hS
     rw[hb,if_neg (by decide)]at hst
     generalize L[j]! = y at *
     generalize addN (L.take j) X=O at *
     cases hg with
     |nil =>
      repeat'(first|apply zF|apply zB|apply zE|(apply o_g zC;exact rfl;exact rfl)|(apply o_ar zC;exact rfl;exact rfl)|(apply yR;exact rfl;exact rfl)|(apply zM zC;(iterate 3 exact rfl);(focus exact pk))|(apply zD;exact rfl;exact rfl;(focus first|exact rfl);exact rfl;(focus exact⟨_,hS _ (hX7 _),by repeat with_reducible exact Take.nil⟩);rintro _ _ ⟨k,rfl,rfl⟩)|(apply zS;exact rfl)|(apply yC;exact rfl;(focus first|omega))|apply zA|apply zG|apply zI|apply zH|((with_reducible apply Sd.mk);first|exact True.intro|omega)|((with_reducible apply Ln.mk);first|(simp[hlb];first|done|omega))|((with_reducible apply Wr.mk);first|exact IntWalk.i64_in _ (by omega))|((with_reducible apply Ce.mk);first|exact hc1)|exact True.intro|exact rfl)
      all_goals first
       |contradiction
       |(exfalso;omega)
       |exact⟨(j+1,.slice none 0 0,(A1,⟨nodes M,false⟩)::h),⟨hjl,by show GrO iV _ (addN (L.take (j+1)) X) _ _;rw[hst];exact .nil⟩,by show L.length-(j+1)<L.length-j;omega,(by repeat'(first|exact trivial|refine⟨rfl,?_⟩|refine⟨congrArg some ?_,?_⟩)),(by repeat with_reducible first|exact Take.nil|apply Take.c|apply Take.drop)⟩
     |some A3 _ =>
      repeat'(first|apply zF|apply zB|apply zE|(apply o_g zC;exact rfl;exact rfl)|(apply o_ar zC;exact rfl;exact rfl)|(apply yR;exact rfl;exact rfl)|(apply zM zC;(iterate 3 exact rfl);(focus exact pk))|(apply zD;exact rfl;exact rfl;(focus first|exact rfl);exact rfl;(focus exact⟨_,hS _ (hX7 _),by repeat with_reducible exact Take.nil⟩);rintro _ _ ⟨k,rfl,rfl⟩)|(apply zS;exact rfl)|(apply yC;exact rfl;(focus first|omega))|apply zA|apply zG|apply zI|apply zH|((with_reducible apply Sd.mk);first|exact True.intro|omega)|((with_reducible apply Ln.mk);first|(simp[hlb];first|done|omega))|((with_reducible apply Wr.mk);first|exact IntWalk.i64_in _ (by omega))|((with_reducible apply Ce.mk);first|exact hc1)|exact True.intro|exact rfl)
      all_goals first
       |contradiction
       |(exfalso;omega)
       |exact⟨(j+1,gsl A3 0 O.length O.length 1,(A3,⟨nodes O,false⟩)::(A1,⟨nodes M,false⟩)::h),⟨hjl,by show GrO iV _ (addN (L.take (j+1)) X) _ _;rw[hst];exact .some A3 O⟩,by show L.length-(j+1)<L.length-j;omega,(by repeat'(first|exact trivial|refine⟨rfl,?_⟩|refine⟨congrArg some ?_,?_⟩)),(by repeat with_reducible first|exact Take.nil|apply Take.c|apply Take.drop)⟩
    |false =>
     rw[hb]at hS
     rw[hb,if_pos (by decide)]at hst
     generalize L[j]! = y at *
     have hol:=addN_le L X j
     generalize addN (L.take j) X=O at *
     have hob:(nodes O).length=O.length:=by simp
     cases hg with
     |nil =>
      repeat'(first|apply zF|apply zB|apply zE|(apply o_g zC;exact rfl;exact rfl)|(apply o_ar zC;exact rfl;exact rfl)|(apply yR;exact rfl;exact rfl)|(apply zM zC;(iterate 3 exact rfl);(focus exact pk))|(apply zT zC;(iterate 5 exact rfl);(focus decide);exact rfl;(focus decide);(focus repeat(first|exact CatR.nil|(apply CatR.one;exact rfl;exact rfl)));exact rfl)|(apply o_append_nil zC;(iterate 5 exact rfl);(focus exact⟨by decide⟩);(focus exact pk))|(apply zD;exact rfl;exact rfl;(focus first|exact rfl);exact rfl;(focus exact⟨_,hS _ (hX7 _),by repeat with_reducible exact Take.nil⟩);rintro _ _ ⟨k,rfl,rfl⟩)|(apply yB;exact rfl)|(apply yC;exact rfl;(focus first|omega))|apply zA|apply zG|apply zI|apply zH|((with_reducible apply Sd.mk);first|exact True.intro|omega|(constructor <;> first|omega|(unfold maxLen;omega)))|((with_reducible apply Ln.mk);first|rfl|(simp[hlb];first|done|omega))|((with_reducible apply Wr.mk);first|exact IntWalk.i64_in _ (by omega))|((with_reducible apply Ce.mk);first|exact hc1)|((with_reducible apply Su.mk);first|exact zQ)|exact True.intro|intro A|exact rfl)
      all_goals first
       |contradiction
       |(exfalso;omega)
       |exact⟨(j+1,gsl A 0 1 1 1,(A,⟨[I y],false⟩)::(A1,⟨nodes M,false⟩)::h),⟨hjl,by show GrO iV _ (addN (L.take (j+1)) X) (gsl A 0 1 1 1) _;rw[hst];exact .ofc (n:=1) (k:=1) rfl rfl rfl⟩,by show L.length-(j+1)<L.length-j;omega,(by repeat'(first|exact trivial|refine⟨rfl,?_⟩|refine⟨congrArg some ?_,?_⟩)),(by repeat with_reducible first|exact Take.nil|apply Take.c|apply Take.drop)⟩
     |some A3 _ =>
      repeat'(first|apply zF|apply zB|apply zE|(apply o_g zC;exact rfl;exact rfl)|(apply o_ar zC;exact rfl;exact rfl)|(apply yR;exact rfl;exact rfl)|(apply zM zC;(iterate 3 exact rfl);(focus exact pk))|(apply zT zC;(iterate 5 exact rfl);(focus decide);exact rfl;(focus decide);(focus repeat(first|exact CatR.nil|(apply CatR.one;exact rfl;exact rfl)));exact rfl)|(apply o_append zC;(iterate 5 exact rfl);(focus exact⟨by decide⟩);(focus exact up);(focus exact pk))|(apply zD;exact rfl;exact rfl;(focus first|exact rfl);exact rfl;(focus exact⟨_,hS _ (hX7 _),by repeat with_reducible exact Take.nil⟩);rintro _ _ ⟨k,rfl,rfl⟩)|(apply yB;exact rfl)|(apply yC;exact rfl;(focus first|omega))|apply zA|apply zG|apply zI|apply zH|((with_reducible apply Sd.mk);first|exact True.intro|omega|(constructor <;> first|omega|(unfold maxLen;omega)))|((with_reducible apply Ln.mk);first|rfl|omega|(simp[hlb,hob];first|done|omega))|((with_reducible apply Wr.mk);first|exact IntWalk.i64_in _ (by omega))|((with_reducible apply Ce.mk);first|exact hc1)|((with_reducible apply Su.mk);first|exact zQ)|exact True.intro|intro A|exact rfl)
      all_goals first
       |contradiction
       |(exfalso;omega)
       |exact⟨(j+1,gsl A3 0 (O.length+1*1) (O.length+1) 1,(A3,⟨nodes O++[I y],false⟩)::(A1,⟨nodes M,false⟩)::h),⟨hjl,by show GrO iV _ (addN (L.take (j+1)) X) (gsl A3 0 (O.length+1*1) (O.length+1) 1) _;rw[hst];exact .ofc (n:=O.length+1) (k:=O.length+1*1) (by simp) (by simp) (by omega)⟩,by show L.length-(j+1)<L.length-j;omega,(by repeat'(first|exact trivial|refine⟨rfl,?_⟩|refine⟨congrArg some ?_,?_⟩)),(by repeat with_reducible first|exact Take.nil|apply Take.c|apply Take.drop)⟩
   ·obtain rfl:j=L.length:=by omega
    rw[List.take_length]at hg
    generalize addN L X=O at *
    cases hg with
    |nil=>exact absurd rfl ha
    |some A3 _ =>
     repeat'(first|apply zF|apply zB|apply zE|(apply o_g zC;exact rfl;exact rfl)|(apply yD;exact rfl;(focus first|omega))|apply zA|apply zK|apply zJ|apply zN|apply zV|((with_reducible apply Sd.mk);first|exact True.intro))
     all_goals first
      |contradiction
      |(exfalso;omega)
      |(apply zL;(exact(show ResS _ _ _ _ [_,_,_] from⟨rfl,⟨rfl,⟨rfl,trivial⟩⟩⟩));(focus exact⟨A1,A3,rfl,rfl⟩);(focus repeat with_reducible first|exact Take.nil|apply Take.c|apply Take.drop))

theorem vnumT_le (n:Int):(vnum n).length≤9:=by
 unfold vnum
 split
 ·exact Nat.zero_le _
 ·rename_i h
  have h1:=(vk_ok (n:=n) (by omega)).2
  have:∀(k:Nat) (m:Int) (T:List UInt8),(vbe k m T).1.length=k+T.length:=by
   intro k
   induction k with
   |zero=>intro m T;show T.length=0+T.length;omega
   |succ k ih=>intro m T;unfold vbe;rw[ih];simp only[List.length_cons];omega
  rw[List.length_cons,this]
  simp only[List.length_nil]
  omega
theorem numbersT_any (L:List Int)(v:Value)(h:SH)(hv:Has h (nodes L) 1 L.length v)(hl:L.length≤maxLen) :
  SRun Tryz.prog 86 [v] h fun r q=>r=S (mEncN L).1∧q=h:=by
 have hE:=fun h hv=>EncodeNumbers_any L v h hv hl
 generalize mEncN L=E at *
 obtain⟨e1,e2⟩:=E
 refine zR Tryz.func86 rfl rfl ?_
 repeat'(first|apply zF|apply zB|apply zE|(apply o_g zC;exact rfl;exact rfl)|(apply zD;exact rfl;exact rfl;(focus first|exact rfl);exact rfl;(focus exact⟨_,hE _ hv,by repeat with_reducible exact Take.nil⟩);rintro _ _ ⟨rfl,rfl⟩)|apply zA|apply zN|((with_reducible apply Sd.mk);first|exact True.intro))
 all_goals first
  |(apply zL;(exact(show ResS _ _ _ _ [_] from⟨rfl,trivial⟩));(focus exact⟨rfl,rfl⟩);(focus repeat with_reducible first|exact Take.nil|apply Take.c|apply Take.drop))
abbrev fNum :Value:=.func (.func 86) #[] #[]
theorem hasX {X:List Int}{n:Nat}(hX:X.length=n){q h1:SH}{A:Nat}(p:Pick q A ⟨nodes X,false⟩ h1):Has q (nodes X) 1 X.length (gsl A 0 n n 1):=by
 subst hX;exact⟨_,_,rfl,fun _=>⟨A,_,_,by rw[Nat.one_mul],p⟩⟩
def cod0 (L:List Int):List UInt8:=vnum 0++(mEncN (gps (-1) L)).1
theorem cod0_any (L:List Int)(v:Value)(N T:Nat)(h:SH)(hv:Has h (nodes L) 1 L.length v)(hl:L.length≤4096)(hb:∀x∈L,tok x)(hel:(mEncN (gps (-1) L)).1.length≤100000) :
  SRun Tryz.prog 88 [gptr N 0 1,gptr T 0 1] ((N,⟨[fNum],false⟩)::(T,⟨[v],false⟩)::h) fun r q=>r=S (cod0 L)∧q=(N,⟨[fNum],false⟩)::(T,⟨[v],false⟩)::h:=by
 have hG:=fun h hv=>gaps_any L v h hv hl hb
 have hX:=gps_len L (-1)
 have hN:=fun v h hv=>numbersT_any (gps (-1) L) v h hv (by unfold maxLen;omega)
 unfold cod0
 generalize gps (-1) L=X at *
 generalize (mEncN X).1=E at *
 have h0:=fun h=>Number_any 0 h (by decide)
 have hz0:=vnumT_le 0
 generalize vnum 0=Z at *
 refine zY Tryz.func88 rfl rfl ?_
 repeat'(first|apply zF|apply zB|apply zE|(apply yH;(focus kernel_rfl);(focus kernel_rfl))|(apply o_g zC;exact rfl;exact rfl)|(apply zM zC;(iterate 3 exact rfl);(focus exact pk))|(apply yS;(iterate 4 exact rfl);(focus exact⟨_,h0 (lockS h),by repeat(first|with_reducible exact Take.nil|with_reducible apply yL|with_reducible apply Take.drop)⟩);(focus exact fun _ _ h=>h.1);(focus(repeat(first|exact Flat.c rfl))))|(apply yU;(iterate 4 exact rfl);(focus exact⟨hG _ (hv.re (.drop (.drop .nil))),by repeat with_reducible exact Take.nil⟩);(focus(intro _;(first|exact List.Perm.refl _)));(focus(intro A1 A2 ρ D e1 d1 hρ hD;refine⟨?_,?_⟩;(focus repeat(first|(apply VR.slc';(focus first|exact e1);(focus first|exact d1))));(focus repeat(first|((apply SHR.same);(focus intro x hx;(repeat(first|exact hx));done))|(apply SHR.cons;(focus first|exact e1);(focus repeat(first|((apply VRs.const);(focus first|exact map_const (fun _=>rfl)))))))))))|(apply yS;(iterate 4 exact rfl);(focus exact⟨_,hN _ _ (hasX hX .head).lock,by repeat with_reducible exact Take.nil⟩);(focus exact fun _ _ h=>h.1);(focus(repeat(first|exact Flat.c rfl))))|apply zA|apply zN|((with_reducible apply Sd.mk);first|exact True.intro|omega)|((with_reducible apply Ln.mk);first|rfl)|((with_reducible apply Ce.mk);first|rfl)|exact True.intro|refine Rc.mk ⟨_,_,pk,?_⟩|exact Or.inl rfl|apply And.intro|apply Or.inr|intro A|exact rfl)
 all_goals first
  |(apply zL;(exact(show ResS _ _ _ _ [_] from⟨rfl,trivial⟩));(focus exact⟨rfl,rfl⟩);(focus repeat with_reducible first|exact Take.nil|apply Take.c|apply Take.drop))
def cod1 (s f g:Int)(n:Nat)(L:List Int):List UInt8 :=
 vnum 1++vnum s++vnum f++vnum g++vnum n++(vnum (mEncN (gps (-1) (misN L (tms s f g n) n))).1.length++(mEncN (gps (-1) (misN L (tms s f g n) n))).1)++(mEncN (gps (-1) (addN L (tms s f g n)))).1
theorem addN_tok {L T:List Int}(h:∀x∈L,tok x):∀x∈addN L T,tok x:=fun x hx=>h x (List.mem_filter.1 hx).1
theorem misN_tok {L T:List Int}{n:Nat}(hn:n≤4096):∀x∈misN L T n,tok x:=by
 intro x hx
 unfold misN at hx
 obtain⟨i,hi,rfl⟩:=List.mem_map.1 hx
 have:=List.mem_range.1 (List.mem_filter.1 hi).1
 exact⟨by omega,by omega⟩
set_option maxHeartbeats 4000000 in
theorem cod1_any (a b c:Int)(r:List Int)(n:Nat)(v:Value)(N T:Nat)(h:SH)(hv:Has h (nodes (a::b::c::r)) 1 (a::b::c::r).length v)(hl:(a::b::c::r).length≤4096)(hj:inc (-1) (a::b::c::r))
  (hn:clkN a (b-a) (c-b) (a::b::c::r)[(a::b::c::r).length-1]! 4095 1=n) (hk:vck a (b-a) (c-b) n)
  (hm:misN (a::b::c::r) (tms a (b-a) (c-b) n) n≠[]) (ha:addN (a::b::c::r) (tms a (b-a) (c-b) n)≠[])
  (e1:(mEncN (gps (-1) (misN (a::b::c::r) (tms a (b-a) (c-b) n) n))).1.length≤100000) (e2:(mEncN (gps (-1) (addN (a::b::c::r) (tms a (b-a) (c-b) n)))).1.length≤100000) :
  SRun Tryz.prog 90 [gptr T 0 1,gptr N 0 1] ((N,⟨[fNum],false⟩)::(T,⟨[v],false⟩)::h) fun y q =>
   y=S (cod1 a (b-a) (c-b) n (a::b::c::r))∧q=(N,⟨[fNum],false⟩)::(T,⟨[v],false⟩)::h:=by
 have hD:=fun h hv=>Detect_any a b c r v h hv hl hj
 rw[hn]at hD
 have hE:=fun h hv=>Exceptions_any a (b-a) (c-b) n (a::b::c::r) v h hk hv hl hj hm ha
 have hn4:=hk.1
 have m1:=misN_le (a::b::c::r) (tms a (b-a) (c-b) n) n
 have m2:(addN (a::b::c::r) (tms a (b-a) (c-b) n)).length≤(a::b::c::r).length:=List.length_filter_le _ _
 have t1:=misN_tok (L:=a::b::c::r) (T:=tms a (b-a) (c-b) n) (n:=n) (by omega)
 have t2:=addN_tok (L:=a::b::c::r) (T:=tms a (b-a) (c-b) n) (inc_tok (by omega) hj)
 unfold cod1
 generalize misN (a::b::c::r) (tms a (b-a) (c-b) n) n=M at *
 generalize addN (a::b::c::r) (tms a (b-a) (c-b) n)=O at *
 have hkf:=hk.2.2.1;have hkg:=hk.2.2.2.1;have hks:=hk.2.1
 generalize a::b::c::r=L at *
 have hG1:=fun v h hv=>gaps_any M v h hv (by omega) t1
 have hG2:=fun v h hv=>gaps_any O v h hv (by omega) t2
 have hX1:=gps_len M (-1)
 have hX2:=gps_len O (-1)
 have hN1:=fun v h hv=>numbersT_any (gps (-1) M) v h hv (by unfold maxLen;omega)
 have hN2:=fun v h hv=>numbersT_any (gps (-1) O) v h hv (by unfold maxLen;omega)
 generalize gps (-1) M=X1 at *
 generalize gps (-1) O=X2 at *
 generalize (mEncN X1).1=E1 at *
 generalize (mEncN X2).1=E2 at *
 have hT:=fun h=>vText_any E1 h (by omega)
 have k1:=fun h=>Number_any 1 h (by decide)
 have k2:=fun h=>Number_any a h (by omega)
 have k3:=fun h=>Number_any (b-a) h (by omega)
 have k4:=fun h=>Number_any (c-b) h (by omega)
 have k5:=fun h=>Number_any (n:Int) h (by omega)
 have z1:=vnumT_le 1;have z2:=vnumT_le a;have z3:=vnumT_le (b-a);have z4:=vnumT_le (c-b);have z5:=vnumT_le n;have z6:=vnumT_le E1.length
 generalize vnum E1.length=Z6 at *
 generalize vnum 1=Z1 at *
 generalize vnum a=Z2 at *
 generalize vnum (b-a)=Z3 at *
 generalize vnum (c-b)=Z4 at *
 generalize vnum (n:Int)=Z5 at *
 generalize b-a=f at *
 generalize c-b=g at *
 refine zY Tryz.func90 rfl rfl ?_
 repeat'((fail_if_success (show SWp _ _ (Code.seq (Code.region 3 _ _) _) _ _ _));(fail_if_success (show SWp _ _ (Code.region 3 _ _) _ _ _));first|apply zF|apply zB|apply zE|(apply o_g zC;exact rfl;exact rfl)|(apply zM zC;(iterate 3 exact rfl);(focus exact pk))|(apply yQ zC;(iterate 3 exact rfl);(focus exact pk))|(apply yE zC;(iterate 4 exact rfl);(focus exact⟨rfl⟩);(focus exact up))|(apply yG zC;iterate 5 exact rfl)|(apply zD;exact rfl;exact rfl;(focus first|exact rfl);exact rfl;(focus exact⟨_,hD _ (hv.re (.drop (.drop .nil))),by repeat with_reducible exact Take.nil⟩);rintro _ _ ⟨rfl,rfl⟩)|(apply zD;exact rfl;exact rfl;(focus first|exact rfl);exact rfl;(focus exact⟨_,hE _ (hv.re (.drop (.drop (.drop .nil)))),by repeat with_reducible exact Take.nil⟩);rintro _ _ ⟨A5,A6,rfl,rfl⟩)|apply zA|((with_reducible apply Sd.mk);first|exact True.intro)|((with_reducible apply Ln.mk);first|rfl)|((with_reducible apply Ce.mk);first|rfl)|((with_reducible apply Pu.mk);first|exact yA rfl)|((with_reducible apply Su.mk);first|exact zQ)|exact True.intro|intro A|exact rfl)
 all_goals first|contradiction|(exfalso;omega)|skip
 have hM:∀q,Has ((A6,⟨nodes O,false⟩)::(A5,⟨nodes M,false⟩)::q) (nodes M) 1 M.length (gsl A5 0 M.length M.length 1):=fun q=>⟨_,_,rfl,fun _=>⟨A5,false,_,by rw[Nat.one_mul],.tail .head⟩⟩
 have hO:∀q y,Has (y::(A6,⟨nodes O,false⟩)::q) (nodes O) 1 O.length (gsl A6 0 O.length O.length 1):=fun q y=>⟨_,_,rfl,fun _=>⟨A6,false,_,by rw[Nat.one_mul],.tail .head⟩⟩
 repeat'(first|apply zF|apply zE|(apply yH;(focus kernel_rfl);(focus kernel_rfl))|(apply o_g zC;exact rfl;exact rfl)|(apply zM zC;(iterate 3 exact rfl);(focus exact pk))|(apply yS;(iterate 4 exact rfl);(focus exact⟨_,k1 (lockS h),by repeat(first|with_reducible exact Take.nil|with_reducible apply yL|with_reducible apply Take.drop)⟩);(focus exact fun _ _ h=>h.1);(focus(repeat(first|exact Flat.c rfl))))|(apply yS;(iterate 4 exact rfl);(focus exact⟨_,k2 (lockS h),by repeat(first|with_reducible exact Take.nil|with_reducible apply yL|with_reducible apply Take.drop)⟩);(focus exact fun _ _ h=>h.1);(focus(repeat(first|exact Flat.c rfl))))|(apply yS;(iterate 4 exact rfl);(focus exact⟨_,k3 (lockS h),by repeat(first|with_reducible exact Take.nil|with_reducible apply yL|with_reducible apply Take.drop)⟩);(focus exact fun _ _ h=>h.1);(focus(repeat(first|exact Flat.c rfl))))|(apply yS;(iterate 4 exact rfl);(focus exact⟨_,k4 (lockS h),by repeat(first|with_reducible exact Take.nil|with_reducible apply yL|with_reducible apply Take.drop)⟩);(focus exact fun _ _ h=>h.1);(focus(repeat(first|exact Flat.c rfl))))|(apply yS;(iterate 4 exact rfl);(focus exact⟨_,k5 (lockS h),by repeat(first|with_reducible exact Take.nil|with_reducible apply yL|with_reducible apply Take.drop)⟩);(focus exact fun _ _ h=>h.1);(focus(repeat(first|exact Flat.c rfl))))|(apply yU;(iterate 4 exact rfl);(focus exact⟨hG1 _ _ (hM _),by repeat with_reducible exact Take.nil⟩);(focus(intro _;(first|exact List.Perm.refl _)));(focus(intro A1 A2 ρ D e1 d1 hρ hD;refine⟨?_,?_⟩;(focus repeat(first|(apply VR.slc';(focus first|exact e1);(focus first|exact d1))));(focus repeat(first|((apply SHR.same);(focus intro x hx;(repeat(first|exact hx));done))|(apply SHR.cons;(focus first|exact e1);(focus repeat(first|((apply VRs.const);(focus first|exact map_const (fun _=>rfl)))))))))))|(apply yU;(iterate 4 exact rfl);(focus exact⟨hG2 _ _ (hO _ _),by repeat with_reducible exact Take.nil⟩);(focus(intro _;(first|exact List.Perm.refl _)));(focus(intro A1 A2 ρ D e1 d1 hρ hD;refine⟨?_,?_⟩;(focus repeat(first|(apply VR.slc';(focus first|exact e1);(focus first|exact d1))));(focus repeat(first|((apply SHR.same);(focus intro x hx;(repeat(first|exact hx));done))|(apply SHR.cons;(focus first|exact e1);(focus repeat(first|((apply VRs.const);(focus first|exact map_const (fun _=>rfl)))))))))))|(apply yS;(iterate 4 exact rfl);(focus exact⟨_,hN1 _ _ (hasX hX1 .head).lock,by repeat with_reducible exact Take.nil⟩);(focus exact fun _ _ h=>h.1);(focus(repeat(first|exact Flat.c rfl))))|(apply yS;(iterate 4 exact rfl);(focus exact⟨_,hN2 _ _ (hasX hX2 .head).lock,by repeat with_reducible exact Take.nil⟩);(focus exact fun _ _ h=>h.1);(focus(repeat(first|exact Flat.c rfl))))|(apply yS;(iterate 4 exact rfl);(focus exact⟨_,hT (lockS h),by repeat(first|with_reducible exact Take.nil|with_reducible apply yL|with_reducible apply Take.drop)⟩);(focus exact fun _ _ h=>h.1);(focus(repeat(first|exact Flat.c rfl))))|apply zA|apply zN|((with_reducible apply Sd.mk);first|exact True.intro|omega|(simp only[List.length_append];omega))|((with_reducible apply Ln.mk);first|rfl)|((with_reducible apply Ce.mk);first|rfl)|exact True.intro|refine Rc.mk ⟨_,_,pk,?_⟩|exact Rd.mk ⟨_,k1 (lockS h),by repeat(first|with_reducible exact Take.nil|with_reducible apply yL|with_reducible apply Take.drop)⟩|exact Rd.mk ⟨_,k2 (lockS h),by repeat(first|with_reducible exact Take.nil|with_reducible apply yL|with_reducible apply Take.drop)⟩|exact Rd.mk ⟨_,k3 (lockS h),by repeat(first|with_reducible exact Take.nil|with_reducible apply yL|with_reducible apply Take.drop)⟩|exact Rd.mk ⟨_,k4 (lockS h),by repeat(first|with_reducible exact Take.nil|with_reducible apply yL|with_reducible apply Take.drop)⟩|exact Rd.mk ⟨_,k5 (lockS h),by repeat(first|with_reducible exact Take.nil|with_reducible apply yL|with_reducible apply Take.drop)⟩|exact Or.inl rfl|refine Or.inr (And.intro ?_ ?_)|apply And.intro|apply Or.inr|intro A|exact rfl)
 all_goals first
  |contradiction
  |(exfalso;omega)
  |(apply zL;(exact(show ResS _ _ _ _ [_] from⟨rfl,trivial⟩));(focus exact⟨rfl,rfl⟩);(focus repeat with_reducible first|exact Take.nil|apply Take.c|apply Take.drop))

abbrev sV (s:List UInt8):Value:=S s
theorem okLen_any (s:List UInt8)(h:SH):SRun Tryz.prog 145 [S s] h fun r q=>r=B (decide (128<(s.length:Int)))∧q=h:=by
 refine zR Tryz.func145 rfl rfl ?_
 repeat'(first|apply zF|apply zB|apply zE|(apply o_g zC;exact rfl;exact rfl)|apply zA|apply zN|((with_reducible apply Sd.mk);first|exact True.intro))
 all_goals first
  |(apply zL;(exact(show ResS _ _ _ _ [_] from⟨rfl,trivial⟩));(focus exact⟨rfl,rfl⟩);(focus repeat with_reducible first|exact Take.nil|apply Take.c|apply Take.drop))
theorem IndexFunc_no (L:List (List UInt8))(v:Value)(h:SH)(hv:Has h (L.map sV) 1 L.length v)(hl:L.length≤4096)(hs:∀s∈L,s.length≤128) :
  SRun Tryz.prog 171 [v,.func (.func 145) #[] #[]] h fun r q=>r=I (-1)∧q=h:=by
 obtain⟨ad,fl,rfl,hh⟩:=hv
 have hlb:(L.map sV).length=L.length:=by simp
 refine zY Tryz.func171 rfl rfl ?_
 repeat'(first|apply zF|apply zB|apply zE|(apply o_g zC;exact rfl;exact rfl)|apply zA|apply zH|((with_reducible apply Sd.mk);first|exact True.intro))
 all_goals first|(exfalso;omega)|skip
 refine zZ (S:=Nat) (fun i=>[(0,.slice ad L.length fl),(1,.func (.func 145) #[] #[]),(7,I L.length),(8,I i)]) (fun _=>h) (fun i=>i≤L.length) (fun i=>L.length-i) 0 (Nat.zero_le _) (by repeat'(first|exact trivial|refine⟨rfl,?_⟩|refine⟨congrArg some ?_,?_⟩)) (by repeat with_reducible first|exact Take.nil|apply Take.c|apply Take.drop) ?_
 rintro i hi
 by_cases hil:i<L.length
 ·obtain⟨A',ro,h1,rfl,hp⟩:=hh (by omega)
  have hc1:(L.map sV)[0+((i:Int)).toNat*1]?=some (S L[i]!):=yM hil
  have hsi:=ihas_bang hs hil
  generalize L[i]! = s at *
  have hO:=fun h=>okLen_any s h
  rw[decide_eq_false (by omega)]at hO
  repeat'(first|apply zF|apply zB|apply zE|(apply o_g zC;exact rfl;exact rfl)|(apply o_ar zC;exact rfl;exact rfl)|(apply zM zC;(iterate 3 exact rfl);(focus exact pk))|(apply zD;exact rfl;exact rfl;(focus first|exact rfl);exact rfl;(focus exact⟨_,hO _,by repeat with_reducible exact Take.nil⟩);rintro _ _ ⟨rfl,rfl⟩)|(apply zS;exact rfl)|(apply yC;exact rfl;(focus first|omega))|apply zA|apply zG|apply zI|apply zH|((with_reducible apply Sd.mk);first|exact True.intro|omega)|((with_reducible apply Ln.mk);first|(simp[hlb];first|done|omega))|((with_reducible apply Wr.mk);first|exact IntWalk.i64_in _ (by omega))|((with_reducible apply Ce.mk);first|exact hc1)|exact True.intro|exact rfl)
  all_goals first
   |contradiction
   |(exfalso;omega)
   |exact⟨i+1,hil,by show L.length-(i+1)<L.length-i;omega,(by repeat'(first|exact trivial|refine⟨rfl,?_⟩|refine⟨congrArg some ?_,?_⟩)),(by repeat with_reducible first|exact Take.nil|apply Take.c|apply Take.drop)⟩
 ·obtain rfl:i=L.length:=by omega
  repeat'(first|apply zF|apply zB|apply zE|(apply o_g zC;exact rfl;exact rfl)|(apply yD;exact rfl;(focus first|omega))|apply zA|apply zK|apply zJ|apply zN|apply zV|((with_reducible apply Sd.mk);first|exact True.intro))
  all_goals first
   |contradiction
   |(exfalso;omega)
   |(apply zL;(exact(show ResS _ _ _ _ [_] from⟨rfl,trivial⟩));(focus exact⟨rfl,rfl⟩);(focus repeat with_reducible first|exact Take.nil|apply Take.c|apply Take.drop))
theorem ContainsFunc_no (L:List (List UInt8))(v:Value)(h:SH)(hv:Has h (L.map sV) 1 L.length v)(hl:L.length≤4096)(hs:∀s∈L,s.length≤128) :
  SRun Tryz.prog 144 [v,.func (.func 145) #[] #[]] h fun r q=>r=B false∧q=h:=by
 have hI:=fun h hv=>IndexFunc_no L v h hv hl hs
 refine zY Tryz.func144 rfl rfl ?_
 repeat'(first|apply zF|apply zB|apply zE|(apply o_g zC;exact rfl;exact rfl)|(apply zD;exact rfl;exact rfl;(focus first|exact rfl);exact rfl;(focus exact⟨_,hI _ hv,by repeat with_reducible exact Take.nil⟩);rintro _ _ ⟨rfl,rfl⟩)|apply zA|apply zN|((with_reducible apply Sd.mk);first|exact True.intro))
 all_goals first
  |(apply zL;(exact(show ResS _ _ _ _ [_] from⟨rfl,trivial⟩));(focus exact⟨rfl,rfl⟩);(focus repeat with_reducible first|exact Take.nil|apply Take.c|apply Take.drop))
def wds (acc:List (List UInt8)):List (List UInt8)→List (List UInt8)
 |[]=>acc
 |w::r=>if w∈acc then wds acc r else wds (acc++[w]) r
theorem wds_ne :∀(L acc:List (List UInt8)),acc≠[]→wds acc L≠[]
 |[],_,h=>h
 |w::r,acc,h=>by
  show(if w∈acc then wds acc r else wds (acc++[w]) r)≠[]
  split
  ·exact wds_ne r acc h
  ·exact wds_ne r _ (by simp)
def ixo (w:List UInt8):List (List UInt8)→Nat
 |[]=>0
 |a::r=>if a=w then 0 else ixo w r+1
def plcs (W:List (List UInt8)):List (List UInt8 × Value):=W.zipIdx.map fun x=>(x.1,I (x.2:Int))
theorem mget_plcs (W:List (List UInt8))(w:List UInt8):mget (plcs W) w=if w∈W then some (I (ixo w W:Int))else none:=by
 suffices ∀k:Nat,mget ((W.zipIdx k).map fun x:List UInt8 × Nat=>(x.1,I (x.2:Int))) w=if w∈W then some (I ((k+ixo w W:Nat):Int))else none by
  have h:=this 0
  unfold plcs
  rw[h]
  simp only[Nat.zero_add]
 induction W with
 |nil=>intro k;rfl
 |cons a r ih =>
  intro k
  rw[List.zipIdx_cons,List.map_cons]
  show(if a=w then some (I ((k:Nat):Int))else mget ((r.zipIdx (k+1)).map _) w)=_
  rw[ih (k+1)]
  by_cases h:a=w
  ·subst h;rw[if_pos rfl,if_pos List.mem_cons_self];show some (I (k:Int))=some (I ((k+(if a=a then 0 else _):Nat):Int));rw[if_pos rfl,Nat.add_zero]
  ·rw[if_neg h]
   have hx:ixo w (a::r)=ixo w r+1:=if_neg h
   rw[hx]
   have:(w∈a::r)↔w∈r:=by simp[Ne.symm h]
   by_cases hw:w∈r
   ·rw[if_pos hw,if_pos (this.2 hw),show k+1+ixo w r=k+(ixo w r+1)by omega]
   ·rw[if_neg hw,if_neg (fun g=>hw (this.1 g))]
theorem mput_plcs {W:List (List UInt8)}{w:List UInt8}(h:w ∉ W):mput (plcs W) w (I (W.length:Int))=plcs (W++[w]):=by
 unfold plcs
 suffices ∀k:Nat,mput ((W.zipIdx k).map fun x:List UInt8 × Nat=>(x.1,I (x.2:Int))) w (I ((k+W.length:Nat):Int))=((W++[w]).zipIdx k).map fun x:List UInt8 × Nat=>(x.1,I (x.2:Int))by
  have h:=this 0
  simp only[Nat.zero_add]at h
  exact h
 induction W with
 |nil=>intro k;rfl
 |cons a r ih =>
  intro k
  have h1:a≠w:=fun g=>h (by simp[g])
  have h2:w ∉ r:=fun g=>h (by simp[g])
  rw[List.cons_append,List.zipIdx_cons,List.zipIdx_cons,List.map_cons,List.map_cons]
  show(if a=w then _ else(a,I ((k:Nat):Int))::mput ((r.zipIdx (k+1)).map _) w _)=_
  rw[if_neg h1,←ih h2 (k+1),List.length_cons,show k+(r.length+1)=k+1+r.length by omega]
abbrev mS (W:List (List UInt8)):List Value:=mapC (fun l:List UInt8=>S l) (plcs W)
theorem index_any (L:List (List UInt8))(v:Value)(h:SH)(hv:Has h (L.map sV) 1 L.length v)(hl:L.length≤4096)(h0:L≠[]) :
  SRun Tryz.prog 172 [v] h fun r q=>∃A M,r=.tuple #[gsl A 0 (wds [] L).length (wds [] L).length 1,.map (some M)]∧q=(A,⟨(wds [] L).map sV,false⟩)::(M,⟨mS (wds [] L),false⟩)::h:=by
 obtain⟨ad,fl,rfl,hh⟩:=hv
 have hlb:(L.map sV).length=L.length:=by simp
 obtain⟨R,hR⟩:∃R,wds [] L=R:=⟨_,rfl⟩
 rw[hR]
 have hRn:R≠[]:=by
  rw[←hR]
  cases L with
  |nil=>exact absurd rfl h0
  |cons w r=>show(if w∈[] then wds [] r else wds ([]++[w]) r)≠[];rw[if_neg (by simp)];exact wds_ne _ _ (by simp)
 refine zR Tryz.func172 rfl rfl ?_
 repeat'(first|apply zF|apply zB|apply zE|(apply o_g zC;exact rfl;exact rfl)|(apply o_makeMap;exact rfl)|apply zA|apply zH|((with_reducible apply Sd.mk);first|exact True.intro)|intro A)
 all_goals first|(exfalso;omega)|skip
 revert A;intro M
 refine zZ (S:=Nat × List (List UInt8) × Value × SH) (fun s=>[(4,s.2.2.1),(5,.map (some M)),(11,.slice ad L.length fl),(12,I L.length),(13,I s.1)])
  (fun s=>(M,⟨mS s.2.1,false⟩)::s.2.2.2) (fun s=>s.1≤L.length∧GrO sV h s.2.1 s.2.2.1 s.2.2.2∧wds s.2.1 (L.drop s.1)=R∧s.2.1.length≤s.1) (fun s=>L.length-s.1) (0,[],.slice none 0 0,h) ⟨Nat.zero_le _,.nil,hR,Nat.le_refl _⟩ (by repeat'(first|exact trivial|refine⟨rfl,?_⟩|refine⟨congrArg some ?_,?_⟩)) (by repeat(first|with_reducible exact Take.nil|with_reducible apply Take.c|((with_reducible apply Take.cE);first|exact rfl|(apply blkE;(focus first|exact rfl|exact yI rfl|exact yO rfl|exact congrArg (fun v=>[v]) (gslE rfl rfl (by first|rfl|exact ‹_›|omega|(simp ;first|done|omega)) (by first|rfl|exact ‹_›|omega|(simp ;first|done|omega)) rfl))))|with_reducible apply Take.drop)) ?_
 rintro⟨i,W,u,q⟩ ⟨hi,hg,hr,hwl⟩
 dsimp only at hi hg hr hwl ⊢
 by_cases hil:i<L.length
 ·obtain⟨A',ro,h1,rfl,hp⟩:=hh (by omega)
  rw[drop_bang hil]at hr
  have hc1:(L.map sV)[0+((i:Int)).toNat*1]?=some (S L[i]!):=yM hil
  have hmg:=mget_plcs W L[i]!
  generalize L[i]! = w at *
  have hr:(if w∈W then wds W (L.drop (i+1))else wds (W++[w]) (L.drop (i+1)))=R:=hr
  have hwb:(W.map sV).length=W.length:=by simp
  by_cases hw:w∈W
  ·rw[if_pos hw]at hr hmg
   have hlk:(mget (plcs W) w).getD (I 0)=I (ixo w W:Int)∧(mget (plcs W) w).isSome=true:=by rw[hmg];exact⟨rfl,rfl⟩
   have hgt:=hg.has.2
   cases hg with
   |nil=>exact absurd hw (by simp)
   |some A1 _ =>
    repeat'(first|apply zF|apply zB|apply zE|(apply o_g zC;exact rfl;exact rfl)|(apply o_ar zC;exact rfl;exact rfl)|(apply yR;exact rfl;exact rfl)|(apply zM zC;(iterate 3 exact rfl);(focus exact pk))|(apply o_lookupc (α:=List UInt8) zC;exact rfl;(focus exact pk);exact rfl;(focus exact Tryz.underlying243);(focus exact Tryz.underlying9);(focus exact keyS);exact rfl;exact rfl;(focus first|exact hlk))|(apply zS;exact rfl)|(apply yC;exact rfl;(focus first|omega))|apply zA|apply zG|apply zI|apply zH|((with_reducible apply Sd.mk);first|exact True.intro|omega)|((with_reducible apply Ln.mk);first|(simp[hlb,hwb];first|done|omega))|((with_reducible apply Wr.mk);first|exact IntWalk.i64_in _ (by omega))|((with_reducible apply Ce.mk);first|exact hc1)|exact True.intro|exact rfl)
    all_goals first
     |contradiction
     |(exfalso;omega)
     |exact⟨(i+1,W,_,_),⟨hil,.some A1 W,hr,by show W.length≤i+1;omega⟩,by show L.length-(i+1)<L.length-i;omega,(by repeat'(first|exact trivial|refine⟨rfl,?_⟩|refine⟨congrArg some ?_,?_⟩)),(by repeat with_reducible first|exact Take.nil|apply Take.c|apply Take.drop)⟩
  ·rw[if_neg hw]at hr hmg
   have hlk:(mget (plcs W) w).getD (I 0)=I 0∧(mget (plcs W) w).isSome=false:=by rw[hmg];exact⟨rfl,rfl⟩
   have hmp:=mput_plcs hw
   cases hg with
   |nil =>
    repeat'(first|apply zF|apply zB|apply zE|(apply o_g zC;exact rfl;exact rfl)|(apply o_ar zC;exact rfl;exact rfl)|(apply yR;exact rfl;exact rfl)|(apply zM zC;(iterate 3 exact rfl);(focus exact pk))|(apply zT zC;(iterate 5 exact rfl);(focus decide);exact rfl;(focus decide);(focus repeat(first|exact CatR.nil|(apply CatR.one;exact rfl;exact rfl)));exact rfl)|(apply o_append_nil zC;(iterate 5 exact rfl);(focus exact⟨by decide⟩);(focus exact pk))|(apply o_mapUpdate (α:=List UInt8);exact rfl;(focus exact up);exact rfl;exact rfl;(focus exact Tryz.underlying243);(focus exact Tryz.underlying9);(focus exact keyS))|(apply o_lookupc (α:=List UInt8) zC;exact rfl;(focus exact pk);exact rfl;(focus exact Tryz.underlying243);(focus exact Tryz.underlying9);(focus exact keyS);exact rfl;exact rfl;(focus first|exact hlk))|(apply yB;exact rfl)|(apply yC;exact rfl;(focus first|omega))|apply zA|apply zG|apply zI|apply zH|((with_reducible apply Sd.mk);first|exact True.intro|omega|(constructor <;> first|omega|(unfold maxLen;omega)))|((with_reducible apply Ln.mk);first|rfl|(simp[hlb];first|done|omega))|((with_reducible apply Wr.mk);first|exact IntWalk.i64_in _ (by omega))|((with_reducible apply Ce.mk);first|exact hc1)|((with_reducible apply Su.mk);first|exact zQ)|exact True.intro|intro A|exact rfl)
    all_goals first
     |contradiction
     |(exfalso;omega)
     |exact⟨(i+1,[w],gsl A 0 1 1 1,(A,⟨[S w],false⟩)::h),⟨hil,.ofc (n:=1) (k:=1) rfl rfl rfl,hr,by show 1≤i+1;omega⟩,by show L.length-(i+1)<L.length-i;omega,(by repeat'(first|exact trivial|refine⟨rfl,?_⟩|refine⟨congrArg some ?_,?_⟩)),by show Take _ ((M,⟨mapC (fun l:List UInt8=>S l) (plcs ([]++[w])),false⟩)::_);rw[←hmp];exact(by repeat with_reducible first|exact Take.nil|apply Take.c|apply Take.drop)⟩
   |some A1 _ =>
    repeat'(first|apply zF|apply zB|apply zE|(apply o_g zC;exact rfl;exact rfl)|(apply o_ar zC;exact rfl;exact rfl)|(apply yR;exact rfl;exact rfl)|(apply zM zC;(iterate 3 exact rfl);(focus exact pk))|(apply zT zC;(iterate 5 exact rfl);(focus decide);exact rfl;(focus decide);(focus repeat(first|exact CatR.nil|(apply CatR.one;exact rfl;exact rfl)));exact rfl)|(apply o_append zC;(iterate 5 exact rfl);(focus exact⟨by decide⟩);(focus exact up);(focus exact pk))|(apply o_mapUpdate (α:=List UInt8);exact rfl;(focus exact up);exact rfl;exact rfl;(focus exact Tryz.underlying243);(focus exact Tryz.underlying9);(focus exact keyS))|(apply o_lookupc (α:=List UInt8) zC;exact rfl;(focus exact pk);exact rfl;(focus exact Tryz.underlying243);(focus exact Tryz.underlying9);(focus exact keyS);exact rfl;exact rfl;(focus first|exact hlk))|(apply yB;exact rfl)|(apply yC;exact rfl;(focus first|omega))|apply zA|apply zG|apply zI|apply zH|((with_reducible apply Sd.mk);first|exact True.intro|omega|(constructor <;> first|omega|(unfold maxLen;omega)))|((with_reducible apply Ln.mk);first|rfl|omega|(simp[hlb,hwb];first|done|omega))|((with_reducible apply Wr.mk);first|exact IntWalk.i64_in _ (by omega))|((with_reducible apply Ce.mk);first|exact hc1)|((with_reducible apply Su.mk);first|exact zQ)|exact True.intro|intro A|exact rfl)
    all_goals first
     |contradiction
     |(exfalso;omega)
     |exact⟨(i+1,W++[w],gsl A1 0 (W.length+1*1) (W.length+1) 1,(A1,⟨W.map sV++[S w],false⟩)::h),⟨hil,.ofc (n:=W.length+1) (k:=W.length+1*1) (by simp) (by simp) (by omega),hr,by show(W++[w]).length≤i+1;simp;omega⟩,by show L.length-(i+1)<L.length-i;omega,(by repeat'(first|exact trivial|refine⟨rfl,?_⟩|refine⟨congrArg some ?_,?_⟩)),by show Take _ ((M,⟨mapC (fun l:List UInt8=>S l) (plcs (W++[w])),false⟩)::_);rw[←hmp];exact(by repeat with_reducible first|exact Take.nil|apply Take.c|apply Take.drop)⟩
 ·obtain rfl:i=L.length:=by omega
  rw[List.drop_length]at hr
  have hr:W=R:=hr
  subst hr
  cases hg with
  |nil=>exact absurd rfl hRn
  |some A1 _ =>
   repeat'(first|apply zF|apply zB|apply zE|(apply o_g zC;exact rfl;exact rfl)|(apply yD;exact rfl;(focus first|omega))|apply zA|apply zK|apply zJ|apply zN|apply zV|((with_reducible apply Sd.mk);first|exact True.intro))
   all_goals first
    |contradiction
    |(exfalso;omega)
    |(apply zL;(exact(show ResS _ _ _ _ [_,_] from⟨rfl,⟨rfl,trivial⟩⟩));(focus exact⟨A1,M,rfl,rfl⟩);(focus repeat with_reducible first|exact Take.nil|apply Take.c|apply Take.drop))
theorem Dictionary_any (L:List (List UInt8))(v:Value)(h:SH)(hv:Has h (L.map sV) 1 L.length v)(hl:L.length≤4096)(h0:L≠[]) :
  SRun Tryz.prog 146 [v] h fun r q=>∃A,r=gsl A 0 (wds [] L).length (wds [] L).length 1∧q=(A,⟨(wds [] L).map sV,false⟩)::h:=by
 have hI:=fun h hv=>index_any L v h hv hl h0
 generalize wds [] L=W at *
 refine zR Tryz.func146 rfl rfl ?_
 repeat'(first|apply zF|apply zB|apply zE|(apply o_g zC;exact rfl;exact rfl)|(apply zD;exact rfl;exact rfl;(focus first|exact rfl);exact rfl;(focus exact⟨_,hI _ hv,by repeat with_reducible exact Take.nil⟩);rintro _ _ ⟨A1,M1,rfl,rfl⟩)|apply zA|apply zN|((with_reducible apply Sd.mk);first|exact True.intro))
 all_goals first
  |(apply zL;(exact(show ResS _ _ _ _ [_] from⟨rfl,trivial⟩));(focus exact⟨A1,rfl,rfl⟩);(focus repeat with_reducible first|exact Take.nil|apply Take.c|apply Take.drop))

theorem mem_wds :∀(L acc:List (List UInt8)) (w:List UInt8),w∈acc∨w∈L→w∈wds acc L
 |[],acc,w,h=>by
  rcases h with h|h
  ·exact h
  ·cases h
 |a::r,acc,w,h=>by
  show w∈(if a∈acc then wds acc r else wds (acc++[a]) r)
  have h:w∈acc∨w=a∨w∈r:=by
   rcases h with h|h
   ·exact .inl h
   ·exact .inr (List.mem_cons.1 h)
  split
  ·rename_i ha
   refine mem_wds r acc w ?_
   rcases h with h|h|h
   ·exact .inl h
   ·subst h;exact .inl ha
   ·exact .inr h
  ·refine mem_wds r _ w ?_
   rcases h with h|h|h
   ·exact .inl (List.mem_append_left _ h)
   ·subst h;exact .inl (by simp)
   ·exact .inr h
theorem ixo_le (w:List UInt8):∀W,ixo w W≤W.length
 |[]=>Nat.le_refl _
 |a::r=>by
  show(if a=w then 0 else ixo w r+1)≤r.length+1
  have:=ixo_le w r
  split
  ·omega
  ·omega
def bump :List (Int × Int)→List (Int × Int)
 |[]=>[]
 |[x]=>[(x.1,x.2+1)]
 |x::y::r=>x::bump (y::r)
theorem bump_snoc :∀(l:List (Int × Int)) (a c:Int),bump (l++[(a,c)])=l++[(a,c+1)]
 |[],_,_=>rfl
 |[x],_,_=>rfl
 |x::y::r,a,c=>by
  show x::bump (y::r++[(a,c)])=x::(y::r++[(a,c+1)])
  rw[bump_snoc (y::r)]
def rnR (W L:List (List UInt8)):Nat→List (Int × Int)
 |0=>[]
 |i+1=>if 0<i∧L[i-1]! = L[i]! then bump (rnR W L i)else rnR W L i++[(((ixo L[i]! W:Nat):Int),(1:Int))]
theorem snoc_of {α:Type}{l:List α}(h:l≠[]):∃l' x,l=l'++[x]:=⟨l.dropLast,l.getLast h,(List.dropLast_concat_getLast h).symm⟩
theorem rnR_ok (W L:List (List UInt8)):∀i,(0<i→rnR W L i≠[])∧(rnR W L i).length≤i∧∀x∈rnR W L i,0≤x.1∧x.1≤W.length∧1≤x.2∧x.2≤i
 |0=>⟨fun h=>absurd h (by omega),Nat.le_refl _,fun x hx=>by cases hx⟩
 |i+1=>by
  obtain⟨h1,h2,h3⟩:=rnR_ok W L i
  by_cases hc:0<i∧L[i-1]! = L[i]!
  ·have e:rnR W L (i+1)=bump (rnR W L i):=if_pos hc
   obtain⟨l,⟨a,c⟩,hl⟩:=snoc_of (h1 hc.1)
   rw[e,hl,bump_snoc]
   rw[hl]at h2 h3
   refine⟨fun _=>by simp,by simp at h2 ⊢;omega,fun x hx=>?_⟩
   rcases List.mem_append.1 hx with hx|hx
   ·have:=h3 x (List.mem_append_left _ hx);exact⟨this.1,this.2.1,this.2.2.1,by have:=this.2.2.2;omega⟩
   ·obtain rfl:x=(a,c+1):=by simpa using hx
    have:=h3 (a,c) (by simp)
    dsimp only at this ⊢
    exact⟨this.1,this.2.1,by omega,by omega⟩
  ·have e:rnR W L (i+1)=rnR W L i++[(((ixo L[i]! W:Nat):Int),(1:Int))]:=if_neg hc
   rw[e]
   refine⟨fun _=>by simp,by simp;omega,fun x hx=>?_⟩
   rcases List.mem_append.1 hx with hx|hx
   ·have:=h3 x hx;exact⟨this.1,this.2.1,this.2.2.1,by have:=this.2.2.2;omega⟩
   ·obtain rfl:x=(((ixo L[i]! W:Nat):Int),1):=by simpa using hx
    have:=ixo_le L[i]! W
    exact⟨by dsimp only;omega,by dsimp only;omega,Int.le_refl _,by dsimp only;omega⟩
inductive GrP (h:SH):List (Int × Int)→Value→SH→Prop
 |nil:GrP h [] (.slice none 0 0) h
 |some (A:Nat) (l:List (Int × Int)):GrP h l (gsl A 0 (2*l.length) l.length 2) ((A,⟨recs prF l,false⟩)::h)
theorem GrP.ofc {h:SH}{A n k:Nat}{l:List (Int × Int)}{c:List Value}(hc:c=recs prF l)(hn:l.length=n)(hk:k=2*n):GrP h l (gsl A 0 k n 2) ((A,⟨c,false⟩)::h):=by
 subst hc hn hk;exact .some A l
theorem prl (l:List (Int × Int)):(recs prF l).length=2*l.length:=by rw[recs_len (f:=prF) (w:=2) (fun _=>rfl),Nat.mul_comm]
theorem cell_last (l:List (Int × Int))(a c:Int):(recs prF (l++[(a,c)]))[0+(((l++[(a,c)]).length:Int)-1).toNat*2+1]?=some (I c):=by
 have e:(((l++[(a,c)]).length:Int)-1).toNat=l.length:=by simp
 rw[e,recs_app]
 rw[List.getElem?_append_right (by rw[prl];omega),prl,show 0+l.length*2+1-2*l.length=1 by omega];rfl
theorem tset_last (l:List (Int × Int))(a c d:Int):SetAt (recs prF (l++[(a,c)])) (0+(((l++[(a,c)]).length:Int)-1).toNat*2+1) (I d) (recs prF (l++[(a,d)])):=by
 have e:(((l++[(a,c)]).length:Int)-1).toNat=l.length:=by simp
 rw[e,recs_app,recs_app]
 have h1:(recs prF l++recs prF [(a,c)]).set (0+l.length*2+1) (I d)=recs prF l++recs prF [(a,d)]:=by
  rw[List.set_append_right _ _ (by rw[prl];omega),prl,show 0+l.length*2+1-2*l.length=1 by omega];rfl
 rw[←h1]
 exact SetAt.any (by rw[List.length_append,prl];show _<_+2;omega)
set_option maxHeartbeats 2000000 in
theorem Runs_any' (L:List (List UInt8))(v:Value)(h:SH)(hv:Has h (L.map sV) 1 L.length v)(hl:L.length≤4096)(h0:L≠[]) :
  SRun Tryz.prog 147 [v] h fun r q=>∃A,r=gsl A 0 (2*(rnR (wds [] L) L L.length).length) (rnR (wds [] L) L L.length).length 2∧q=(A,⟨recs prF (rnR (wds [] L) L L.length),false⟩)::h:=by
 obtain⟨ad,fl,rfl,hh⟩:=id hv
 have hI:=fun h hv=>index_any L (.slice ad L.length fl) h hv hl h0
 have hmw:=fun w (hw:w∈L)=>mem_wds L [] w (.inr hw)
 have hlb:(L.map sV).length=L.length:=by simp
 have hL0:0<L.length:=List.length_pos_iff.2 h0
 generalize wds [] L=W at *
 have hok:=rnR_ok W L
 refine zR Tryz.func147 rfl rfl ?_
 repeat'(first|apply zF|apply zB|apply zE|(apply o_g zC;exact rfl;exact rfl)|(apply zD;exact rfl;exact rfl;(focus first|exact rfl);exact rfl;(focus exact⟨_,hI _ hv,by repeat with_reducible exact Take.nil⟩);rintro _ _ ⟨A1,M1,rfl,rfl⟩)|apply zA|apply zH|((with_reducible apply Sd.mk);first|exact True.intro))
 all_goals first|(exfalso;omega)|skip
 refine zZ (S:=Nat × Value × SH) (fun s=>[(0,.slice ad L.length fl),(4,.map (some M1)),(5,s.2.1),(13,.slice ad L.length fl),(14,I L.length),(15,I s.1)])
  (fun s=>(M1,⟨mS W,false⟩)::s.2.2) (fun s=>s.1≤L.length∧GrP h (rnR W L s.1) s.2.1 s.2.2) (fun s=>L.length-s.1) (0,.slice none 0 0,h) ⟨Nat.zero_le _,.nil⟩ (by repeat'(first|exact trivial|refine⟨rfl,?_⟩|refine⟨congrArg some ?_,?_⟩)) (by repeat with_reducible first|exact Take.nil|apply Take.c|apply Take.drop) ?_
 rintro⟨i,u,q⟩ ⟨hi,hg⟩
 dsimp only at hi hg ⊢
 by_cases hil:i<L.length
 ·obtain⟨A',ro,h1,rfl,hp⟩:=hh (by omega)
  obtain⟨k1,k2,k3⟩:=hok i
  have hmem:=hmw _ (mm_bang hil)
  have hmg:=mget_plcs W L[i]!
  rw[if_pos hmem]at hmg
  have hlk:(mget (plcs W) L[i]!).getD (I 0)=I (ixo L[i]! W:Int):=by rw[hmg];rfl
  have hc1:(L.map sV)[0+((i:Int)).toNat*1]?=some (S L[i]!):=yM hil
  have hc2:0<i→(L.map sV)[0+((i:Int)-1).toNat*1]?=some (S L[i-1]!):=fun h=>by
   rw[show((i:Int)-1).toNat=i-1 by omega];exact cell_map (by omega)
  by_cases hc:0<i∧L[i-1]! = L[i]!
  ·have e:rnR W L (i+1)=bump (rnR W L i):=if_pos hc
   have hc2:=hc2 hc.1
   obtain⟨l,⟨a,c⟩,hla⟩:=snoc_of (k1 hc.1)
   rw[hla]at hg k2 k3 e
   rw[bump_snoc]at e
   have hcb:=k3 (a,c) (by simp)
   dsimp only at hcb
   rw[hc.2]at hc2
   have hi0:=hc.1
   clear hc k1 k3 hok
   generalize L[i]! = w at *
   have hcl:=cell_last l a c
   have hsl:=tset_last l a c (c+1)
   have hpl:=prl (l++[(a,c)])
   have hlen:1≤(l++[(a,c)]).length:=by simp
   generalize hO:l++[(a,c)]=O at *
   cases hg with
   |nil=>exact absurd hlen (by decide)
   |some A2 _ =>
    repeat'(first|apply zF|apply zB|apply zE|(apply o_g zC;exact rfl;exact rfl)|(apply o_ar zC;exact rfl;exact rfl)|(apply zM zC;(iterate 3 exact rfl);(focus exact pk))|(apply zX zC;(iterate 4 exact rfl);(focus exact up))|(apply zU;exact rfl;exact rfl)|(apply o_gT;(iterate 3 exact rfl);(focus first|omega))|(apply yC;exact rfl;(focus first|with_reducible exact rfl|omega))|apply zA|apply zK|apply zJ|apply zI|apply zV|apply zH|((with_reducible apply Sd.mk);first|exact True.intro|omega)|((with_reducible apply Ln.mk);first|omega|(simp[hlb,hpl];first|done|omega))|((with_reducible apply Wr.mk);first|exact IntWalk.i64_in _ (by omega))|((with_reducible apply Ce.mk);first|exact hc1|exact hc2|exact hcl)|((with_reducible apply Se.mk);first|exact hsl)|exact True.intro|exact rfl)
    all_goals first
     |contradiction
     |(exfalso;omega)
     |exact⟨(i+1,gsl A2 0 (2*O.length) O.length 2,(A2,⟨recs prF (l++[(a,c+1)]),false⟩)::h),⟨hil,by show GrP h (rnR W L (i+1)) _ _;rw[e];exact .ofc rfl (by rw[←hO];simp) rfl⟩,by show L.length-(i+1)<L.length-i;omega,(by repeat'(first|exact trivial|refine⟨rfl,?_⟩|refine⟨congrArg some ?_,?_⟩)),(by repeat with_reducible first|exact Take.nil|apply Take.c|apply Take.drop)⟩
  ·have e:rnR W L (i+1)=rnR W L i++[(((ixo L[i]! W:Nat):Int),(1:Int))]:=if_neg hc
   have hne:0<i→L[i-1]!≠L[i]!:=fun h g=>hc ⟨h,g⟩
   have hpl:=prl (rnR W L i)
   have hxl:=ixo_le L[i]! W
   have k1:0<i→rnR W L i≠[]:=k1
   clear hok k3
   generalize rnR W L i=O at *
   generalize L[i]! = w at *
   generalize L[i-1]! = w1 at *
   by_cases hi0:i=0
   ·subst hi0
    cases hg with
    |nil =>
     repeat'(first|apply zF|apply zB|apply zE|(apply o_g zC;exact rfl;exact rfl)|(apply o_ar zC;exact rfl;exact rfl)|(apply zM zC;(iterate 3 exact rfl);(focus exact pk))|(apply yT zC;exact rfl;exact rfl;(focus first|with_reducible exact pl214);exact rfl;(focus repeat(first|exact BuildR.nil|(apply BuildR.one;exact rfl;exact rfl;(first|(focus(repeat(first|exact SetAt.zero|apply SetAt.succ));done)))));exact rfl)|(apply zT zC;(iterate 5 exact rfl);(focus decide);exact rfl;(focus decide);(focus repeat(first|exact CatR.last rfl));exact rfl)|(apply o_append_nil zC;(iterate 5 exact rfl);(focus exact⟨by decide⟩);(focus exact pk))|(apply o_lookup (α:=List UInt8) zC;exact rfl;(focus exact pk);exact rfl;(focus exact Tryz.underlying243);(focus exact Tryz.underlying9);(focus exact keyS);exact rfl;exact rfl;(focus first|exact hlk))|(apply yF;iterate 4 exact rfl)|(apply zS;exact rfl)|(apply yC;exact rfl;(focus first|omega))|apply zA|apply zG|apply zI|apply zH|((with_reducible apply Sd.mk);first|exact True.intro|omega|(constructor <;> first|omega|(unfold maxLen;omega)))|((with_reducible apply Ln.mk);first|rfl|(simp[hlb];first|done|omega))|((with_reducible apply Wr.mk);first|exact IntWalk.i64_in _ (by omega))|((with_reducible apply Ce.mk);first|exact hc1)|((with_reducible apply Su.mk);first|exact zQ)|exact True.intro|intro A|exact rfl)
     all_goals first
      |contradiction
      |(exfalso;omega)
      |exact⟨(1,gsl A 0 2 1 2,(A,⟨[I (ixo w W),I 1],false⟩)::h),⟨by omega,by show GrP h (rnR W L (0+1)) _ _;rw[e];exact .ofc rfl rfl rfl⟩,by omega,(by repeat'(first|exact trivial|refine⟨rfl,?_⟩|refine⟨congrArg some ?_,?_⟩)),(by repeat with_reducible first|exact Take.nil|apply Take.c|apply Take.drop)⟩
    |some A2 _ =>
     repeat'(first|apply zF|apply zB|apply zE|(apply o_g zC;exact rfl;exact rfl)|(apply o_ar zC;exact rfl;exact rfl)|(apply zM zC;(iterate 3 exact rfl);(focus exact pk))|(apply yT zC;exact rfl;exact rfl;(focus first|with_reducible exact pl214);exact rfl;(focus repeat(first|exact BuildR.nil|(apply BuildR.one;exact rfl;exact rfl;(first|(focus(repeat(first|exact SetAt.zero|apply SetAt.succ));done)))));exact rfl)|(apply zT zC;(iterate 5 exact rfl);(focus decide);exact rfl;(focus decide);(focus repeat(first|exact CatR.last rfl));exact rfl)|(apply o_append zC;(iterate 5 exact rfl);(focus exact⟨by decide⟩);(focus exact up);(focus exact pk))|(apply o_lookup (α:=List UInt8) zC;exact rfl;(focus exact pk);exact rfl;(focus exact Tryz.underlying243);(focus exact Tryz.underlying9);(focus exact keyS);exact rfl;exact rfl;(focus first|exact hlk))|(apply yF;iterate 4 exact rfl)|(apply zS;exact rfl)|(apply yC;exact rfl;(focus first|omega))|apply zA|apply zG|apply zI|apply zH|((with_reducible apply Sd.mk);first|exact True.intro|omega|(constructor <;> first|omega|(unfold maxLen;omega)))|((with_reducible apply Ln.mk);first|rfl|omega|(simp[hlb,hpl];first|done|omega))|((with_reducible apply Wr.mk);first|exact IntWalk.i64_in _ (by omega))|((with_reducible apply Ce.mk);first|exact hc1)|((with_reducible apply Su.mk);first|exact zQ)|exact True.intro|intro A|exact rfl)
     all_goals first
      |contradiction
      |(exfalso;omega)
      |exact⟨(1,gsl A2 0 (2*O.length+1*2) (O.length+1) 2,(A2,⟨recs prF O++[I (ixo w W),I 1],false⟩)::h),⟨by omega,by show GrP h (rnR W L (0+1)) _ _;rw[e];exact .ofc (yI rfl) (by simp) (by omega)⟩,by omega,(by repeat'(first|exact trivial|refine⟨rfl,?_⟩|refine⟨congrArg some ?_,?_⟩)),(by repeat with_reducible first|exact Take.nil|apply Take.c|apply Take.drop)⟩
   ·have hc2:=hc2 (by omega)
    have hne:=hne (by omega)
    cases hg with
    |nil=>exact absurd rfl (k1 (by omega))
    |some A2 _ =>
     repeat'(first|apply zF|apply zB|apply zE|(apply o_g zC;exact rfl;exact rfl)|(apply o_ar zC;exact rfl;exact rfl)|(apply zM zC;(iterate 3 exact rfl);(focus exact pk))|(apply yT zC;exact rfl;exact rfl;(focus first|with_reducible exact pl214);exact rfl;(focus repeat(first|exact BuildR.nil|(apply BuildR.one;exact rfl;exact rfl;(first|(focus(repeat(first|exact SetAt.zero|apply SetAt.succ));done)))));exact rfl)|(apply zT zC;(iterate 5 exact rfl);(focus decide);exact rfl;(focus decide);(focus repeat(first|exact CatR.last rfl));exact rfl)|(apply o_append zC;(iterate 5 exact rfl);(focus exact⟨by decide⟩);(focus exact up);(focus exact pk))|(apply o_lookup (α:=List UInt8) zC;exact rfl;(focus exact pk);exact rfl;(focus exact Tryz.underlying243);(focus exact Tryz.underlying9);(focus exact keyS);exact rfl;exact rfl;(focus first|exact hlk))|(apply zU;exact rfl;exact rfl)|(apply o_gT;(iterate 3 exact rfl);(focus first|omega))|(apply yC;exact rfl;(focus first|omega))|(apply yD;exact rfl;(focus first|omega))|apply zA|apply zG|apply zI|apply zH|((with_reducible apply Sd.mk);first|exact True.intro|omega|(constructor <;> first|omega|(unfold maxLen;omega)))|((with_reducible apply Ln.mk);first|rfl|omega|(simp[hlb,hpl];first|done|omega))|((with_reducible apply Wr.mk);first|exact IntWalk.i64_in _ (by omega))|((with_reducible apply Ce.mk);first|exact hc1|exact hc2)|((with_reducible apply Su.mk);first|exact zQ)|exact True.intro|intro A|exact rfl)
     all_goals first
      |contradiction
      |(exfalso;omega)
      |exact⟨(i+1,gsl A2 0 (2*O.length+1*2) (O.length+1) 2,(A2,⟨recs prF O++[I (ixo w W),I 1],false⟩)::h),⟨hil,by show GrP h (rnR W L (i+1)) _ _;rw[e];exact .ofc (yI rfl) (by simp) (by omega)⟩,by show L.length-(i+1)<L.length-i;omega,(by repeat'(first|exact trivial|refine⟨rfl,?_⟩|refine⟨congrArg some ?_,?_⟩)),(by repeat with_reducible first|exact Take.nil|apply Take.c|apply Take.drop)⟩
 ·obtain rfl:i=L.length:=by omega
  obtain⟨k1,k2,k3⟩:=hok L.length
  generalize rnR W L L.length=O at *
  cases hg with
  |nil=>exact absurd rfl (k1 hL0)
  |some A2 _ =>
   repeat'(first|apply zF|apply zB|apply zE|(apply o_g zC;exact rfl;exact rfl)|(apply yD;exact rfl;(focus first|omega))|apply zA|apply zK|apply zJ|apply zN|apply zV|((with_reducible apply Sd.mk);first|exact True.intro))
   all_goals first
    |contradiction
    |(exfalso;omega)
    |(apply zL;(exact(show ResS _ _ _ _ [_] from⟨rfl,trivial⟩));(focus exact⟨A2,rfl,rfl⟩);(focus repeat with_reducible first|exact Take.nil|apply Take.c|apply Take.drop))

def rowL :List Int:=(List.range 4096).map fun i:Nat=>(i:Int)
theorem rowL_ok :rowL.length=4096∧(∀i:Nat,i<4096→rowL[i]! = (i:Int))∧∀x:Int,0≤x→x<4096→x∈rowL:=by
 have h1:rowL.length=4096:=by unfold rowL;rw[List.length_map,List.length_range]
 refine⟨h1,fun i hi=>?_,fun x h0 hx=>?_⟩
 ·rw[getElem!_pos _ i (by rw[h1];exact hi)];unfold rowL;rw[List.getElem_map,List.getElem_range]
 ·unfold rowL
  exact List.mem_map.2 ⟨x.toNat,List.mem_range.2 (by omega),by omega⟩
theorem row_any (h:SH):SRun Tryz.prog 194 [] h fun r q=>∃A,r=gsl A 0 4096 4096 1∧q=(A,⟨nodes rowL,false⟩)::h:=by
 obtain⟨hgl,hbg,_⟩:=rowL_ok
 generalize rowL=X at *
 have hz:zrow (I 0) ((4096:Int).toNat*1)=nodes (X.take 0++List.replicate (X.length-0) 0):=by
  rw[List.take_zero,List.nil_append,Nat.sub_zero,hgl];exact map_zrow (f:=iV) 0 rfl rfl _
 obtain⟨n,hn⟩:∃n,n=4096:=⟨_,rfl⟩
 refine w_body0 Tryz.func194 rfl rfl ?_
 repeat'(first|apply zF|apply zB|apply zE|(apply o_g zC;exact rfl;exact rfl)|(apply o_makeSlice zC;(iterate 6 exact rfl);(focus decide);(focus first|omega);(focus first|exact hz);exact rfl)|apply zA|apply zH|((with_reducible apply Sd.mk);first|exact True.intro)|intro A)
 all_goals first|(exfalso;omega)|skip
 refine zZ (S:=Nat) (fun i=>[(1,gsl A 0 4096 4096 1),(5,I 4096),(6,I i)])
  (fun i=>(A,⟨nodes (X.take i++List.replicate (X.length-i) 0),false⟩)::h) (fun i=>i≤n) (fun i=>n-i) 0 (Nat.zero_le _) (by repeat'(first|exact trivial|refine⟨rfl,?_⟩|refine⟨congrArg some ?_,?_⟩)) (by repeat with_reducible first|exact Take.nil|apply Take.c|apply Take.drop) ?_
 rintro i hi
 by_cases hil:i<n
 ·have hst:=set_prog (X:=X) (z:=0) (i:=i) (by omega)
  rw[hbg i (by omega)]at hst
  have hml:(X.take i++List.replicate (X.length-i) 0).length=4096:=by simp;omega
  have hlen:(nodes (X.take i++List.replicate (X.length-i) 0)).length=4096:=by rw[List.length_map,hml]
  have hset:SetAt (nodes (X.take i++List.replicate (X.length-i) 0)) (0+((i:Int)).toNat*1) (I i) (nodes (X.take (i+1)++List.replicate (X.length-(i+1)) 0)):=by
   rw[←hst];exact setAt_mapZ (by omega)
  repeat'(first|apply zF|apply zB|apply zE|(apply o_g zC;exact rfl;exact rfl)|(apply o_ar zC;exact rfl;exact rfl)|(apply zX zC;(iterate 4 exact rfl);(focus exact up))|(apply yC;exact rfl;(focus first|omega))|apply zA|apply zG|apply zI|apply zH|((with_reducible apply Sd.mk);first|exact True.intro|omega)|((with_reducible apply Ln.mk);first|omega)|((with_reducible apply Wr.mk);first|exact IntWalk.i64_in _ (by omega))|((with_reducible apply Se.mk);first|exact hset)|exact True.intro)
  all_goals first
   |(exfalso;omega)
   |exact⟨i+1,hil,by show n-(i+1)<n-i;omega,(by repeat'(first|exact trivial|refine⟨rfl,?_⟩|refine⟨congrArg some ?_,?_⟩)),(by repeat with_reducible first|exact Take.nil|apply Take.c|apply Take.drop)⟩
 ·have hin:i=n:=by omega
  have hfin:X.take i++List.replicate (X.length-i) 0=X:=by rw[show i=X.length by omega,List.take_length,Nat.sub_self];simp
  rw[hfin]
  repeat'(first|apply zF|apply zB|apply zE|(apply o_g zC;exact rfl;exact rfl)|(apply yD;exact rfl;(focus first|omega))|apply zA|apply zK|apply zJ|apply zN|apply zV|((with_reducible apply Sd.mk);first|exact True.intro))
  all_goals first
   |(exfalso;omega)
   |(apply zL;(exact(show ResS _ _ _ _ [_] from⟨rfl,trivial⟩));(focus exact⟨A,rfl,rfl⟩);(focus repeat with_reducible first|exact Take.nil|apply Take.c|apply Take.drop))
def ixn (x:Int):List Int→Nat
 |[]=>0
 |a::r=>if x=a then 0 else ixn x r+1
theorem ixn_lt {x:Int}:∀{X:List Int},x∈X→ixn x X<X.length
 |[],h=>by cases h
 |a::r,h=>by
  show(if x=a then 0 else ixn x r+1)<r.length+1
  by_cases e:x=a
  ·rw[if_pos e];omega
  ·rw[if_neg e]
   have:=ixn_lt (X:=r) ((List.mem_cons.1 h).resolve_left e)
   omega
theorem Index_any (X:List Int)(x:Int)(v:Value)(h:SH)(hv:Has h (nodes X) 1 X.length v)(hl:X.length≤4096)(hx:x∈X) :
  SRun Tryz.prog 175 [v,I x] h fun r q=>r=I (ixn x X)∧q=h:=by
 obtain⟨ad,fl,rfl,hh⟩:=hv
 have hlb:(nodes X).length=X.length:=by simp
 obtain⟨R,hR⟩:∃R,ixn x X=R:=⟨_,rfl⟩
 rw[hR]
 refine zY Tryz.func175 rfl rfl ?_
 repeat'(first|apply zF|apply zB|apply zE|(apply o_g zC;exact rfl;exact rfl)|apply zA|apply zH|((with_reducible apply Sd.mk);first|exact True.intro))
 all_goals first|(exfalso;omega)|skip
 refine zZ (S:=Nat) (fun i=>[(0,.slice ad X.length fl),(1,I x),(7,I X.length),(8,I i)]) (fun _=>h) (fun i=>i≤X.length∧i+ixn x (X.drop i)=R∧x∈X.drop i) (fun i=>X.length-i) 0 ⟨Nat.zero_le _,by rw[List.drop_zero,hR,Nat.zero_add],by rw[List.drop_zero];exact hx⟩ (by repeat'(first|exact trivial|refine⟨rfl,?_⟩|refine⟨congrArg some ?_,?_⟩)) (by repeat with_reducible first|exact Take.nil|apply Take.c|apply Take.drop) ?_
 rintro i ⟨hi,hr,hm⟩
 by_cases hil:i<X.length
 ·obtain⟨A',ro,h1,rfl,hp⟩:=hh (by omega)
  rw[drop_bang hil]at hr hm
  have hc1:(nodes X)[0+((i:Int)).toNat*1]?=some (I X[i]!):=yM hil
  generalize X[i]! = y at *
  have hr:i+(if x=y then 0 else ixn x (X.drop (i+1))+1)=R:=hr
  by_cases hxy:x=y
  ·rw[if_pos hxy]at hr
   repeat'(first|apply zF|apply zB|apply zE|(apply o_g zC;exact rfl;exact rfl)|(apply zM zC;(iterate 3 exact rfl);(focus exact pk))|(apply yC;exact rfl;(focus first|exact ‹_›|omega))|apply zA|apply zP|apply yP|apply zI|apply zN|apply zH|((with_reducible apply Sd.mk);first|exact True.intro|omega)|((with_reducible apply Ln.mk);first|(simp[hlb];first|done|omega))|((with_reducible apply Ce.mk);first|exact hc1)|exact True.intro|exact rfl)
   all_goals first
    |contradiction
    |(exfalso;omega)
    |(apply zL;(exact(show ResS _ _ _ _ [_] from⟨rfl,trivial⟩));(focus exact⟨congrArg I (by omega),rfl⟩);(focus repeat with_reducible first|exact Take.nil|apply Take.c|apply Take.drop))
  ·rw[if_neg hxy]at hr
   have hm:=(List.mem_cons.1 hm).resolve_left hxy
   repeat'(first|apply zF|apply zB|apply zE|(apply o_g zC;exact rfl;exact rfl)|(apply o_ar zC;exact rfl;exact rfl)|(apply zM zC;(iterate 3 exact rfl);(focus exact pk))|(apply yC;exact rfl;(focus first|omega))|(apply yD;exact rfl;(focus first|omega))|apply zA|apply zG|apply zI|apply zH|((with_reducible apply Sd.mk);first|exact True.intro|omega)|((with_reducible apply Ln.mk);first|(simp[hlb];first|done|omega))|((with_reducible apply Wr.mk);first|exact IntWalk.i64_in _ (by omega))|((with_reducible apply Ce.mk);first|exact hc1)|exact True.intro|exact rfl)
   all_goals first
    |contradiction
    |(exfalso;omega)
    |exact⟨i+1,⟨hil,by omega,hm⟩,by show X.length-(i+1)<X.length-i;omega,(by repeat'(first|exact trivial|refine⟨rfl,?_⟩|refine⟨congrArg some ?_,?_⟩)),(by repeat with_reducible first|exact Take.nil|apply Take.c|apply Take.drop)⟩
 ·exfalso
  rw[show i=X.length by omega,List.drop_length]at hm
  cases hm
theorem Front1_any (X:List Int)(x:Int)(v:Value)(h:SH)(hv:Has h (nodes X) 1 X.length v)(hl:X.length≤4096)(hx:x∈X) :
  SRun Tryz.prog 174 [v,I x] h fun r q=>r=.tuple #[I (ixn x X),I (ixn x X)]∧q=h:=by
 have hI:=fun h hv=>Index_any X x v h hv hl hx
 generalize ixn x X=k at *
 refine zY Tryz.func174 rfl rfl ?_
 repeat'(first|apply zF|apply zB|apply zE|(apply o_g zC;exact rfl;exact rfl)|(apply zD;exact rfl;exact rfl;(focus first|exact rfl);exact rfl;(focus exact⟨_,hI _ hv,by repeat with_reducible exact Take.nil⟩);rintro _ _ ⟨rfl,rfl⟩)|apply zA|apply zN|((with_reducible apply Sd.mk);first|exact True.intro))
 all_goals first
  |(apply zL;(exact(show ResS _ _ _ _ [_,_] from⟨rfl,⟨rfl,trivial⟩⟩));(focus exact⟨rfl,rfl⟩);(focus repeat with_reducible first|exact Take.nil|apply Take.c|apply Take.drop))
def mv (X:List Int)(p:Nat):List Int:=X[p]!::(X.take p++X.drop (p+1))
theorem mv_len {X:List Int}{p:Nat}(h:p<X.length):(mv X p).length=X.length:=by
 unfold mv;simp;omega
theorem mv_mem {X:List Int}{p:Nat}(h:p<X.length)(x:Int)(hx:x∈X):x∈mv X p:=by
 have e:X=X.take p++X[p]!::X.drop (p+1):=by rw[←drop_bang h,List.take_append_drop]
 rw[e]at hx
 unfold mv
 rcases List.mem_append.1 hx with hx|hx
 ·exact List.mem_cons_of_mem _ (List.mem_append_left _ hx)
 ·rcases List.mem_cons.1 hx with hx|hx
  ·rw[hx];exact List.mem_cons_self
  ·exact List.mem_cons_of_mem _ (List.mem_append_right _ hx)
theorem move_any (X:List Int)(p:Nat)(A:Nat)(h:SH)(hl:X.length≤4096)(hp:p<X.length) :
  SRun Tryz.prog 195 [gsl A 0 X.length X.length 1,I p] ((A,⟨nodes X,false⟩)::h) fun r q=>r=gsl A 0 X.length X.length 1∧q=(A,⟨nodes (mv X p),false⟩)::h:=by
 have hlb:(nodes X).length=X.length:=by simp
 have hc1:(nodes X)[0+((p:Int)).toNat*1]?=some (I X[p]!):=yM hp
 obtain⟨Y,hY⟩:∃Y,Y=X.take 1++X.take p++X.drop (p+1):=⟨_,rfl⟩
 have hyl:Y.length=X.length:=by rw[hY];simp;omega
 have hylb:(nodes Y).length=X.length:=by rw[List.length_map,hyl]
 have hset:SetAt (nodes Y) (0+(0:Int).toNat*1) (I X[p]!) (nodes (mv X p)):=by
  have e:mv X p=Y.set 0 X[p]!:=by
   cases X with
   |nil=>exact absurd hp (by simp)
   |cons a r=>rw[hY];rfl
  rw[e];exact setAt_map (i:=0) (by omega)
 by_cases hp0:p=0
 ·subst hp0
  have hYX:Y=X:=by
   rw[hY];cases X with
   |nil=>rfl
   |cons a r=>rfl
  rw[hYX]at hset
  refine zY Tryz.func195 rfl rfl ?_
  repeat'(first|apply zF|apply zB|apply zE|(apply yH;(focus kernel_rfl);(focus kernel_rfl))|(apply o_g zC;exact rfl;exact rfl)|(apply o_ar zC;exact rfl;exact rfl)|(apply zM zC;(iterate 3 exact rfl);(focus exact pk))|(apply zX zC;(iterate 4 exact rfl);(focus exact up))|(apply o_copy0 zC;iterate 4 exact rfl)|(apply o_slice3e zC;iterate 6 exact rfl)|(apply o_slice3f zC;iterate 5 exact rfl)|apply zA|apply zN|((with_reducible apply Sd.mk);first|exact True.intro|omega)|((with_reducible apply Ln.mk);first|omega)|((with_reducible apply Wr.mk);first|exact IntWalk.i64_in _ (by omega))|((with_reducible apply Ce.mk);first|exact hc1)|((with_reducible apply Se.mk);first|exact hset)|exact True.intro|exact rfl)
  all_goals first
   |contradiction
   |(exfalso;omega)
   |(apply zL;(exact(show ResS _ _ _ _ [_] from⟨rfl,trivial⟩));(focus exact⟨rfl,rfl⟩);(focus repeat with_reducible first|exact Take.nil|apply Take.c|apply Take.drop))
 ·have htl:(nodes (X.take p)).length=p:=by rw[List.length_map,List.length_take];omega
  have hsub:SubAt (nodes X) 0 (nodes (X.take p)):=fun i u hu=>by
   have e:nodes X=nodes (X.take p)++nodes (X.drop p):=by rw[←List.map_append,List.take_append_drop]
   rw[e,Nat.zero_add,List.getElem?_append_left (List.getElem?_eq_some_iff.1 hu).1];exact hu
  have hput:PutAt (nodes X) (0+(1:Int).toNat*1) (nodes (X.take p)) (nodes Y):=by
   refine⟨by rw[htl,hlb];show 0+1*1+p≤X.length;omega,?_⟩
   unfold lset
   rw[htl,hY]
   show _=(nodes X).take 1++_++(nodes X).drop (1+p)
   rw[Nat.add_comm 1 p]
   simp only[List.map_append,List.map_take,List.map_drop]
  refine zY Tryz.func195 rfl rfl ?_
  repeat'(first|apply zF|apply zB|apply zE|(apply yH;(focus kernel_rfl);(focus kernel_rfl))|(apply o_g zC;exact rfl;exact rfl)|(apply o_ar zC;exact rfl;exact rfl)|(apply zM zC;(iterate 3 exact rfl);(focus exact pk))|(apply zX zC;(iterate 4 exact rfl);(focus exact up))|(apply o_copyf zC;(iterate 4 exact rfl);(focus exact up);(focus exact pk))|(apply o_slice3f zC;iterate 5 exact rfl)|(apply o_slice3 zC;iterate 6 exact rfl)|apply zA|apply zN|((with_reducible apply Sd.mk);first|exact True.intro|omega)|((with_reducible apply Ln.mk);first|omega|(simp[hlb,htl,hylb];first|done|omega))|((with_reducible apply Wr.mk);first|exact IntWalk.i64_in _ (by omega))|((with_reducible apply Ce.mk);first|exact hc1)|((with_reducible apply Se.mk);first|exact hset)|((with_reducible apply Pu.mk);first|exact hput)|((with_reducible apply Su.mk);first|exact hsub)|exact all_map (fun _=>rfl)|exact True.intro|apply And.intro|exact rfl)
  all_goals first
   |contradiction
   |(exfalso;omega)
   |(apply zL;(exact(show ResS _ _ _ _ [_] from⟨rfl,trivial⟩));(focus exact⟨rfl,rfl⟩);(focus repeat with_reducible first|exact Take.nil|apply Take.c|apply Take.drop))

def frs :List Int→List Int→List Int
 |_,[]=>[]
 |X,n::r=>(ixn n X:Int)::frs (mv X (ixn n X)) r
theorem frs_len :∀(L X:List Int),(frs X L).length=L.length
 |[],_=>rfl
 |n::r,X=>congrArg (·+1) (frs_len r _)
theorem each_any (L:List Int)(v:Value)(h:SH)(hv:Has h (nodes L) 1 L.length v)(hl:L.length≤4096)(hb:∀x∈L,0≤x∧x<4096) :
  SRun Tryz.prog 173 [v,.func (.func 174) #[] #[]] h fun r q=>∃A,r=.tuple #[gsl A 0 L.length L.length 1,I 0]∧q=(A,⟨nodes (frs rowL L),false⟩)::h:=by
 obtain⟨ad,fl,rfl,hh⟩:=hv
 have hlb:(nodes L).length=L.length:=by simp
 obtain⟨hr1,_,hr3⟩:=rowL_ok
 have hrow:=row_any
 have hgl:=frs_len L rowL
 obtain⟨R,hR⟩:∃R,frs rowL L=R:=⟨_,rfl⟩
 rw[hR]at hgl ⊢
 generalize rowL=X0 at *
 have hz:zrow (I 0) (((L.length:Nat):Int).toNat*1)=nodes (R.take 0++List.replicate (R.length-0) 0):=by
  rw[List.take_zero,List.nil_append,Nat.sub_zero,hgl];exact map_zrow (f:=iV) 0 rfl rfl _
 refine zY Tryz.func173 rfl rfl ?_
 repeat'(first|apply zF|apply zB|apply zE|(apply o_g zC;exact rfl;exact rfl)|(apply yD;exact rfl;(focus first|omega))|apply zA|apply zI|apply zH|((with_reducible apply Sd.mk);first|exact True.intro))
 all_goals first|(exfalso;omega)|skip
 refine zZ (S:=Nat) (fun i=>[(0,.slice ad L.length fl),(1,.func (.func 174) #[] #[]),(17,.slice ad L.length fl),(18,I L.length),(19,I i)]) (fun _=>h) (fun i=>i≤L.length) (fun i=>L.length-i) 0 (Nat.zero_le _) (by repeat'(first|exact trivial|refine⟨rfl,?_⟩|refine⟨congrArg some ?_,?_⟩)) (by repeat with_reducible first|exact Take.nil|apply Take.c|apply Take.drop) ?_
 rintro i hi
 by_cases hil:i<L.length
 ·obtain⟨A',ro,h1,rfl,hp⟩:=hh (by omega)
  have hc1:(nodes L)[0+((i:Int)).toNat*1]?=some (I L[i]!):=yM hil
  have hxi:=ihas_bang hb hil
  generalize L[i]! = x at *
  repeat'(first|apply zF|apply zB|apply zE|(apply o_g zC;exact rfl;exact rfl)|(apply o_ar zC;exact rfl;exact rfl)|(apply zM zC;(iterate 3 exact rfl);(focus exact pk))|(apply zU;exact rfl;exact rfl)|(apply o_gF;(iterate 3 exact rfl);(focus first|omega))|(apply yC;exact rfl;(focus first|omega))|(apply yD;exact rfl;(focus first|omega))|apply zA|apply zG|apply zI|apply zH|((with_reducible apply Sd.mk);first|exact True.intro|omega)|((with_reducible apply Ln.mk);first|(simp[hlb];first|done|omega))|((with_reducible apply Wr.mk);first|exact IntWalk.i64_in _ (by omega))|((with_reducible apply Ce.mk);first|exact hc1)|exact True.intro|exact rfl)
  all_goals first
   |(exfalso;omega)
   |exact⟨i+1,hil,by show L.length-(i+1)<L.length-i;omega,(by repeat'(first|exact trivial|refine⟨rfl,?_⟩|refine⟨congrArg some ?_,?_⟩)),(by repeat with_reducible first|exact Take.nil|apply Take.c|apply Take.drop)⟩
 ·obtain rfl:i=L.length:=by omega
  repeat'(first|apply zF|apply zB|apply zE|(apply o_g zC;exact rfl;exact rfl)|(apply o_makeSlice zC;(iterate 6 exact rfl);(focus decide);(focus first|omega);(focus first|exact hz);exact rfl)|(apply zD;exact rfl;exact rfl;(focus first|exact rfl);exact rfl;(focus exact⟨_,hrow _,by repeat with_reducible exact Take.nil⟩);rintro _ _ ⟨A8,rfl,rfl⟩)|(apply yD;exact rfl;(focus first|omega))|apply zA|apply zK|apply zJ|apply zV|apply zH|((with_reducible apply Sd.mk);first|exact True.intro)|intro A)
  all_goals first|(exfalso;omega)|skip
  revert A;intro A9
  refine zZ (S:=Nat × List Int) (fun s=>[(0,.slice ad L.length fl),(1,.func (.func 174) #[] #[]),(8,gsl A8 0 4096 4096 1),(9,gsl A9 0 (L.length*1) L.length 1),(34,.slice ad L.length fl),(35,I L.length),(36,I s.1)])
   (fun s=>(A8,⟨nodes s.2,false⟩)::(A9,⟨nodes (R.take s.1++List.replicate (R.length-s.1) 0),false⟩)::h) (fun s=>s.1≤L.length∧s.2.length=4096∧(∀x:Int,0≤x→x<4096→x∈s.2)∧R.drop s.1=frs s.2 (L.drop s.1)) (fun s=>L.length-s.1) (0,X0) ⟨Nat.zero_le _,hr1,hr3,hR.symm⟩ (by repeat'(first|exact trivial|refine⟨rfl,?_⟩|refine⟨congrArg some ?_,?_⟩)) (by repeat with_reducible first|exact Take.nil|apply Take.c|apply Take.drop) ?_
  rintro⟨i,X⟩ ⟨hi,hxl,hxm,hd⟩
  clear hr1 hr3 hR hrow
  dsimp only at hi hxl hxm hd ⊢
  by_cases hil:i<L.length
  ·obtain⟨A',ro,h1,rfl,hp⟩:=hh (by omega)
   rw[drop_bang hil,drop_bang (show i<R.length by omega)]at hd
   obtain⟨hd1,hd2⟩:=List.cons.inj hd
   have hst:=set_prog (X:=R) (z:=0) (i:=i) (by omega)
   have hxi:=ihas_bang hb hil
   have hc1:(nodes L)[0+((i:Int)).toNat*1]?=some (I L[i]!):=yM hil
   rw[hd1]at hst
   generalize L[i]! = x at *
   have hxx:=hxm x hxi.1 hxi.2
   have hF:=fun v h hv=>Front1_any X x v h hv (by omega) hxx
   have hlt:=ixn_lt hxx
   have hml:=mv_len hlt
   have hmm:=mv_mem hlt
   generalize ixn x X=p at *
   have hM:=fun h=>move_any X p A8 h (by omega) hlt
   rw[hxl]at hM
   generalize hZ:mv X p=Z at *
   have hlm:(R.take i++List.replicate (R.length-i) 0).length=L.length:=by simp;omega
   have hlen:(nodes (R.take i++List.replicate (R.length-i) 0)).length=L.length*1:=by rw[List.length_map,hlm,Nat.mul_one]
   have hset:SetAt (nodes (R.take i++List.replicate (R.length-i) 0)) (0+((i:Int)).toNat*1) (I p) (nodes (R.take (i+1)++List.replicate (R.length-(i+1)) 0)):=by
    rw[←hst];exact setAt_mapZ (by omega)
   repeat'(first|apply zF|apply zB|apply zE|(apply o_g zC;exact rfl;exact rfl)|(apply o_ar zC;exact rfl;exact rfl)|(apply zM zC;(iterate 3 exact rfl);(focus exact pk))|(apply zX zC;(iterate 4 exact rfl);(focus exact up))|(apply zD;exact rfl;exact rfl;(focus first|exact rfl);exact rfl;(focus exact⟨_,hF _ _ (hasX hxl .head),by repeat with_reducible exact Take.nil⟩);rintro _ _ ⟨rfl,rfl⟩)|(apply zD;exact rfl;exact rfl;(focus first|exact rfl);exact rfl;(focus exact⟨_,hM _,by repeat with_reducible exact Take.nil⟩);rintro _ _ ⟨rfl,rfl⟩)|(apply yC;exact rfl;(focus first|omega))|apply zA|apply zG|apply zI|apply zH|((with_reducible apply Sd.mk);first|exact True.intro|omega)|((with_reducible apply Ln.mk);first|omega|(simp[hlb,hlen];first|done|omega))|((with_reducible apply Wr.mk);first|exact IntWalk.i64_in _ (by omega))|((with_reducible apply Ce.mk);first|exact hc1)|((with_reducible apply Se.mk);first|exact hset)|exact True.intro|exact rfl)
   all_goals first
    |(exfalso;omega)
    |exact⟨(i+1,Z),⟨hil,by rw[←hxl];exact hml,fun y h0 h4=>hmm y (hxm y h0 h4),hd2⟩,by show L.length-(i+1)<L.length-i;omega,(by repeat'(first|exact trivial|refine⟨rfl,?_⟩|refine⟨congrArg some ?_,?_⟩)),(by repeat with_reducible first|exact Take.nil|apply Take.c|apply Take.drop)⟩
  ·have e:i=L.length:=by omega
   subst e
   have hfin:R.take L.length++List.replicate (R.length-L.length) 0=R:=by rw[←hgl,List.take_length,Nat.sub_self];simp
   rw[hfin]
   repeat'(first|apply zF|apply zB|apply zE|(apply o_g zC;exact rfl;exact rfl)|(apply yD;exact rfl;(focus first|omega))|apply zA|apply zK|apply zJ|apply zN|apply zV|((with_reducible apply Sd.mk);first|exact True.intro))
   all_goals first
    |(exfalso;omega)
    |(apply zL;(exact(show ResS _ _ _ _ [_,_] from⟨rfl,⟨rfl,trivial⟩⟩));(focus exact⟨A9,congrArg (fun z:Nat=>Value.tuple #[gsl A9 0 z L.length 1,I 0]) (Nat.mul_one _),rfl⟩);(focus repeat with_reducible first|exact Take.nil|apply Take.c|apply Take.drop))
theorem Front_any (L:List Int)(v:Value)(h:SH)(hv:Has h (nodes L) 1 L.length v)(hl:L.length≤4096)(hb:∀x∈L,0≤x∧x<4096) :
  SRun Tryz.prog 148 [v] h fun r q=>∃A,r=.tuple #[gsl A 0 L.length L.length 1,I 0]∧q=(A,⟨nodes (frs rowL L),false⟩)::h:=by
 have hE:=fun h hv=>each_any L v h hv hl hb
 generalize frs rowL L=R at *
 refine zR Tryz.func148 rfl rfl ?_
 repeat'(first|apply zF|apply zB|apply zE|(apply o_g zC;exact rfl;exact rfl)|(apply zD;exact rfl;exact rfl;(focus first|exact rfl);exact rfl;(focus exact⟨_,hE _ hv,by repeat with_reducible exact Take.nil⟩);rintro _ _ ⟨A1,rfl,rfl⟩)|apply zA|apply zN|((with_reducible apply Sd.mk);first|exact True.intro))
 all_goals first
  |(apply zL;(exact(show ResS _ _ _ _ [_,_] from⟨rfl,⟨rfl,trivial⟩⟩));(focus exact⟨A1,rfl,rfl⟩);(focus repeat with_reducible first|exact Take.nil|apply Take.c|apply Take.drop))
end Go.Proofs.YteddogfolceahaaGreat
end
