/- Part 5 of the proof of the law TopCutScale: texts merged. No condition. -/
import Derived.Test.YtbidadebolllkaaGreatDoorZTopCutScaleD
import Derived.Laws.IdiomCopy
import Derived.MapKept
set_option linter.unusedSimpArgs false
set_option linter.unusedVariables false
section
set_option maxRecDepth 4000
namespace Go.Proofs.YtbidadebolllkaaGreatDoor
open Go.Gh Go.RowKit

abbrev zNm :List Value:=[B false,.slice none 0 0,I 0]
def Dh (h:SH)(ds:List UInt8)(v:Value)(q:SH):Prop:=(ds=[]/\v=.slice none 0 0/\q=h)\/(ds≠[]/\∃A,v=gsl A 0 ds.length ds.length 0/\q=(A,⟨zS ds,false⟩)::h)
theorem zZl (M:Nm)(hT:okT M)(h0:M.2.1≠[])(hN:okN M)(h:SH) :
  zH Tryz.prog 314 [S (ctx M)] h λr q=>∃v,r=.tuple #[nmV M.1 v M.2.2,B true]/\Dh h M.2.1 v q:=by
 obtain⟨s,p0,pe,pd,n,hs,hp0,hpe,hpd,hpn,hn1,h64,f1,f2,f3,f4,f5,f6,f7,f8,f9,f10,f11⟩:=zZd hT h0 hN;have hTr:=yHq hT;have hok:M.2.1.length<=17/\-400<=fst M/\fst M<=400:=by
  rcases hN with g|g
  ·exact absurd g h0
  ·exact g
 rw[hs];clear hs;obtain⟨neg,ds,e⟩:=M;dsimp only at *;have hl0:=List.length_pos_iff.2 h0;have hfe:fst (neg,ds,e)=e+ds.length-1:=rfl;have hdd:=zPl (fst (neg,ds,e)).natAbs;generalize fst (neg,ds,e)=f at *;refine yG Tryz.func314 rfl rfl ?_
 repeat'((fail_if_success (show SWp _ _ (Code.seq (Code.region 7 _ _) _) _ _ _));(fail_if_success (show SWp _ _ (Code.region 7 _ _) _ _ _));first|apply zE|apply zD|apply zC|refine jg ?_ ?_|(apply jm;exact jI)|(apply yV zK;(iterate 4 exact rfl);exact up)|refine jy ?_|refine jx ?_|(apply rK;iterate 3 exact rfl)|refine jf ?_|apply zB|apply zL|exact jS|exact jL|exact jE|((with_reducible apply Se.mk);first|(focus(repeat(first|exact yD.zero));done))|exact True.intro|intro A|exact rfl)
 all_goals try exact jX
 rename_i n1 n2 n4;obtain⟨n5,rfl⟩:∃m,m=A:=⟨_,rfl⟩;have hm:zH Tryz.prog 342 [S [45],zG n5 0 1,zG n1 0 1] ((n5,⟨[I 0],false⟩)::(n4,⟨zNm,false⟩)::(n2,⟨zNm,false⟩)::(n1,⟨[S s],false⟩)::h) λr q=>r=B neg/\q=(n5,⟨[I p0],false⟩)::(n4,⟨zNm,false⟩)::(n2,⟨zNm,false⟩)::(n1,⟨[S s],false⟩)::h:=by
  cases neg
  ·refine(pK n5 n1 [45] s 0 _ _ (hpk:=.tail (.tail .head)) (by omega) (by decide) (by omega) (.inr λi hi=>?_)).mono λr q ⟨e1,e2⟩=>⟨e1,?_⟩
   ·obtain rfl:i=0:=by have:i<1:=hi;omega
    exact(f2 rfl).1
   ·rw[e2,hp0];rfl
  ·refine(kO n5 n1 [45] s 0 0 _ _ (hpk:=.tail (.tail .head)) (by omega) (by decide) (by omega) (by decide) ?_).mono λr q ⟨e1,e2⟩=>⟨e1,?_⟩
   ·exact(f1 rfl).symm
   ·rw[e2,hp0];rfl
 have hpl:neg=false->zH Tryz.prog 342 [S [43],zG n5 0 1,zG n1 0 1] ((n5,⟨[I p0],false⟩)::(n4,⟨zNm,false⟩)::(n2,⟨zNm,false⟩)::(n1,⟨[S s],false⟩)::h) λr q=>r=B false/\q=(n5,⟨[I p0],false⟩)::(n4,⟨zNm,false⟩)::(n2,⟨zNm,false⟩)::(n1,⟨[S s],false⟩)::h:=λg=>by
  refine pK n5 n1 [43] s p0 _ _ (hpk:=.tail (.tail .head)) (by omega) (by decide) (by omega) (.inr λi hi=>?_);obtain rfl:i=0:=by have:i<1:=hi;omega
  have:=(f2 g).2;rw[hp0,g];exact this
 repeat'((fail_if_success (show SWp _ _ (Code.cond (Operand.tmp 22) _ _) _ _ _));first|apply zE|apply zD|apply zC|refine jg ?_ ?_|(refine jc ?_ (c:=by exact⟨_,hm,jN⟩);rintro _ _ ⟨rfl,rfl⟩)|apply zB|exact jS|fail)
 refine rH (S:=Unit) (λ_=>[(1,zG n1 0 1),(2,zG n2 0 3),(4,zG n4 0 3),(5,zG n5 0 1),(6,.func (.func 342) #[] #[zG n5 0 1,zG n1 0 1]),(7,.func (.func 343) #[] #[zG n5 0 1,zG n1 0 1])])
  (λ_=>(n5,⟨[I p0],false⟩)::(n4,⟨[B neg,.slice none 0 0,I 0],false⟩)::(n2,⟨zNm,false⟩)::(n1,⟨[S s],false⟩)::h) (λ_=>True) ?_ ?_
 ·cases neg
  ·repeat'(first|apply zD|apply zC|refine jg ?_ ?_|(refine jc ?_ (c:=by exact⟨_,hpl rfl,jN⟩);rintro _ _ ⟨rfl,rfl⟩)|(apply zX;exact rfl)|apply zB|exact jS|fail)
   all_goals try exact jX
   exact⟨(),trivial,jB,jK⟩
  ·repeat'(first|apply zD|apply zC|refine jg ?_ ?_|(apply yV zK;(iterate 4 exact rfl);exact up)|(apply yO;exact rfl)|apply zB|exact jS|exact jL|((with_reducible apply Se.mk);first|(focus(repeat(first|exact yD.zero));done))|exact True.intro)
   all_goals try exact jX
   exact⟨(),trivial,jB,jK⟩
 rintro - -
 
 have ht1:(ds.take 1).length=1:=by rw[List.length_take];omega
 have ht2:(ds.drop 1).length=ds.length-1:=List.length_drop;have hpt:(ptx ds).length=if 1<ds.length then ds.length+1 else 1:=by
  unfold ptx;split
  ·rw[List.length_append,List.length_append,ht1,ht2]
   show 1+(1+_)=_;omega
  ·exact ht1
 rw[hpt]at hpe;clear hpt;have hp01:p0<=1:=by rw[hp0];split <;> omega
 have hat:bat s ((p0+1:Nat):Int)=if 1<ds.length then 46 else 101:=by
  split
  ·rename_i g;exact(f5 g).1
  ·rename_i g;rw[if_neg g]at hpe;rw[<-hpe];exact f6
 have hd1:zH Tryz.prog 343 [zG n5 0 1,zG n1 0 1] ((n5,⟨[I p0],false⟩)::(n4,⟨[B neg,.slice none 0 0,I 0],false⟩)::(n2,⟨zNm,false⟩)::(n1,⟨[S s],false⟩)::h) λr q=>r=S (ds.take 1)/\q=(n5,⟨[I ((p0+1:Nat):Int)],false⟩)::(n4,⟨[B neg,.slice none 0 0,I 0],false⟩)::(n2,⟨zNm,false⟩)::(n1,⟨[S s],false⟩)::h:=by
  refine(kV n5 n1 s p0 1 _ _ (hpk:=.tail (.tail .head)) (by omega) (by omega) (λj g1 g2=>?_) (.inr ?_)).mono λr q ⟨e1,e2⟩=>⟨?_,e2⟩
  ·obtain rfl:j=p0:=by omega
   exact f3
  ·rw[hat];split <;> omega
  ·rw[e1,f4]
 have hn1':ds.take 1≠[]:=λg=>by rw[g]at ht1;exact absurd ht1 (by decide)
 repeat'((fail_if_success (show SWp _ _ (Code.seq (Code.region 14 _ _) _) _ _ _));(fail_if_success (show SWp _ _ (Code.region 14 _ _) _ _ _));first|apply zE|apply zD|apply zC|refine jg ?_ ?_|(apply jm;exact jI)|(apply yV zK;(iterate 4 exact rfl);exact up)|(apply zFp zK;iterate 7 exact rfl)|(refine jc ?_ (c:=by exact⟨_,hd1,jN⟩);rintro _ _ ⟨rfl,rfl⟩)|(apply pT;exact rfl;exact ‹_›)|apply zB|apply zL|((with_reducible apply Sd.mk);first|exact True.intro|(constructor <;> first|omega|(unfold maxLen;omega)))|exact jL|exact jE|exact jZ|exact True.intro|intro A|exact rfl)
 all_goals try exact jX
 obtain⟨B0,rfl⟩:∃m,m=A:=⟨_,rfl⟩;have hds:ds.take 1++ds.drop 1=ds:=List.take_append_drop 1 ds;refine rH (S:=Unit) (λ_=>[(1,zG n1 0 1),(2,zG n2 0 3),(4,zG n4 0 3),(5,zG n5 0 1),(6,.func (.func 342) #[] #[zG n5 0 1,zG n1 0 1]),(7,.func (.func 343) #[] #[zG n5 0 1,zG n1 0 1])])
  (λ_=>(n5,⟨[I pe],false⟩)::(B0,⟨zS ds,false⟩)::(n4,⟨[B neg,gsl B0 0 ds.length ds.length 1,I (1-ds.length)],false⟩)::(n2,⟨zNm,false⟩)::(n1,⟨[S s],false⟩)::h) (λ_=>True) ?_ ?_
 ·by_cases hlen:1<ds.length
  ·obtain⟨f5a,f5b,f5c⟩:=f5 hlen
   rw[if_pos hlen]at hpe hat;have hy:zH Tryz.prog 342 [S [46],zG n5 0 1,zG n1 0 1] ((n5,⟨[I ((p0+1:Nat):Int)],false⟩)::(B0,⟨zS (ds.take 1),false⟩)::(n4,⟨[B neg,gsl B0 0 (ds.take 1).length (ds.take 1).length 1,I 0],false⟩)::(n2,⟨zNm,false⟩)::(n1,⟨[S s],false⟩)::h) λr q=>r=B true/\q=(n5,⟨[I ((p0+2:Nat):Int)],false⟩)::(B0,⟨zS (ds.take 1),false⟩)::(n4,⟨[B neg,gsl B0 0 (ds.take 1).length (ds.take 1).length 1,I 0],false⟩)::(n2,⟨zNm,false⟩)::(n1,⟨[S s],false⟩)::h :=
    (kO n5 n1 [46] s (p0+1) 0 _ _ (hpk:=.tail (.tail (.tail .head))) (by omega) (by decide) (by omega) (by decide) hat.symm).mono λr q ⟨e1,e2⟩=>⟨e1,by rw[e2];rfl⟩
   have hd2:zH Tryz.prog 343 [zG n5 0 1,zG n1 0 1] ((n5,⟨[I ((p0+2:Nat):Int)],false⟩)::(B0,⟨zS (ds.take 1),false⟩)::(n4,⟨[B neg,gsl B0 0 (ds.take 1).length (ds.take 1).length 1,I 0],false⟩)::(n2,⟨zNm,false⟩)::(n1,⟨[S s],false⟩)::h) λr q=>r=S (ds.drop 1)/\q=(n5,⟨[I pe],false⟩)::(B0,⟨zS (ds.take 1),false⟩)::(n4,⟨[B neg,gsl B0 0 (ds.take 1).length (ds.take 1).length 1,I 0],false⟩)::(n2,⟨zNm,false⟩)::(n1,⟨[S s],false⟩)::h:=by
    refine(kV n5 n1 s (p0+2) (ds.length-1) _ _ (hpk:=.tail (.tail (.tail .head))) (by omega) (by omega) (λj g1 g2=>f5b j g1 g2) (.inr ?_)).mono λr q ⟨e1,e2⟩=>⟨?_,?_⟩
    ·rw[show p0+2+(ds.length-1)=pe by omega,f6];omega
    ·rw[e1,f5c]
    ·rw[e2,show p0+2+(ds.length-1)=pe by omega]
   have hn2':ds.drop 1≠[]:=λg=>by rw[g]at ht2;have:0=ds.length-1:=ht2;omega
   have hBl:zS (ds.take 1)++zS (ds.drop 1)=zS ds:=by
    conv=>rhs;rw[<-hds]
    exact List.map_append.symm
   generalize ds.take 1=d1 at *;generalize ds.drop 1=d2 at *
   repeat'(first|apply zE|apply zD|apply zC|refine jg ?_ ?_|(apply ja;exact jH)|(apply jm;exact jI)|(apply yV zK;(iterate 4 exact rfl);exact up)|(apply zNo zK;(iterate 8 exact rfl);exact up)|(refine jc ?_ (c:=by exact⟨_,hy,jC⟩);rintro _ _ ⟨rfl,rfl⟩)|(refine jc ?_ (c:=by exact⟨_,hd2,jN⟩);rintro _ _ ⟨rfl,rfl⟩)|(apply yO;exact rfl)|refine jf ?_|apply zB|apply zL|((with_reducible apply Sd.mk);first|exact True.intro|(constructor <;> first|omega|(unfold maxLen;omega)))|((with_reducible apply Ln.mk);first|rfl|omega|(simp ;first|done|omega))|exact jW|exact jE|exact jZ|exact True.intro|exact rfl)
   all_goals try exact jX
   refine⟨(),trivial,jB,?_⟩;apply zA.c;apply zA.cE (congrArg (λx=>Blk.mk x false) hBl);apply zA.cE (congrArg (λx=>Blk.mk x false) (show _=[B neg,gsl B0 0 ds.length ds.length 1,I (1-ds.length)] by
    rw[show(1:Int)-ds.length=0-d2.length by omega]
    congr 2
    exact vR rfl rfl (by omega) (by omega) rfl))
   exact jK
  ·rw[if_neg hlen]at hpe hat
   have h1:ds.take 1=ds:=List.take_of_length_le (by omega);have hl1:ds.length=1:=by omega
   rw[h1];have hy:zH Tryz.prog 342 [S [46],zG n5 0 1,zG n1 0 1] ((n5,⟨[I ((p0+1:Nat):Int)],false⟩)::(B0,⟨zS ds,false⟩)::(n4,⟨[B neg,gsl B0 0 ds.length ds.length 1,I 0],false⟩)::(n2,⟨zNm,false⟩)::(n1,⟨[S s],false⟩)::h) λr q=>r=B false/\q=(n5,⟨[I pe],false⟩)::(B0,⟨zS ds,false⟩)::(n4,⟨[B neg,gsl B0 0 ds.length ds.length 1,I 0],false⟩)::(n2,⟨zNm,false⟩)::(n1,⟨[S s],false⟩)::h:=by
    rw[hpe];refine pK n5 n1 [46] s (p0+1) _ _ (hpk:=.tail (.tail (.tail .head))) (by omega) (by decide) (by omega) (.inr λi hi=>?_);obtain rfl:i=0:=by have:i<1:=hi;omega
    rw[hat];decide
   repeat'(first|apply zE|apply zD|apply zC|refine jg ?_ ?_|(refine jc ?_ (c:=by exact⟨_,hy,jC⟩);rintro _ _ ⟨rfl,rfl⟩)|(apply zX;exact rfl)|apply zB|apply zL|exact jS|fail)
   all_goals try exact jX
   refine⟨(),trivial,jB,?_⟩;rw[hl1];exact jK
 rintro - -;obtain⟨dn,hdn⟩:∃dn:Bool,(dn=true↔f<0):=⟨decide (f<0),by simp⟩;have hy:zH Tryz.prog 342 [S [101,69],zG n5 0 1,zG n1 0 1] ((n5,⟨[I pe],false⟩)::(B0,⟨zS ds,false⟩)::(n4,⟨[B neg,gsl B0 0 ds.length ds.length 1,I (1-ds.length)],false⟩)::(n2,⟨zNm,false⟩)::(n1,⟨[S s],false⟩)::h) λr q=>r=B true/\q=(n5,⟨[I ((pe:Int)+1)],false⟩)::(B0,⟨zS ds,false⟩)::(n4,⟨[B neg,gsl B0 0 ds.length ds.length 1,I (1-ds.length)],false⟩)::(n2,⟨zNm,false⟩)::(n1,⟨[S s],false⟩)::h :=
  kO n5 n1 [101,69] s pe 0 _ _ (hpk:=.tail (.tail (.tail .head))) (by omega) (by decide) (by split at hpd <;> omega) (by decide) f6.symm
 have hm2:zH Tryz.prog 342 [S [45],zG n5 0 1,zG n1 0 1] ((n5,⟨[I ((pe:Int)+1)],false⟩)::(B0,⟨zS ds,false⟩)::(n4,⟨[B neg,gsl B0 0 ds.length ds.length 1,I (1-ds.length)],false⟩)::(n2,⟨zNm,false⟩)::(n1,⟨[S s],false⟩)::h) λr q=>r=B dn/\q=(n5,⟨[I pd],false⟩)::(B0,⟨zS ds,false⟩)::(n4,⟨[B neg,gsl B0 0 ds.length ds.length 1,I (1-ds.length)],false⟩)::(n2,⟨zNm,false⟩)::(n1,⟨[S s],false⟩)::h:=by
  cases dn
  ·have hf:¬f<0:=λg=>by have:=hdn.2 g;cases this
   rw[if_neg hf]at hpd;subst hpd;refine pK n5 n1 [45] s (pe+1) _ _ (hpk:=.tail (.tail (.tail .head))) (by omega) (by decide) (by omega) (.inr λi hi=>?_);obtain rfl:i=0:=by have:i<1:=hi;omega
   exact(f8 hf).1
  ·have hf:=hdn.1 rfl
   rw[if_pos hf]at hpd;subst hpd;exact kO n5 n1 [45] s (pe+1) 0 _ _ (hpk:=.tail (.tail (.tail .head))) (by omega) (by decide) (by omega) (by decide) (f7 hf).symm
 have hp2:dn=false->zH Tryz.prog 342 [S [43],zG n5 0 1,zG n1 0 1] ((n5,⟨[I pd],false⟩)::(B0,⟨zS ds,false⟩)::(n4,⟨[B neg,gsl B0 0 ds.length ds.length 1,I (1-ds.length)],false⟩)::(n2,⟨zNm,false⟩)::(n1,⟨[S s],false⟩)::h) λr q=>r=B false/\q=(n5,⟨[I pd],false⟩)::(B0,⟨zS ds,false⟩)::(n4,⟨[B neg,gsl B0 0 ds.length ds.length 1,I (1-ds.length)],false⟩)::(n2,⟨zNm,false⟩)::(n1,⟨[S s],false⟩)::h:=λg=>by
  have hf:¬f<0:=λk=>by have:=hdn.2 k;rw[g]at this;cases this
  rw[if_neg hf]at hpd;refine pK n5 n1 [43] s pd _ _ (hpk:=.tail (.tail (.tail .head))) (by omega) (by decide) (by omega) (.inr λi hi=>?_);obtain rfl:i=0:=by have:i<1:=hi;omega
  rw[hpd];exact(f8 hf).2
 repeat'((fail_if_success (show SWp _ _ (Code.cond (Operand.tmp 57) _ _) _ _ _));first|apply zE|apply zD|apply zC|refine jg ?_ ?_|(apply yS;exact rfl;exact rfl)|(refine jc ?_ (c:=by exact⟨_,hy,jN⟩);rintro _ _ ⟨rfl,rfl⟩)|(refine jc ?_ (c:=by exact⟨_,hm2,jN⟩);rintro _ _ ⟨rfl,rfl⟩)|(apply yO;exact rfl)|apply zB|exact jS|fail)
 all_goals try exact jX
 refine rH (S:=Unit) (λ_=>[(1,zG n1 0 1),(2,zG n2 0 3),(4,zG n4 0 3),(5,zG n5 0 1),(10,B dn),(7,.func (.func 343) #[] #[zG n5 0 1,zG n1 0 1])])
  (λ_=>(n5,⟨[I pd],false⟩)::(B0,⟨zS ds,false⟩)::(n4,⟨[B neg,gsl B0 0 ds.length ds.length 1,I (1-ds.length)],false⟩)::(n2,⟨zNm,false⟩)::(n1,⟨[S s],false⟩)::h) (λ_=>True) ?_ ?_
 ·cases dn
  ·have hq:=hp2 rfl
   repeat'(first|apply zD|apply zC|refine jg ?_ ?_|(refine jc ?_ (c:=by exact⟨_,hq,jN⟩);rintro _ _ ⟨rfl,rfl⟩)|(apply yO;exact rfl)|apply zB|exact jS|fail)
   all_goals try exact jX
   exact⟨(),trivial,jB,jK⟩
  ·repeat'(first|(apply zX;exact rfl)|apply zB|apply zL)
   all_goals try exact jX
   exact⟨(),trivial,jB,jK⟩
 rintro - -;obtain⟨dd1,dd2,dd3⟩:=hdd;have hd3:zH Tryz.prog 343 [zG n5 0 1,zG n1 0 1] ((n5,⟨[I pd],false⟩)::(B0,⟨zS ds,false⟩)::(n4,⟨[B neg,gsl B0 0 ds.length ds.length 1,I (1-ds.length)],false⟩)::(n2,⟨zNm,false⟩)::(n1,⟨[S s],false⟩)::h) λr q=>r=S (Lib.decDigits f.natAbs)/\q=(n5,⟨[I s.length],false⟩)::(B0,⟨zS ds,false⟩)::(n4,⟨[B neg,gsl B0 0 ds.length ds.length 1,I (1-ds.length)],false⟩)::(n2,⟨zNm,false⟩)::(n1,⟨[S s],false⟩)::h:=by
  refine(kV n5 n1 s pd n _ _ (hpk:=.tail (.tail (.tail .head))) (by omega) (by omega) (λj g1 g2=>f9 j g1 g2) (.inl hpn)).mono λr q ⟨e1,e2⟩=>⟨?_,?_⟩
  ·rw[e1,f10]
  ·rw[e2,hpn]
 generalize Lib.decDigits f.natAbs=dd at *
 repeat'(first|apply zE|apply zD|apply zC|refine jg ?_ ?_|(apply zPw zK;iterate 7 exact rfl)|(refine jc ?_ (c:=by exact⟨_,hd3,jN⟩);rintro _ _ ⟨rfl,rfl⟩)|refine jf ?_|apply zB|apply zL|apply zM|((with_reducible apply Sd.mk);first|exact True.intro|(unfold maxLen;omega))|intro A)
 all_goals try exact jX
 have hpv:∀i:Nat,i<=dd.length->dv (dd.take i)<=400:=λi hi=>by
  have h1:dd.take i++dd.drop i=dd:=List.take_append_drop i dd;have h2:=zHa (dd.take i) (dd.drop i);rw[h1]at h2;have h3:dv (dd.take i)*1<=dv (dd.take i)*10^(dd.drop i).length:=Nat.mul_le_mul_left _ (Nat.pow_pos (by decide));omega
 refine yH (S:=Nat) (λi=>[(1,zG n1 0 1),(2,zG n2 0 3),(4,zG n4 0 3),(5,zG n5 0 1),(10,B dn),(12,I (dv (dd.take i):Nat)),(66,gsl A 0 dd.length dd.length 1),(67,I dd.length),(68,I i)])
  (λ_=>(A,⟨zS dd,false⟩)::(n5,⟨[I s.length],false⟩)::(B0,⟨zS ds,false⟩)::(n4,⟨[B neg,gsl B0 0 ds.length ds.length 1,I (1-ds.length)],false⟩)::(n2,⟨zNm,false⟩)::(n1,⟨[S s],false⟩)::h) (λi=>i<=dd.length) (λi=>dd.length-i) 0 (Nat.zero_le _) jB jK ?_
 intro i hi;have hb:=uG dd (i:Int);have hv:=hpv i hi;by_cases hil:i<dd.length
 ·have hc:=iM dd1 hil
  have hstep:dv (dd.take (i+1))=10*dv (dd.take i)+(dd[i].toNat-48):=by
   rw[List.take_succ_eq_append_getElem hil,zHa,pQ];show dv (dd.take i)*10+((dd[i].toNat-48)*1+0)=_;omega
  have hbi:=aH hil;have hv1:=hpv (i+1) hil
  repeat'(first|apply zE|apply zD|apply zC|refine jg ?_ ?_|(apply ja;exact jH)|(apply pU;iterate 3 exact rfl)|(apply jm;exact jI)|refine jd ?_|apply zB|apply zQ|apply zL|apply zM|exact jO|((with_reducible apply Ln.mk);first|(simp ;first|done|omega))|((with_reducible apply Wr.mk);first|exact IntWalk.i64_in _ (by omega)|exact IntWalk.u8_in _ (by omega))|((with_reducible apply Ce.mk);first|exact aJ (by omega))|exact True.intro|exact rfl)
  all_goals try exact jX
  exact⟨i+1,by show i+1<=_;omega,by omega,⟨rfl,rfl,rfl,rfl,rfl,congrArg some (congrArg I (by rw[hstep];omega)),rfl,rfl,rfl,trivial⟩,jK⟩
 ·obtain rfl:i=dd.length:=by omega
  have hdt:dv (dd.take dd.length)=f.natAbs:=by rw[List.take_length];exact dd2
  rw[hdt]
  repeat'((fail_if_success (show SWp _ _ (Code.cond (Operand.tmp 80) _ _) _ _ _));first|apply zE|apply zD|apply zC|refine jg ?_ ?_|refine jf ?_|apply zB|apply zW|apply zT|apply zU|exact jS|fail)
  all_goals try exact jX
  refine rH (S:=Unit) (λ_=>[(1,zG n1 0 1),(2,zG n2 0 3),(4,zG n4 0 3),(5,zG n5 0 1),(12,I f)])
   (λ_=>(n5,⟨[I s.length],false⟩)::(B0,⟨zS ds,false⟩)::(n4,⟨[B neg,gsl B0 0 ds.length ds.length 1,I (1-ds.length)],false⟩)::(n2,⟨zNm,false⟩)::(n1,⟨[S s],false⟩)::h) (λ_=>True) ?_ ?_
  ·cases dn
   ·have hf:¬f<0:=λk=>by have:=hdn.2 k;cases this
    have hfa:(f.natAbs:Int)=f:=by omega
    repeat'(first|(apply zX;exact rfl)|apply zB|apply zL)
    all_goals try exact jX
    exact⟨(),trivial,⟨rfl,rfl,rfl,rfl,congrArg some (congrArg I hfa),trivial⟩,jK⟩
   ·have hf:=hdn.1 rfl
    repeat'(first|apply zD|apply zC|refine jg ?_ ?_|(apply ja;exact jH)|(apply yO;exact rfl)|apply zB|exact jS|exact jW|fail)
    all_goals try exact jX
    exact⟨(),trivial,⟨rfl,rfl,rfl,rfl,congrArg some (congrArg I (by omega)),trivial⟩,jK⟩
  rintro - -;have hz:=zUg hT.h;have hz2:=zBx hT.l;dsimp only at hz hz2;have hE:(1-(ds.length:Int))+f=e:=by omega
  have htr:∀H H1,Pick H B0 ⟨zS ds,false⟩ H1->zH Tryz.prog 344 [nmV neg (gsl B0 0 ds.length ds.length 1) ((1-(ds.length:Int))+f)] H λr q=>r=nmV neg (gsl B0 0 ds.length ds.length 0) e/\q=H:=λH H1 hp=>by
   have:=zTs neg ((1-(ds.length:Int))+f) B0 0 1 ds ds false H H1 (hp:=hp) (by omega) (by omega) (List.take_length) h0 (by omega) (by rw[hz];exact h0);refine this.mono λr q ⟨e1,e2⟩=>⟨?_,e2⟩;rw[e1,hz,hz2,hE];unfold nmV;rw[show(0+(ds.length-ds.length))=0 by omega,show e+((ds.length:Int)-ds.length)=e by omega]
  have htr2:=htr _ _ (Pick.tail (Pick.head (h:=(n4,⟨[B neg,gsl B0 0 ds.length ds.length 1,I ((1-(ds.length:Int))+f)],false⟩)::(n2,⟨zNm,false⟩)::(n1,⟨[S s],false⟩)::h)) (x:=(n5,⟨[I s.length],false⟩)))
  repeat'(first|apply zE|apply zD|apply zC|refine jr ?_|refine jg ?_ ?_|(apply ja;exact jH)|(apply jm;exact jI)|(apply jl;exact jI)|(apply yV zK;(iterate 4 exact rfl);exact up)|(apply js;exact jJ)|(apply kB;(iterate 4 exact rfl);exact⟨htr2,jN⟩;(focus first|exact List.Perm.refl _);(focus(intro ρ D hρ hD;refine⟨?_,?_⟩;(focus repeat(first|exact VR.const rfl|(apply VR.slc';(focus first|((apply zGs hρ);(exact pk)));(focus first|((apply zCv hD);(exact pk))))|apply VRs.agg|exact VRs.nil|apply VRs.cons));(focus repeat(first|((apply SHR.same);(focus intro x hx;(repeat(first|exact hx));done)))))))|apply zB|apply zJ|exact jS|exact jL|exact jW|exact jE|exact jZ|exact jP|exact jU|exact True.intro|refine Rc.mk ⟨_,_,pk,?_⟩|exact Or.inl rfl|refine Or.inr (And.intro ?_ ?_)|apply And.intro|apply Or.inr|exact rfl)
  all_goals try exact jX
  (apply yA;(exact(show zO _ _ _ _ [_,_] from jY));exact⟨gsl B0 0 ds.length ds.length 0,congrArg (λb=>Value.tuple #[nmV neg (gsl B0 0 ds.length ds.length 0) e,B b]) (decide_eq_true rfl),.inr ⟨h0,B0,rfl,rfl⟩⟩;(focus repeat(first|with_reducible exact zA.nil|with_reducible apply zA.c|with_reducible apply zA.drop)))
theorem yMr (h:SH):zH Tryz.prog 314 [S [48]] h λr q=>∃v,r=.tuple #[nmV false v 0,B true]/\Dh h [] v q:=by
 refine yG Tryz.func314 rfl rfl ?_
 repeat'((fail_if_success (show SWp _ _ (Code.seq (Code.region 7 _ _) _) _ _ _));(fail_if_success (show SWp _ _ (Code.region 7 _ _) _ _ _));first|apply zE|apply zD|apply zC|refine jg ?_ ?_|(apply jm;exact jI)|(apply yV zK;(iterate 4 exact rfl);exact up)|refine jy ?_|refine jx ?_|(apply rK;iterate 3 exact rfl)|(apply zX;exact rfl)|apply zB|apply zL|exact jS|exact jL|exact jE|((with_reducible apply Se.mk);first|(focus(repeat(first|exact yD.zero));done))|exact True.intro|intro A|exact rfl)
 all_goals try exact jX
 rename_i n1 n2 n4;obtain⟨n5,rfl⟩:∃m,m=A:=⟨_,rfl⟩;have hm:zH Tryz.prog 342 [S [45],zG n5 0 1,zG n1 0 1] ((n5,⟨[I 0],false⟩)::(n4,⟨zNm,false⟩)::(n2,⟨zNm,false⟩)::(n1,⟨[S [48]],false⟩)::h) λr q=>r=B false/\q=(n5,⟨[I 0],false⟩)::(n4,⟨zNm,false⟩)::(n2,⟨zNm,false⟩)::(n1,⟨[S [48]],false⟩)::h :=
  pK n5 n1 [45] [48] 0 _ _ (hpk:=.tail (.tail .head)) (by decide) (by decide) (by decide) (.inr (by decide))
 have hp:zH Tryz.prog 342 [S [43],zG n5 0 1,zG n1 0 1] ((n5,⟨[I 0],false⟩)::(n4,⟨zNm,false⟩)::(n2,⟨zNm,false⟩)::(n1,⟨[S [48]],false⟩)::h) λr q=>r=B false/\q=(n5,⟨[I 0],false⟩)::(n4,⟨zNm,false⟩)::(n2,⟨zNm,false⟩)::(n1,⟨[S [48]],false⟩)::h :=
  pK n5 n1 [43] [48] 0 _ _ (hpk:=.tail (.tail .head)) (by decide) (by decide) (by decide) (.inr (by decide))
 have hd:zH Tryz.prog 343 [zG n5 0 1,zG n1 0 1] ((n5,⟨[I 0],false⟩)::(n4,⟨zNm,false⟩)::(n2,⟨zNm,false⟩)::(n1,⟨[S [48]],false⟩)::h) λr q=>r=S [48]/\q=(n5,⟨[I 1],false⟩)::(n4,⟨zNm,false⟩)::(n2,⟨zNm,false⟩)::(n1,⟨[S [48]],false⟩)::h:=by
  refine kV n5 n1 [48] 0 1 _ _ (hpk:=.tail (.tail .head)) (by decide) (by decide) (λj g1 g2=>?_) (.inl rfl);obtain rfl:j=0:=by omega
  decide
 repeat'((fail_if_success (show SWp _ _ (Code.seq (Code.region 14 _ _) _) _ _ _));(fail_if_success (show SWp _ _ (Code.region 14 _ _) _ _ _));first|apply zE|apply zD|apply zC|refine jg ?_ ?_|(apply jm;exact jI)|(apply yV zK;(iterate 4 exact rfl);exact up)|(apply zFp zK;iterate 7 exact rfl)|(refine jc ?_ (c:=by exact⟨_,hm,jN⟩);rintro _ _ ⟨rfl,rfl⟩)|(refine jc ?_ (c:=by exact⟨_,hp,jN⟩);rintro _ _ ⟨rfl,rfl⟩)|(refine jc ?_ (c:=by exact⟨_,hd,jN⟩);rintro _ _ ⟨rfl,rfl⟩)|(apply zX;exact rfl)|apply zB|apply zL|((with_reducible apply Sd.mk);first|exact True.intro|decide)|exact jL|exact jE|exact jZ|exact True.intro|intro A|exact rfl)
 all_goals try exact jX
 obtain⟨B0,rfl⟩:∃m,m=A:=⟨_,rfl⟩;have hn:∀set:List UInt8,set.length<=10->zH Tryz.prog 342 [S set,zG n5 0 1,zG n1 0 1] ((n5,⟨[I 1],false⟩)::(B0,⟨zS [48],false⟩)::(n4,⟨[B false,gsl B0 0 1 1 1,I 0],false⟩)::(n2,⟨zNm,false⟩)::(n1,⟨[S [48]],false⟩)::h) λr q=>r=B false/\q=(n5,⟨[I 1],false⟩)::(B0,⟨zS [48],false⟩)::(n4,⟨[B false,gsl B0 0 1 1 1,I 0],false⟩)::(n2,⟨zNm,false⟩)::(n1,⟨[S [48]],false⟩)::h:=λset hset =>
  pK n5 n1 set [48] 1 _ _ (hpk:=.tail (.tail (.tail .head))) (by decide) hset (by decide) (.inl rfl)
 have hnd:=hn [46] (by decide);have hne:=hn [101,69] (by decide);have htr:zH Tryz.prog 344 [nmV false (gsl B0 0 1 1 1) 0] ((n5,⟨[I 1],false⟩)::(B0,⟨zS [48],false⟩)::(n4,⟨[B false,gsl B0 0 1 1 1,I 0],false⟩)::(n2,⟨zNm,false⟩)::(n1,⟨[S [48]],false⟩)::h) λr q=>r=nmV false (.slice none 0 0) 0/\q=(n5,⟨[I 1],false⟩)::(B0,⟨zS [48],false⟩)::(n4,⟨[B false,gsl B0 0 1 1 1,I 0],false⟩)::(n2,⟨zNm,false⟩)::(n1,⟨[S [48]],false⟩)::h :=
  zTe false 0 B0 0 1 [48] [48] false _ _ (hp:=.tail .head) (by decide) (by decide) rfl (by decide) (by decide) rfl
 repeat'(first|apply zE|apply zD|apply zC|refine jr ?_|refine jg ?_ ?_|(apply jm;exact jI)|(apply jl;exact jI)|(apply js;exact jJ)|(refine jc ?_ (c:=by exact⟨_,hnd,jC⟩);rintro _ _ ⟨rfl,rfl⟩)|(refine jc ?_ (c:=by exact⟨_,hne,jN⟩);rintro _ _ ⟨rfl,rfl⟩)|(apply kB;(iterate 4 exact rfl);exact⟨htr,jN⟩;(focus first|exact List.Perm.refl _);(focus(intro ρ D hρ hD;refine⟨?_,?_⟩;(focus repeat(first|exact VR.const rfl));(focus repeat(first|((apply SHR.same);(focus intro x hx;(repeat(first|exact hx));done)))))))|(apply zX;exact rfl)|apply zB|apply zL|apply zJ|exact jS|exact jL|exact jE|exact jP|exact jU|exact True.intro|refine Rc.mk ⟨_,_,pk,?_⟩|exact Or.inl rfl|refine Or.inr (And.intro ?_ ?_)|apply And.intro|apply Or.inr|exact rfl)
 all_goals try exact jX
 (apply yA;(exact(show zO _ _ _ _ [_,_] from jY));exact⟨.slice none 0 0,rfl,.inl ⟨rfl,rfl,rfl⟩⟩;(focus repeat(first|with_reducible exact zA.nil|with_reducible apply zA.c|with_reducible apply zA.drop)))
theorem zWb (M:Nm)(hT:okT M)(hN:okN M)(h:SH) :
  zH Tryz.prog 314 [S (ctx M)] h λr q=>∃v,r=.tuple #[nmV M.1 v M.2.2,B true]/\Dh h M.2.1 v q:=by
 by_cases h0:M.2.1=[]
 ·rw[hT.z h0]
  exact yMr h
 ·exact zZl M hT h0 hN h

theorem yDl (M:Nm)(hT:okT M)(hN:okN M)(h:SH) :
  zH Tryz.prog 312 [S (ctx M)] h λr q=>∃v,r=.tuple #[nmV M.1 v M.2.2,B true]/\Dh h M.2.1 v q:=by
 have hS:=λh=>zWb M hT hN h;have hX:=λv h hd=>zRu M v h hd;have hb:M.2.1.length<=1000000/\(-4000000<=M.2.2/\M.2.2<=4000000):=by
  rcases hN with g|⟨g1,g2,g3⟩
  ·rw[hT.z g];decide
  ·have:fst M=M.2.2+M.2.1.length-1:=rfl
   omega
 have htx:txN M=(ctx M,0):=if_pos hN;rw[htx]at hX;obtain⟨s,hs⟩:∃s,ctx M=s:=⟨_,rfl⟩;rw[hs]at hS hX ⊢;obtain⟨neg,ds,e⟩:=M;dsimp only at *;by_cases h0:ds=[]
 ·subst h0
  have hS1:∀h,zH Tryz.prog 314 [S s] h λr q=>r=.tuple #[nmV neg (.slice none 0 0) e,B true]/\q=h:=λh=>(hS h).mono λr q ⟨v,e1,e2⟩=>by
   rcases e2 with⟨_,rfl,rfl⟩|⟨g,_⟩
   ·exact⟨e1,rfl⟩
   ·exact absurd rfl g
  have hX1:=λh=>hX (.slice none 0 0) h (.inl ⟨rfl,rfl⟩) hb.1 hb.2;refine yG Tryz.func312 rfl rfl ?_
  repeat'(first|apply zE|apply zD|apply zC|refine jg ?_ ?_|(apply yS;exact rfl;exact rfl)|(apply jl;exact jI)|(apply js;exact jJ)|refine jy ?_|(refine jc ?_ (c:=by exact⟨_,hS1 _,jN⟩);rintro _ _ ⟨rfl,rfl⟩)|(refine jc ?_ (c:=by exact⟨_,hX1 _,jN⟩);rintro _ _ ⟨rfl,rfl⟩)|refine jw ?_|(apply zX;exact rfl)|apply zB|apply zL|apply zJ|exact jS|exact jL|exact jP|exact jU|exact True.intro|intro A|exact rfl)
  all_goals try exact jX
  (apply yA;(exact(show zO _ _ _ _ [_,_] from jY));exact⟨_,congrArg (λb=>Value.tuple #[nmV neg (.slice none 0 0) e,B b]) (decide_eq_true rfl),.inl ⟨rfl,rfl,rfl⟩⟩;(focus repeat(first|with_reducible exact zA.nil|with_reducible apply zA.c|with_reducible apply zA.drop)))
 ·have hS1:∀h,zH Tryz.prog 314 [S s] h λr q=>∃A,r=.tuple #[nmV neg (gsl A 0 ds.length ds.length 0) e,B true]/\q=(A,⟨zS ds,false⟩)::h:=λh=>(hS h).mono λr q ⟨v,e1,e2⟩=>by
   rcases e2 with⟨g,_⟩|⟨_,A,rfl,rfl⟩
   ·exact absurd g h0
   ·exact⟨A,e1,rfl⟩
  refine yG Tryz.func312 rfl rfl ?_
  repeat'((fail_if_success (show SWp _ _ (Code.seq (Code.region 4 _ _) _) _ _ _));(fail_if_success (show SWp _ _ (Code.region 4 _ _) _ _ _));first|apply zE|apply zD|apply zC|refine jg ?_ ?_|(apply yS;exact rfl;exact rfl)|(apply js;exact jJ)|refine jy ?_|(refine jc ?_ (c:=by exact⟨_,hS1 _,jN⟩);rintro _ _ ⟨B0,rfl,rfl⟩)|(apply zX;exact rfl)|apply zB|apply zL|exact jS|exact jL|exact jP|exact True.intro|intro A)
  all_goals try exact jX
  rename_i n2;obtain⟨n4,rfl⟩:∃m,m=A:=⟨_,rfl⟩;have hX1:=hX (gsl B0 0 ds.length ds.length 0) ((n4,⟨[B neg,gsl B0 0 ds.length ds.length 0,I e],false⟩)::(B0,⟨zS ds,false⟩)::(n2,⟨[B false,.slice none 0 0,I 0],false⟩)::h) (.inr ⟨h0,B0,0,0,ds,false,_,rfl,.tail .head,by omega,List.take_length⟩) hb.1 hb.2
  repeat'(first|apply zE|apply zD|apply zC|refine jg ?_ ?_|(apply jl;exact jI)|(apply js;exact jJ)|(refine jc ?_ (c:=by exact⟨_,hX1,jN⟩);rintro _ _ ⟨rfl,rfl⟩)|refine jw ?_|apply zB|apply zJ|exact jS|exact jL|exact jP|exact jU|exact True.intro|exact rfl)
  all_goals try exact jX
  (apply yA;(exact(show zO _ _ _ _ [_,_] from jY));exact⟨_,congrArg (λb=>Value.tuple #[nmV neg (gsl B0 0 ds.length ds.length 0) e,B b]) (decide_eq_true rfl),.inr ⟨h0,B0,rfl,rfl⟩⟩;(focus repeat(first|with_reducible exact zA.nil|with_reducible apply zA.c|with_reducible apply zA.drop)))
end Go.Proofs.YtbidadebolllkaaGreatDoor
end
section
set_option maxRecDepth 4000
namespace Go.Gh
open Go.RowKit Go.MapKept

section
variable {P:Program} {N:Fr} {ops:Array Oper} {Q:xR} {rest:List Oper} {o:Oper} {a:AF} {H:zI} {α:Type}
theorem zOn {ρ:Operand->Value}{t u:TypeId}{x y:Operand}{v:Value}{w w':World}(ho:o.op=.call { callee:=.builtin .copy,args:=#[x,y],argTypes:=#[t,u] })
  (hr:(Builtin.copy_ #[t,u] o.type #[ρ x,ρ y]).run P w=.ok v w'):(execOp ρ o).run P w=.ok (.value v) w':=by
 unfold execOp;simp only[ho,resolve,invoke,builtin,Sem.run_bind,Sem.run_pure,Result.andThen_ok,List.map_toArray,List.map_cons,List.map_nil,hr]
theorem zZy [DecidableEq α](T:TypeId)(x k:Operand){A K E s b:Nat}{d:TypeDesc}{kf:α->Value}{l:List (α × Value)}{ro:Mk}{z:Value}{c:α}(ho:o.op=.lookup T x k true)(hx:ev a x=some (.map (some A)))(hk:ev a k=some (kf c))
  (hA:H[A]?=some (some ⟨xK kf l,ro⟩)) (hT:P.underlying T=some (.map K E)) (hK:P.underlying K=some d) (KF:qF d kf) (hI:yC P E=some (some z,s,b)) (hz:yB z=true):zR P N o a H (.tuple #[(wM l c).getD z,B (wM l c).isSome]):=by
 refine⟨λB0 w0 φ w ac r hf=>?_⟩;obtain⟨h1,_,_,es,cl,h2,h3⟩:=zEt r KF hA (zN hf hx);have h4:=(zN hf hk).scalar (KF.sc c);have two:∀{u v:Value} {b:Bool},Val φ (lens H) u v->Val φ (lens H) (.tuple #[u,B b]) (.tuple #[v,.bool b]):=λ{u v b} h=>by
  refine .tuple _ _ rfl λi hi hi'=>?_
  match i,hi with
  |0,_=>exact h
  |1,_=>exact .bool b
 rcases h3.find KF c 0 with⟨g1,g2⟩|⟨j,e,v,g1,g2,g3,g4,g5⟩
 ·refine⟨.tuple #[z,.bool false],by rw[g2];exact two (Val.const hz),λw1 hb=>?_⟩
  have h2':w1.heap[(φ A).b]?=some (.map es cl):=by rw[hb.block _ (r.lt hA)];exact h2
  unfold execOp;simp only[ho,h1,h4,Instr.lookup,Sem.run_bind,run_underlying hT,Result.andThen_ok,MapKept.run_getObj_map h2',Sem.run_pure,run_checkKey hK (KF.is c),run_findKey hK g1,pJ hI,if_true]
 ·refine⟨.tuple #[e.val,.bool true],by rw[g4];exact two g5,λw1 hb=>?_⟩
  have h2':w1.heap[(φ A).b]?=some (.map es cl):=by rw[hb.block _ (r.lt hA)];exact h2
  unfold execOp;simp only[ho,h1,h4,Instr.lookup,Sem.run_bind,run_underlying hT,Result.andThen_ok,MapKept.run_getObj_map h2',Sem.run_pure,run_checkKey hK (KF.is c),run_findKey hK g1,if_true]
theorem yBc [DecidableEq α](T:TypeId)(x k y:Operand){A K E:Nat}{d:TypeDesc}{kf:α->Value}{l:List (α × Value)}{c:α}{v:Value}(ho:o.op=.insert T x k y)(hx:ev a x=some (.map (some A)))(hk:ev a k=some (kf c))(hy:ev a y=some v)
  (hA:H[A]?=some (some ⟨xK kf l,false⟩)) (hT:P.underlying T=some (.map K E)) (hK:P.underlying K=some d) (KF:qF d kf):xG P N o a H undef (H.set A (some ⟨xK kf (vK l c v),false⟩)):=by
 refine⟨λB0 w0 φ w ac hr hf=>?_⟩;have h:=(zOz (P:=P) (N:=N) (o:={ o with op:=.mapUpdate T x k y }) T x k y rfl hx hk hy hA hT hK KF).go B0 w0 φ w ac hr hf;have e:execOp ac.eval o=execOp ac.eval { o with op:=.mapUpdate T x k y }:=by unfold execOp;rw[ho]
 rw[e];exact h
end
section
variable {P:Program} {tt:TT} {sz:Nat} {ops:Array Oper} {Q:wA} {rest:List Oper} {a:AF} {h h' h1:SH} {t:Nat} {ty:TypeId} {pos:String} {aft:Array Edge} {α:Type} {v:Value}
theorem cR [DecidableEq α]{T:Nat}{x y:Operand}{A K E s b:Nat}{tk:TK}{d:TypeDesc}{kf:α->Value}{l:List (α × Value)}{ro:Mk}{z:Value}{c:α}{f:Bool}(ht:tt.Ok P)(hx:ev a x=some (.map (some A)))(hp:Pick h A ⟨xK kf l,ro⟩ h1)(hk:ev a y=some (kf c))
  (hT:P.underlying T=some (.map K E)) (hK:P.underlying K=some d) (KF:qF d kf) (hE:tt.get E=some ⟨tk,s,b,some z⟩) (hz:yB z=true) (hr:(wM l c).getD z=v/\(wM l c).isSome=f) (hN:Nat.blt t sz=true)
  (k:GO .seq P sz ops Q rest ((t,.tuple #[v,B f])::a) h):GO .seq P sz ops Q (⟨some t,.lookup T x y true,ty,pos,aft,none⟩::rest) a h:=by
 obtain⟨_,hI,hz'⟩:=xQ (TT.get_ok ht hE);obtain⟨rfl,rfl⟩:=hr;exact tZ (m:=.seq) (λh'=>∃h1,Pick h' A ⟨xK kf l,ro⟩ h1) ⟨_,hp⟩ (λ_ _ _ _ _ i ⟨_,hp⟩ hag=>zZy T x y rfl ((hag.ev (by simp[Op.operands,Call.operands])).trans hx) ((hag.ev (by simp[Op.operands,Call.operands])).trans hk) (i.look hp) hT hK KF (hz' _ rfl▸hI) hz) hN trivial k
theorem yHp [DecidableEq α]{T:Nat}{x y z:Operand}{A K E:Nat}{d:TypeDesc}{kf:α->Value}{l:List (α × Value)}{c:α}(hx:ev a x=some (.map (some A)))(hu:Upd h A ⟨xK kf l,false⟩ ⟨xK kf (vK l c v),false⟩ h')(hk:ev a y=some (kf c))(hv:ev a z=some v)
  (hT:P.underlying T=some (.map K E)) (hK:P.underlying K=some d) (KF:qF d kf) (k:GO .seq P sz ops Q rest a h'):GO .seq P sz ops Q (⟨none,.insert T x y z,ty,pos,aft,none⟩::rest) a h :=
 nN (m:=.seq) rfl hu (λ_ _ _ hA hag=>yBc T x y z rfl ((hag.ev (by simp[Op.operands,Call.operands])).trans hx) ((hag.ev (by simp[Op.operands,Call.operands])).trans hk) ((hag.ev (by simp[Op.operands,Call.operands])).trans hv) hA hT hK KF) trivial k
theorem zWa [DecidableEq α]{T:Nat}{x y z:Operand}{A K E:Nat}{d:TypeDesc}{kf:α->Value}{c:α}(hx:ev a x=some (.map (some A)))(hu:Upd h A ⟨[],false⟩ ⟨xK kf [(c,v)],false⟩ h')(hk:ev a y=some (kf c))(hv:ev a z=some v)
  (hT:P.underlying T=some (.map K E)) (hK:P.underlying K=some d) (KF:qF d kf) (k:GO .seq P sz ops Q rest a h'):GO .seq P sz ops Q (⟨none,.insert T x y z,ty,pos,aft,none⟩::rest) a h :=
 yHp (l:=[]) hx hu hk hv hT hK KF k
end
end Go.Gh
end
section
set_option maxRecDepth 4000
namespace Go.Gh
open Go.RowKit

abbrev prF (x:Int × Int):List Value:=[I x.1,I x.2]
section
variable {P:Program} {N:Fr} {o:Oper} {a:AF} {H:zI}
theorem zIc {T E:TypeId}{m:Option Addr}{k c k' c':Nat}{w:World}(hT:P.underlying T=some (.slice E)):(Op.equal T (.slice m k c) (.slice none k' c')).run P w=.ok m.isNone w:=by
 show(Op.equalIn (9999+1) _ _ _).run P w=_;rw[Op.equalIn];simp only[Sem.run_bind,run_underlying hT,Result.andThen_ok];cases m <;> rfl
theorem zUn (T U:TypeId)(x y:Operand){E:TypeId}{ad:Option Addr}{n fl:Nat}(ho:o.op=.binOp .eql T x y U)(hx:ev a x=some (.slice ad n fl))(hy:ev a y=some (.slice none 0 0))
  (hT:P.underlying T=some (.slice E)):zR P N o a H (.bool ad.isNone):=by
 refine⟨λ_ _ φ w ac _ hf=>?_⟩;have h1:=zN hf hx;have h2:=zN hf hy;generalize hu:ac.eval x=u at h1;generalize hv:ac.eval y=v at h2;cases h2;refine⟨.bool ad.isNone,.bool _,λw _=>pZ ho ?_ ?_⟩
 ·rw[hu,hv];cases h1 <;> (unfold eqGuard;simp)
 ·rw[hu,hv];cases h1 <;> simp only[binOp,Sem.run_bind,zIc hT,Result.andThen_ok,Sem.run_pure] <;> rfl
theorem zZs (T U:TypeId)(x y:Operand){E:TypeId}{ad:Option Addr}{n fl:Nat}(ho:o.op=.binOp .neq T x y U)(hx:ev a x=some (.slice ad n fl))(hy:ev a y=some (.slice none 0 0))
  (hT:P.underlying T=some (.slice E)):zR P N o a H (.bool ad.isSome):=by
 refine⟨λ_ _ φ w ac _ hf=>?_⟩;have h1:=zN hf hx;have h2:=zN hf hy;generalize hu:ac.eval x=u at h1;generalize hv:ac.eval y=v at h2;cases h2;refine⟨.bool ad.isSome,.bool _,λw _=>pZ ho ?_ ?_⟩
 ·rw[hu,hv];cases h1 <;> (unfold eqGuard;simp)
 ·rw[hu,hv];cases h1 <;> simp only[binOp,Sem.run_bind,zIc hT,Result.andThen_ok,Sem.run_pure] <;> rfl
theorem yLy (T:TypeId)(x y:Operand){A n len fl E s b:Nat}{ad:Option Addr}{fl2:Nat}{z:Option Value}{g:Blk}
  (ho:o.op=.call { callee:=.builtin .append,args:=#[x,y],argTypes:=#[T,T] }) (hx:ev a x=some (gsl A 0 n len fl)) (hy:ev a y=some (.slice ad 0 fl2))
  (hT:P.underlying T=some (.slice E)) (hI:yC P E=some (z,s,b)) (hA:H[A]?=some (some g)) (hn:g.cells.length=n):zR P N o a H (gsl A 0 n len fl):=by
 refine⟨λB0 w0 φ w ac r hf=>?_⟩;have hvr:=zN hf hx;obtain⟨cap,hu,hlc,hcm,hsz,_⟩:=uV r hA hn hvr;have hy2:=zN hf hy;obtain⟨bs,cp,hu2⟩:∃bs cp,ac.eval y=.slice bs 0 cp:=by
  generalize ac.eval y=u2 at hy2;cases hy2 <;> exact⟨_,_,rfl⟩
 refine⟨ac.eval x,hvr,λw _=>tB ho ?_⟩;obtain⟨i,hi,e1,e2,e3⟩:=qN hI;rw[hu,hu2];cases bs <;> simp[Builtin.append_,run_underlying hT,sizeOf,typeInfo,hi,Builtin.lenOf,hlc,Builtin.firstCells,storeCells,loadCells,loadCellsFrom]
theorem zZj (T:TypeId)(x y:Operand){E s b:Nat}{ad:Option Addr}{fl2:Nat}{z:Option Value}
  (ho:o.op=.call { callee:=.builtin .append,args:=#[x,y],argTypes:=#[T,T] }) (hx:ev a x=some (.slice none 0 0)) (hy:ev a y=some (.slice ad 0 fl2))
  (hT:P.underlying T=some (.slice E)) (hI:yC P E=some (z,s,b)):zR P N o a H (.slice none 0 0):=by
 refine⟨λB0 w0 φ w ac r hf=>?_⟩;have hvr:=zN hf hx;have hy2:=zN hf hy;obtain⟨bs,cp,hu2⟩:∃bs cp,ac.eval y=.slice bs 0 cp:=by
  generalize ac.eval y=u2 at hy2;cases hy2 <;> exact⟨_,_,rfl⟩
 obtain hu:ac.eval x=.slice none 0 0:=by
  generalize ac.eval x=u2 at hvr;cases hvr;rfl
 refine⟨.slice none 0 0,.snil,λw _=>tB ho ?_⟩;obtain⟨i,hi,e1,e2,e3⟩:=qN hI;rw[hu,hu2];cases bs <;> simp[Builtin.append_,run_underlying hT,sizeOf,typeInfo,hi,Builtin.lenOf,Builtin.firstCells,storeCells,loadCells,loadCellsFrom]
end
section
variable {P:Program} {tt:TT} {sz:Nat} {ops:Array Oper} {Q:wA} {rest:List Oper} {a:AF} {h h' h1 h2:SH} {m:Mode} {t:Nat} {op:Op} {ty:TypeId} {pos:String} {aft:Array Edge} {p:Prop} {v:Value}
theorem cU {T U:Nat}{x y:Operand}{E s b:Nat}{z:Option Value}{ad:Option Addr}{n fl:Nat}(ht:tt.Ok P)(hx:ev a x=some (.slice ad n fl))(hy:ev a y=some (.slice none 0 0))(hT:tt.get T=some ⟨.slice E,s,b,z⟩)(hN:Nat.blt t sz=true)
  (k:GO m.next P sz ops Q rest ((t,.bool ad.isNone)::a) h):GO m P sz ops Q (⟨some t,.binOp .eql T x y U,ty,pos,aft,none⟩::rest) a h :=
 qL (λ_ _ _ hag=>zUn T U x y rfl ((hag.ev (by simp[Op.operands,Call.operands])).trans hx) ((hag.ev (by simp[Op.operands,Call.operands])).trans hy) (vP (TT.get_ok ht hT) rfl)) hN k
theorem zFw {T:Nat}{x y:Operand}{A n len fl E s b:Nat}{ad:Option Addr}{fl2:Nat}{z:Option Value}{e:TE}{g:Blk}(ht:tt.Ok P)(hx:ev a x=some (gsl A 0 n len fl))(hy:ev a y=some (.slice ad 0 fl2))(hT:tt.get T=some ⟨.slice E,s,b,z⟩)(hE:tt.get E=some e)(hp:Pick h A g h1)(hN:Nat.blt t sz=true)(hn:Ln (g.cells.length=n))
  (hok:m.rdOk ops λh'=>Rc (∃g h1,Pick h' A g h1/\Ln (g.cells.length=n))) (k:GO (m.rd λh'=>Rc (∃g h1,Pick h' A g h1/\Ln (g.cells.length=n))) P sz ops Q rest ((t,gsl A 0 n len fl)::a) h):GO m P sz ops Q (⟨some t,.call { callee:=.builtin .append,args:=#[x,y],argTypes:=#[T,T] },ty,pos,aft,none⟩::rest) a h :=
 tZ (λh'=>Rc (∃g h1,Pick h' A g h1/\Ln (g.cells.length=n))) ⟨_,_,hp,hn⟩ (λ_ _ _ _ _ i ⟨_,_,hp,⟨hn⟩⟩ hag=>let ⟨_,hI,_⟩:=xQ (TT.get_ok ht hE);yLy T x y rfl ((hag.ev (by simp[Op.operands,Call.operands])).trans hx) ((hag.ev (by simp[Op.operands,Call.operands])).trans hy) (vP (TT.get_ok ht hT) rfl) hI (i.look hp) hn) hN hok k
theorem gE {T:Nat}{x y:Operand}{E s b:Nat}{ad:Option Addr}{fl2:Nat}{z:Option Value}{e:TE}(ht:tt.Ok P)(hx:ev a x=some (.slice none 0 0))(hy:ev a y=some (.slice ad 0 fl2))(hT:tt.get T=some ⟨.slice E,s,b,z⟩)(hE:tt.get E=some e)(hN:Nat.blt t sz=true)
  (k:GO m.next P sz ops Q rest ((t,.slice none 0 0)::a) h):GO m P sz ops Q (⟨some t,.call { callee:=.builtin .append,args:=#[x,y],argTypes:=#[T,T] },ty,pos,aft,none⟩::rest) a h :=
 qL (λ_ _ _ hag=>let ⟨_,hI,_⟩:=xQ (TT.get_ok ht hE);zZj T x y rfl ((hag.ev (by simp[Op.operands,Call.operands])).trans hx) ((hag.ev (by simp[Op.operands,Call.operands])).trans hy) (vP (TT.get_ok ht hT) rfl) hI) hN k
end
end Go.Gh
end
section
set_option maxRecDepth 4000
namespace Go.Proofs.YtbidadebolllkaaGreatDoor
open Go.Gh Go.RowKit

def yL :Nat->Int
 |0=>1
 |k+1=>yL k*10
theorem gG :∀k,1<=yL k
 |0=>by decide
 |k+1=>by have:=gG k;show 1<=yL k*10;omega
theorem zRs :∀{j k:Nat},j<=k->yL j<=yL k
 |j,0,h=>by rw[Nat.le_zero.1 h];exact Int.le_refl _
 |j,k+1,h=>by
  by_cases hj:j=k+1
  ·subst hj;exact Int.le_refl _
  ·have:=zRs (j:=j) (k:=k) (by omega)
   have:=gG k;show yL j<=yL k*10;omega
theorem zLz {k:Nat}(h:k<=17):yL k<=100000000000000000:=zRs h
theorem yNf (n5 k:Nat)(h:SH)(hk:k<=17):zH Tryz.prog 178 [I k,zG n5 0 1] ((n5,⟨[I 1],false⟩)::h) λr q=>r=.tuple #[]/\q=(n5,⟨[I (yL k)],false⟩)::h:=by
 refine yJ Tryz.func178 rfl rfl ?_
 repeat'(first|apply zE|apply zD|apply zC|refine jg ?_ ?_|apply zB|apply zM|exact jS|fail)
 all_goals try exact jX
 refine yH (S:=Nat) (λi=>[(1,zG n5 0 1),(3,I k),(4,I i)]) (λi=>(n5,⟨[I (yL i)],false⟩)::h) (λi=>i<=k) (λi=>k-i) 0 (Nat.zero_le _) jB (by repeat(first|with_reducible exact zA.nil|with_reducible apply zA.c|((with_reducible apply zA.cE);first|exact rfl|(apply pL;(focus first|exact rfl|exact uZ rfl|exact pI rfl|exact congrArg (λv=>[v]) (vR rfl rfl (by first|rfl|exact ‹_›|omega|(simp ;first|done|omega)) (by first|rfl|exact ‹_›|omega|(simp ;first|done|omega)) rfl))))|with_reducible apply zA.drop)) ?_;intro i hi;have h1:=gG i;have h2:=zLz (k:=i) (by omega);by_cases hil:i<k
 ·repeat'(first|apply zE|apply zD|apply zC|refine jg ?_ ?_|(apply ja;exact jH)|(apply jm;exact jI)|(apply yV zK;(iterate 4 exact rfl);exact up)|refine jd ?_|apply zB|apply zQ|apply zL|apply zM|exact jS|exact jL|exact jW|exact jE|((with_reducible apply Se.mk);first|(focus(repeat(first|exact yD.zero));done))|exact True.intro|exact rfl)
  all_goals first
   |exact jX
   |exact⟨i+1,by show i+1<=k;omega,by show k-(i+1)<k-i;omega,jB,(by repeat(first|with_reducible exact zA.nil|with_reducible apply zA.c|((with_reducible apply zA.cE);first|exact rfl|(apply pL;(focus first|exact rfl|exact uZ rfl|exact pI rfl|exact congrArg (λv=>[v]) (vR rfl rfl (by first|rfl|exact ‹_›|omega|(simp ;first|done|omega)) (by first|rfl|exact ‹_›|omega|(simp ;first|done|omega)) rfl))))|with_reducible apply zA.drop))⟩
 ·obtain rfl:i=k:=by omega
  repeat'(first|apply zE|apply zD|apply zC|refine jg ?_ ?_|refine jf ?_|apply zB|apply zW|apply zT|apply zU|exact jS|fail)
  all_goals first
   |exact jX
   |(apply qQ;(exact(show zO _ _ _ _ [] from trivial));exact⟨rfl,rfl⟩;(focus repeat(first|with_reducible exact zA.nil|with_reducible apply zA.c|with_reducible apply zA.drop)))
theorem yAy (k:Nat)(h:SH)(hk:k<=17):zH Tryz.prog 119 [I k] h λr q=>r=I (yL k)/\q=h:=by
 refine yG Tryz.func119 rfl rfl ?_
 repeat'(first|apply zE|apply zD|apply zC|refine jg ?_ ?_|(apply jm;exact jI)|(apply yV zK;(iterate 4 exact rfl);exact up)|refine jy ?_|(apply rK;iterate 3 exact rfl)|refine jq ?_ (c:=by exact⟨_,yNf _ k _ hk,jN⟩)|apply zB|apply zJ|exact jS|exact jL|exact jE|((with_reducible apply Se.mk);first|(focus(repeat(first|exact yD.zero));done))|exact True.intro|intro A|exact rfl)
 all_goals first
  |exact jX
  |exact jG
theorem kM (s:Int)(h:SH):zH Tryz.prog 18 [I s] h λr q=>r=B (decide (-15<=s/\s<=2))/\q=h:=by
 by_cases h1:-15<=s
 ·refine yG Tryz.func18 rfl rfl ?_
  repeat'(first|apply zE|apply zD|apply zC|refine jg ?_ ?_|refine jw ?_|(apply zDy;(iterate 3 exact rfl);exact ‹_›)|apply zB|apply zJ|exact jS|fail)
  all_goals first
   |exact jX
   |exact jF (k:=by exact⟨congrArg B (by rw[decide_eq_decide];omega),rfl⟩)
 ·refine yG Tryz.func18 rfl rfl ?_
  repeat'(first|apply zE|apply zD|apply zC|refine jg ?_ ?_|refine jk ?_|(apply tO;(iterate 3 exact rfl);exact ‹_›;exact rfl)|apply zB|apply zJ|exact jS|fail)
  all_goals first
   |exact jX
   |exact jF (k:=by exact⟨congrArg B (decide_eq_false (by omega)).symm,rfl⟩)
theorem yMk {n p:Int}(hp:1<=p):(1099511627776:Int)/p<n↔1099511627776<n*p:=by
 constructor
 ·intro h
  have:=(Int.ediv_lt_iff_lt_mul (by omega)).1 h;exact this
 ·intro h
  exact(Int.ediv_lt_iff_lt_mul (by omega)).2 h
theorem yOf (n:Int)(k:Nat)(h:SH)(hk:k<=17)(hn:0<=n/\n<=1099511627776) :
  zH Tryz.prog 61 [I n,I k] h λr q=>r=(if 1099511627776<n*yL k then .tuple #[I 0,B false,B false] else .tuple #[I (n*yL k),B true,B true])/\q=h:=by
 have h1:=gG k;have h2:=zLz hk;have hd:=yMk (n:=n) h1;have hq1:0<=(1099511627776:Int)/yL k:=Int.ediv_nonneg (by decide) (by omega);have hq2:(1099511627776:Int)/yL k<=1099511627776:=Int.ediv_le_self _ (by decide);have hT:=λh=>yAy k h hk;have hwq:IntKind.i64.wrap (Int.tdiv 1099511627776 (yL k))=1099511627776/yL k:=by
  rw[Int.tdiv_eq_ediv_of_nonneg (by decide)];exact IntWalk.i64_in _ (by omega)
 by_cases hc:1099511627776<n*yL k
 ·rw[if_pos hc]
  have hc2:=hd.2 hc;generalize yL k=p at *;refine yJ Tryz.func61 rfl rfl ?_
  repeat'(first|apply zE|apply zD|apply zC|refine jg ?_ ?_|(apply ja;exact jH)|refine jq ?_ (c:=by exact⟨_,hT _,jN⟩)|(apply zX;exact rfl)|refine jd ?_|apply zB|apply zV|apply zL|apply zJ|exact jO|((with_reducible apply Wr.mk);first|exact hwq))
  all_goals first
   |exact jX
   |exact jG
 ·rw[if_neg hc]
  have hc2:¬(1099511627776/yL k<n):=λg=>hc (hd.1 g);have hwm:IntKind.i64.wrap (n*yL k)=n*yL k:=IntWalk.i64_in _ (by
   have:=Int.mul_nonneg hn.1 (show 0<=yL k by omega);omega)
  generalize yL k=p at *;refine yJ Tryz.func61 rfl rfl ?_
  repeat'(first|apply zE|apply zD|apply zC|refine jg ?_ ?_|(apply ja;exact jH)|refine jq ?_ (c:=by exact⟨_,hT _,jN⟩)|(apply zX;exact rfl)|refine jf ?_|apply zB|apply zL|apply zJ|exact jO|((with_reducible apply Wr.mk);first|exact hwq|exact hwm))
  all_goals first
   |exact jX
   |exact jG
theorem zWq (n b:Int)(k:Nat)(h:SH)(hb:-15<=b/\b+k<=2)(hn:0<=n/\n<=1099511627776) :
  zH Tryz.prog 25 [I n,I (b+k),I b] h λr q=>r=(if 1099511627776<n*yL k then .tuple #[I 0,B false,I 2] else .tuple #[I (n*yL k),B true,I 0])/\q=h:=by
 have hk:k<=17:=by omega
 have hv1:=kM (b+k);have hv2:=kM b;rw[decide_eq_true (by omega)]at hv1 hv2;have hs:=λh=>yOf n k h hk hn;have e:(b+k-b)=(k:Int):=by omega
 rw[<-e]at hs;by_cases hc:1099511627776<n*yL k
 ·rw[if_pos hc]at hs ⊢
  refine wF Tryz.func25 rfl rfl ?_
  repeat'(first|apply zE|apply zD|apply zC|refine jg ?_ ?_|(apply ja;exact jH)|(apply yS;exact rfl;exact rfl)|refine jq ?_ (c:=by exact⟨_,hv1 _,jN⟩)|refine jq ?_ (c:=by exact⟨_,hv2 _,jN⟩)|refine jq ?_ (c:=by exact⟨_,hs _,jN⟩)|refine jw ?_|refine ji ?_|(apply yO;exact rfl)|(apply zX;exact rfl)|refine jf ?_|apply zB|apply zV|apply zL|apply zJ|exact jS|exact jW|fail)
  all_goals first
   |exact jX
   |exact jG
 ·rw[if_neg hc]at hs ⊢
  generalize n*yL k=z at *;refine wF Tryz.func25 rfl rfl ?_
  repeat'(first|apply zE|apply zD|apply zC|refine jg ?_ ?_|(apply ja;exact jH)|(apply yS;exact rfl;exact rfl)|refine jq ?_ (c:=by exact⟨_,hv1 _,jN⟩)|refine jq ?_ (c:=by exact⟨_,hv2 _,jN⟩)|refine jq ?_ (c:=by exact⟨_,hs _,jN⟩)|refine jw ?_|refine ji ?_|(apply zX;exact rfl)|refine jf ?_|apply zB|apply zL|apply zJ|exact jS|exact jW|fail)
  all_goals first
   |exact jX
   |exact jG
theorem zUe (n b:Int)(k:Nat)(h:SH)(hb:-15<=b/\b+k<=2)(hn:0<=n/\n<=1099511627776) :
  zH Tryz.prog 8 [I n,I (b+k),I b] h λr q=>r=(if 1099511627776<n*yL k then .tuple #[I 0,I 2] else .tuple #[I (n*yL k),I 0])/\q=h:=by
 have hs:=λh=>zWq n b k h hb hn;by_cases hc:1099511627776<n*yL k
 ·rw[if_pos hc]at hs ⊢
  refine wF Tryz.func8 rfl rfl ?_
  repeat'(first|apply zE|apply zD|apply zC|refine jg ?_ ?_|refine jq ?_ (c:=by exact⟨_,hs _,jN⟩)|refine jk ?_|(apply zX;exact rfl)|apply zB|apply zL|apply zJ|exact jS|fail)
  all_goals first
   |exact jX
   |exact jG
 ·rw[if_neg hc]at hs ⊢
  generalize n*yL k=z at *;refine wF Tryz.func8 rfl rfl ?_
  repeat'(first|apply zE|apply zD|apply zC|refine jg ?_ ?_|(apply yS;exact rfl;exact rfl)|refine jq ?_ (c:=by exact⟨_,hs _,jN⟩)|refine jw ?_|(apply zX;exact rfl)|apply zB|apply zL|apply zJ|exact jS|fail)
  all_goals first
   |exact jX
   |exact jG

abbrev Chg :=Int × List UInt8
abbrev chF (c:Chg):List Value:=[I c.1,S c.2]
abbrev Scp :=List UInt8 × Int × Int
abbrev scF (s:Scp):List Value:=[S s.1,I s.2.1,I s.2.2]
abbrev Vr :=List UInt8 × Int × Int × Int × Bool × Int × Int
abbrev vrF (v:Vr):List Value:=[S v.1,I v.2.1,I v.2.2.1,I v.2.2.2.1,B v.2.2.2.2.1,I v.2.2.2.2.2.1,I v.2.2.2.2.2.2]
abbrev Sx :=Int × Int × Option Addr × Nat × Nat
abbrev sxV (x:Sx):Value:=.slice x.2.2.1 x.2.2.2.1 x.2.2.2.2
abbrev sgF (x:Sx):List Value:=[I x.1,I x.2.1,.slice x.2.2.1 x.2.2.2.1 x.2.2.2.2]
theorem tP {α:Type}[Inhabited α]{p:α->Bool}{l:List α}{i:Nat}(h:i<l.length):(l.drop i).all p=(p l[i]! && (l.drop (i+1)).all p):=by rw[wD h];rfl
theorem tQ {α:Type}{p:α->Bool}{l:List α}{i:Nat}(h:l.length<=i):(l.drop i).all p=true:=by rw[List.drop_of_length_le h];rfl
theorem xD {α:Type}[Inhabited α]{l:List α}{i:Nat}(h:i<l.length):l[i]!∈l:=by rw[getElem!_pos l i h];exact List.getElem_mem h
def iZ (cs:List Chg)(m:Int):Bool:=cs.all (λc=>decide (c.2.length<=200)) && decide (cs.length<=m)
theorem yAw (cs:List Chg)(m:Int)(v:Value)(h:SH)(hv:Has h (zF chF cs) 2 cs.length v)(hs:∀c∈cs,c.2.length<=140737488351232)(hl:cs.length<=140737488351232) :
  zH Tryz.prog 16 [v,I m] h λr q=>r=B (iZ cs m)/\q=h:=by
 obtain⟨ad,fl,rfl,hh⟩:=hv;have hlb:=yK (f:=chF) (w:=2) (λ_=>rfl) cs;unfold iZ;obtain⟨b,hb⟩:∃b,cs.all (λc=>decide (c.2.length<=200))=b:=⟨_,rfl⟩;rw[hb];refine yJ Tryz.func16 rfl rfl ?_
 repeat'(first|apply zE|apply zD|apply zC|refine jg ?_ ?_|apply zB|apply zM|exact jS|fail)
 all_goals try exact jX
 refine yH (S:=Nat) (λi=>[(0,.slice ad cs.length fl),(1,I m),(5,I i)]) (λ_=>h) (λi=>i<=cs.length/\(cs.drop i).all (λc=>decide (c.2.length<=200))=b) (λi=>cs.length-i) 0 ⟨Nat.zero_le _,hb⟩ jB jK ?_;rintro i ⟨hi,hg⟩;by_cases hil:i<cs.length
 ·obtain⟨A',ro,h1,rfl,hp⟩:=hh (by omega)
  have hx:=hs _ (xD hil);rw[tP hil]at hg;by_cases hk:cs[i]!.2.length<=200
  ·rw[decide_eq_true hk,Bool.true_and]at hg
   repeat'(first|apply zE|apply zD|apply zC|refine jg ?_ ?_|(apply ja;exact jH)|(apply jm;exact jI)|refine jd ?_|refine jf ?_|apply zB|apply zQ|apply zL|apply zM|exact jO|((with_reducible apply Ln.mk);first|(simp[hlb];first|done|omega))|exact jW|((with_reducible apply Ce.mk);first|exact vL (λ_=>rfl) (by omega) (by decide) rfl)|exact True.intro|exact rfl)
   all_goals first
    |exact jX
    |exact⟨i+1,⟨hil,hg⟩,by show cs.length-(i+1)<cs.length-i;omega,jB,jK⟩
  ·rw[decide_eq_false hk,Bool.false_and]at hg
   subst hg
   repeat'(first|apply zE|apply zD|apply zC|refine jg ?_ ?_|(apply jm;exact jI)|refine jd ?_|apply zB|apply zV|apply xM|apply zL|apply zJ|apply zM|exact jO|((with_reducible apply Ln.mk);first|(simp[hlb];first|done|omega))|((with_reducible apply Ce.mk);first|exact vL (λ_=>rfl) (by omega) (by decide) rfl)|exact True.intro|exact rfl)
   all_goals first
    |exact jX
    |exact jG
 ·rw[tQ (by omega)]at hg
  subst hg
  repeat'(first|apply zE|apply zD|apply zC|refine jg ?_ ?_|refine jf ?_|apply zB|apply zW|apply zT|apply zJ|apply zU|exact jS|fail)
  all_goals first
   |exact jX
   |exact jF (k:=by exact⟨congrArg B (by rw[Bool.true_and]),rfl⟩)
def dB (ss:List Scp)(vs:List Vr):Bool:=ss.all (λc=>decide (c.1.length<=60)) && (vs.all (λc=>decide (c.1.length<=60)) && (decide (ss.length<=40) && decide (vs.length<=140)))
theorem zYr (ss:List Scp)(vs:List Vr)(v w:Value)(h:SH)(hv:Has h (zF scF ss) 3 ss.length v)(hw:Has h (zF vrF vs) 7 vs.length w)
  (hs:∀c∈ss,c.1.length<=140737488351232) (hr:∀c∈vs,c.1.length<=140737488351232) (hl:ss.length<=140737488351232) (hl2:vs.length<=140737488351232) :
  zH Tryz.prog 15 [v,w] h λr q=>r=B (dB ss vs)/\q=h:=by
 obtain⟨ad,fl,rfl,hh⟩:=hv;obtain⟨ad2,fl2,rfl,hh2⟩:=hw;have hlb:=yK (f:=scF) (w:=3) (λ_=>rfl) ss;have hlb2:=yK (f:=vrF) (w:=7) (λ_=>rfl) vs;unfold dB;obtain⟨b,hb⟩:∃b,ss.all (λc=>decide (c.1.length<=60))=b:=⟨_,rfl⟩;obtain⟨d,hd⟩:∃b,vs.all (λc=>decide (c.1.length<=60))=b:=⟨_,rfl⟩;rw[hb,hd];refine yJ Tryz.func15 rfl rfl ?_
 repeat'(first|apply zE|apply zD|apply zC|refine jg ?_ ?_|apply zB|apply zM|exact jS|fail)
 all_goals try exact jX
 refine yH (S:=Nat) (λi=>[(0,.slice ad ss.length fl),(1,.slice ad2 vs.length fl2),(5,I i)]) (λ_=>h) (λi=>i<=ss.length/\(ss.drop i).all (λc=>decide (c.1.length<=60))=b) (λi=>ss.length-i) 0 ⟨Nat.zero_le _,hb⟩ jB jK ?_;rintro i ⟨hi,hg⟩;by_cases hil:i<ss.length
 ·obtain⟨A',ro,h1,rfl,hp⟩:=hh (by omega)
  have hx:=hs _ (xD hil);rw[tP hil]at hg;by_cases hk:ss[i]!.1.length<=60
  ·rw[decide_eq_true hk,Bool.true_and]at hg
   repeat'(first|apply zE|apply zD|apply zC|refine jg ?_ ?_|(apply ja;exact jH)|(apply jm;exact jI)|refine jd ?_|refine jf ?_|apply zB|apply zQ|apply zL|apply zM|exact jO|((with_reducible apply Ln.mk);first|(simp[hlb];first|done|omega))|exact jW|((with_reducible apply Ce.mk);first|exact vL (λ_=>rfl) (by omega) (by decide) rfl)|exact True.intro|exact rfl)
   all_goals first|exact jX|exact⟨i+1,⟨hil,hg⟩,by show ss.length-(i+1)<ss.length-i;omega,jB,jK⟩
  ·rw[decide_eq_false hk,Bool.false_and]at hg
   subst hg
   repeat'(first|apply zE|apply zD|apply zC|refine jg ?_ ?_|(apply jm;exact jI)|refine jd ?_|apply zB|apply zV|apply xM|apply zL|apply zJ|apply zM|exact jO|((with_reducible apply Ln.mk);first|(simp[hlb];first|done|omega))|((with_reducible apply Ce.mk);first|exact vL (λ_=>rfl) (by omega) (by decide) rfl)|exact True.intro|exact rfl)
   all_goals first|exact jX|exact jG
 ·rw[tQ (by omega)]at hg
  subst hg;rw[Bool.true_and]
  repeat'(first|apply zE|apply zD|apply zC|refine jg ?_ ?_|refine jf ?_|apply zB|apply zW|apply zT|apply zU|apply zM|exact jS|fail)
  all_goals try exact jX
  refine yH (S:=Nat) (λi=>[(0,.slice ad ss.length fl),(1,.slice ad2 vs.length fl2),(6,I i)]) (λ_=>h) (λi=>i<=vs.length/\(vs.drop i).all (λc=>decide (c.1.length<=60))=d) (λi=>vs.length-i) 0 ⟨Nat.zero_le _,hd⟩ jB jK ?_;rintro j ⟨hj,hg⟩;by_cases hjl:j<vs.length
  ·obtain⟨A',ro,h1,rfl,hp⟩:=hh2 (by omega)
   have hx:=hr _ (xD hjl);rw[tP hjl]at hg;by_cases hk:vs[j]!.1.length<=60
   ·rw[decide_eq_true hk,Bool.true_and]at hg
    repeat'(first|apply zE|apply zD|apply zC|refine jg ?_ ?_|(apply ja;exact jH)|(apply jm;exact jI)|refine jd ?_|refine jf ?_|apply zB|apply zQ|apply zL|apply zM|exact jO|((with_reducible apply Ln.mk);first|(simp[hlb2];first|done|omega))|exact jW|((with_reducible apply Ce.mk);first|exact vL (λ_=>rfl) (by omega) (by decide) rfl)|exact True.intro|exact rfl)
    all_goals first|exact jX|exact⟨j+1,⟨hjl,hg⟩,by show vs.length-(j+1)<vs.length-j;omega,jB,jK⟩
   ·rw[decide_eq_false hk,Bool.false_and]at hg
    subst hg
    repeat'(first|apply zE|apply zD|apply zC|refine jg ?_ ?_|(apply jm;exact jI)|refine jd ?_|apply zB|apply zV|apply xM|apply zL|apply zJ|apply zM|exact jO|((with_reducible apply Ln.mk);first|(simp[hlb2];first|done|omega))|((with_reducible apply Ce.mk);first|exact vL (λ_=>rfl) (by omega) (by decide) rfl)|exact True.intro|exact rfl)
    all_goals first|exact jX|exact jG
  ·rw[tQ (by omega)]at hg
   subst hg
   repeat'(first|apply zE|apply zD|apply zC|refine jg ?_ ?_|refine jw ?_|refine jk ?_|(apply rX;(iterate 3 exact rfl);all_goals intro hc)|refine jf ?_|apply zB|apply zW|apply zT|apply zJ|apply zU|exact jS|fail)
   all_goals first|exact jX|exact jF (k:=by exact⟨congrArg B (by rw[Bool.true_and,<-Bool.decide_and];exact(decide_eq_false (by omega)).symm),rfl⟩)|exact jF (k:=by exact⟨congrArg B (by rw[Bool.true_and,<-Bool.decide_and,decide_eq_decide];omega),rfl⟩)
abbrev Sgc :=Int × Int × List Chg
structure Trc where
 sc:Int
 da:List UInt8
 ve:List UInt8
 co:List UInt8
 ss:List Scp
 vs:List Vr
 gs:List Sgc
 ga:List (Int × Int)
 en:Int
def SgH (h:SH)(x:Sx)(c:Sgc):Prop:=x.1=c.1/\x.2.1=c.2.1/\Has h (zF chF c.2.2) 2 c.2.2.length (sxV x)
def tY (h:SH)(gs:List Sgc)(v:Value):Prop:=∃xs:List Sx,xs.length=gs.length/\Has h (zF sgF xs) 3 gs.length v/\∀i,i<gs.length->SgH h xs[i]! gs[i]!
def trV (t:Trc)(s v g a:Value):Value:=.agg ⟨[I t.sc,S t.da,S t.ve,S t.co,s,v,g,a,I t.en]⟩
def TrH (h:SH)(t:Trc)(v:Value):Prop:=∃s w g a,v=trV t s w g a/\Has h (zF scF t.ss) 3 t.ss.length s/\Has h (zF vrF t.vs) 7 t.vs.length w/\tY h t.gs g/\Has h (zF prF t.ga) 2 t.ga.length a
def mP (m:Int):Int->List Sgc->Bool
 |_,[]=>true
 |n,g::r=>decide (n+g.2.2.length<=m) && (iZ g.2.2 m && mP m (n+g.2.2.length) r)
theorem yCh {m n:Int}{l:List Sgc}{i:Nat}(h:i<l.length):mP m n (l.drop i)=(decide (n+l[i]!.2.2.length<=m) && (iZ l[i]!.2.2 m && mP m (n+l[i]!.2.2.length) (l.drop (i+1)))):=by rw[wD h];rfl
def lA (t:Trc)(m:Int):Bool:=dB t.ss t.vs && (decide (t.gs.length<=70/\t.ga.length<=20/\t.da.length+t.ve.length+t.co.length<=700) && mP m 0 t.gs)
structure Fit (t:Trc):Prop where
 da:t.da.length<=140737488351232
 ve:t.ve.length<=140737488351232
 co:t.co.length<=140737488351232
 ss:t.ss.length<=140737488351232
 vs:t.vs.length<=140737488351232
 gs:t.gs.length<=140737488351232
 ga:t.ga.length<=140737488351232
 sn:∀c∈t.ss,c.1.length<=140737488351232
 vn:∀c∈t.vs,c.1.length<=140737488351232
 cs:∀g∈t.gs,g.2.2.length<=140737488351232/\∀c∈g.2.2,c.2.length<=140737488351232
theorem yCd (t:Trc)(m:Int)(v:Value)(h:SH)(hv:TrH h t v)(hf:Fit t)(hm:0<=m/\m<=1000):zH Tryz.prog 5 [v,I m] h λr q=>r=B (lA t m)/\q=h:=by
 obtain⟨s,w,g,a,rfl,h1,h2,⟨xs,hxl,h3,hxs⟩,h4⟩:=hv;obtain⟨f1,f2,f3,f4,f5,f6,f7,f8,f9,f10⟩:=hf;have hF:=λh h1 h2=>zYr t.ss t.vs s w h h1 h2 f8 f9 f4 f5;obtain⟨ad1,fl1,rfl,hh1⟩:=id h1;obtain⟨ad2,fl2,rfl,hh2⟩:=id h2;obtain⟨ad3,fl3,rfl,hh3⟩:=id h3;obtain⟨ad4,fl4,rfl,hh4⟩:=id h4;obtain⟨sc,da,ve,co,ss,vs,gs,ga,en⟩:=t;unfold lA trV;dsimp only at *;have hlb:=yK (f:=sgF) (w:=3) (λ_=>rfl) xs;obtain⟨b,hb⟩:∃b,dB ss vs=b:=⟨_,rfl⟩;rw[hb]at hF ⊢;obtain⟨d,hd⟩:∃b,mP m 0 gs=b:=⟨_,rfl⟩;rw[hd];cases b with
 |false =>
  rw[Bool.false_and];refine yJ Tryz.func5 rfl rfl ?_
  repeat'(first|apply zE|apply zD|apply zC|refine jg ?_ ?_|(apply yS;exact rfl;exact rfl)|(apply jm;exact jI)|refine jx ?_|(apply zZ;exact rfl;exact rfl;exact rfl;exact rfl;exact⟨_,hF _ (h1.re jD) (h2.re jD),zA.nil⟩;rintro _ _ ⟨rfl,rfl⟩)|refine jk ?_|(apply yO;exact rfl)|apply zB|apply zV|apply zJ|exact jS|exact jL|exact jE|exact True.intro|intro A|exact rfl)
  all_goals first|exact jX|exact jG
 |true =>
 rw[Bool.true_and];by_cases hq:gs.length<=70/\ga.length<=20/\da.length+ve.length+co.length<=700
 ·rw[decide_eq_true hq,Bool.true_and]
  obtain⟨q1,q2,q3⟩:=hq;refine yJ Tryz.func5 rfl rfl ?_
  repeat'(first|apply zE|apply zD|apply zC|refine jg ?_ ?_|(apply ja;exact jH)|(apply yS;exact rfl;exact rfl)|(apply jm;exact jI)|refine jx ?_|(apply zZ;exact rfl;exact rfl;exact rfl;exact rfl;exact⟨_,hF _ (h1.re jD) (h2.re jD),zA.nil⟩;rintro _ _ ⟨rfl,rfl⟩)|refine jw ?_|refine ji ?_|refine jf ?_|apply zB|apply zL|apply zM|exact jS|exact jL|exact jW|exact jE|exact True.intro|intro A|exact rfl)
  all_goals try exact jX
  refine yH (S:=Nat × Int) (λx=>[(1,I m),(2,zG A 0 9),(5,I x.2),(6,I x.1)]) (λ_=>(A,⟨[I sc,S da,S ve,S co,.slice ad1 ss.length fl1,.slice ad2 vs.length fl2,.slice ad3 gs.length fl3,.slice ad4 ga.length fl4,I en],false⟩)::h)
   (λx=>x.1<=gs.length/\0<=x.2/\x.2<=1000/\mP m x.2 (gs.drop x.1)=d) (λx=>gs.length-x.1) (0,0) ⟨Nat.zero_le _,by decide,by decide,hd⟩ jB jK ?_
  rintro⟨i,n⟩ ⟨hi,hn,hn2,hg⟩;dsimp only at hi hn hn2 hg ⊢;by_cases hil:i<gs.length
  ·obtain⟨A',ro,h5,rfl,hp⟩:=hh3 (by omega)
   obtain⟨e1,e2,e3⟩:=hxs i hil;obtain⟨g1,g2⟩:=f10 _ (xD hil);have hC:=λh e3=>yAw gs[i]!.2.2 m (sxV xs[i]!) h e3 g2 g1;obtain⟨ad5,fl5,e5,hh5⟩:=id e3;rw[e5]at e3 hC;have hc1:(zF sgF xs)[0+((i:Int)).toNat*3+2]?=some (.slice ad5 gs[i]!.2.2.length fl5):=vL (λ_=>rfl) (by omega) (by decide) (congrArg some (show sxV xs[i]! = _ from e5));rw[yCh hil]at hg;by_cases hk:n+gs[i]!.2.2.length<=m
   ·rw[decide_eq_true hk,Bool.true_and]at hg
    cases hc22:iZ gs[i]!.2.2 m with
    |true =>
     rw[hc22,Bool.true_and]at hg;rw[hc22]at hC
     repeat'(first|apply zE|apply zD|apply zC|refine jg ?_ ?_|(apply ja;exact jH)|(apply yS;exact rfl;exact rfl)|(apply jm;exact jI)|(apply zZ;exact rfl;exact rfl;exact rfl;exact rfl;exact⟨_,hC _ (e3.re jD),zA.nil⟩;rintro _ _ ⟨rfl,rfl⟩)|refine jw ?_|refine ji ?_|(apply zX;exact rfl)|refine jd ?_|apply zB|apply zQ|apply zL|apply zM|exact jO|((with_reducible apply Ln.mk);first|rfl|(simp[hlb,hxl];first|done|omega))|exact jW|((with_reducible apply Ce.mk);first|rfl|exact hc1)|exact True.intro|exact rfl)
     all_goals first|exact jX|exact⟨(i+1,n+gs[i]!.2.2.length),⟨hil,by show 0<=n+(gs[i]!.2.2.length:Int);omega,by show n+(gs[i]!.2.2.length:Int)<=1000;omega,hg⟩,by show gs.length-(i+1)<gs.length-i;omega,jB,jK⟩
    |false =>
     rw[hc22,Bool.false_and]at hg;rw[hc22]at hC;subst hg
     repeat'(first|apply zE|apply zD|apply zC|refine jg ?_ ?_|(apply ja;exact jH)|(apply yS;exact rfl;exact rfl)|(apply jm;exact jI)|(apply zZ;exact rfl;exact rfl;exact rfl;exact rfl;exact⟨_,hC _ (e3.re jD),zA.nil⟩;rintro _ _ ⟨rfl,rfl⟩)|refine jw ?_|refine ji ?_|(apply yO;exact rfl)|refine jd ?_|apply zB|apply zV|apply xM|apply zL|apply zJ|apply zM|exact jO|((with_reducible apply Ln.mk);first|rfl|(simp[hlb,hxl];first|done|omega))|exact jW|((with_reducible apply Ce.mk);first|rfl|exact hc1)|exact True.intro|exact rfl)
     all_goals first|exact jX|exact jG
   ·rw[decide_eq_false hk,Bool.false_and]at hg
    subst hg
    repeat'(first|apply zE|apply zD|apply zC|refine jg ?_ ?_|(apply ja;exact jH)|(apply jm;exact jI)|refine jk ?_|(apply gO;(iterate 3 exact rfl);omega;exact rfl)|(apply yO;exact rfl)|refine jd ?_|apply zB|apply zV|apply xM|apply zL|apply zJ|apply zM|exact jO|((with_reducible apply Ln.mk);first|rfl|(simp[hlb,hxl];first|done|omega))|exact jW|((with_reducible apply Ce.mk);first|rfl|exact hc1)|exact True.intro|exact rfl)
    all_goals first|exact jX|exact jG
  ·rw[List.drop_of_length_le (by omega)]at hg
   have hg:true=d:=hg;subst hg
   repeat'(first|apply zE|apply zD|apply zC|refine jg ?_ ?_|(apply jm;exact jI)|refine jf ?_|apply zB|apply zW|apply zT|apply zJ|apply zU|exact jS|exact jL|exact jE|exact True.intro|exact rfl)
   all_goals first|exact jX|exact jG
 ·rw[decide_eq_false hq,Bool.false_and]
  refine yJ Tryz.func5 rfl rfl ?_
  repeat'(first|apply zE|apply zD|apply zC|refine jg ?_ ?_|(apply ja;exact jH)|(apply yS;exact rfl;exact rfl)|(apply jm;exact jI)|refine jx ?_|(apply zZ;exact rfl;exact rfl;exact rfl;exact rfl;exact⟨_,hF _ (h1.re jD) (h2.re jD),zA.nil⟩;rintro _ _ ⟨rfl,rfl⟩)|refine jw ?_|refine jk ?_|(apply vJ;(iterate 3 exact rfl);all_goals intro hc)|(apply yO;exact rfl)|refine jd ?_|apply zB|apply zV|apply zJ|exact jS|exact jL|exact jW|exact jE|exact True.intro|intro A|exact rfl)
  all_goals first|exact jX|exact jG

abbrev cs :List UInt8:=[48,49,120,122]
def cd (c:Int):Int:=if c=48 then 0 else if c=49 then 1 else if c=120 then 2 else if c=122 then 3 else -1
theorem yMj :∀{k:Nat},k<4->cd (bat cs (k:Int))=k
 |0,_=>rfl
 |1,_=>rfl
 |2,_=>rfl
 |3,_=>rfl
 |_+4,h=>by omega
theorem yEb {c:Int}(h:∀k:Nat,k<4->bat cs (k:Int)≠c):cd c=-1:=by
 have h0:=h 0 (by decide);have h1:=h 1 (by decide);have h2:=h 2 (by decide);have h3:=h 3 (by decide);change (48:Int)≠c at h0;change (49:Int)≠c at h1;change (120:Int)≠c at h2;change (122:Int)≠c at h3;unfold cd;rw[if_neg h0.symm,if_neg h1.symm,if_neg h2.symm,if_neg h3.symm]
theorem zHj (c:Int):-1<=cd c/\cd c<4:=by unfold cd;(repeat' split) <;> decide
def ch (k:Int):Int:=if 0<=k/\k<4 then bat cs k else 0
theorem zFq (c:Int)(h:SH):zH Tryz.prog 338 [.int .u8 c] h λr q=>r=I (cd c)/\q=h:=by
 refine yG Tryz.func338 rfl rfl ?_
 repeat'(first|apply zE|apply zD|apply zC|refine jg ?_ ?_|apply zB|apply zM|exact jS|fail)
 refine yH (S:=Nat) (λk=>[(0,.int .u8 c),(4,I k)]) (λ_=>h) (λk=>k<=4/\∀j:Nat,j<k->bat cs (j:Int)≠c) (λk=>4-k) 0 ⟨by omega,λj hj=>by omega⟩ jB jK ?_;rintro k ⟨hk,he⟩
 repeat'(first|apply zE|apply zD|apply zC|refine jg ?_ ?_|(apply ja;exact jH)|(apply vA;exact rfl;all_goals intro hc)|apply zB|apply zV|apply zW|apply zQ|apply xM|apply zT|apply zL|apply zJ|apply zU|apply zM|((with_reducible apply Sd.mk);first|exact True.intro|(constructor <;> first|omega|(unfold maxLen;omega)))|exact jW|fail)
 ·exact jF (k:=by refine⟨?_,rfl⟩;show I _=I _;rw[<-hc,yMj (by omega)])
 ·exact⟨k+1,⟨by omega,λj hj=>by
   by_cases e:j=k
   ·subst e;exact hc
   ·exact he j (by omega)⟩,by omega,jB,jK⟩
 ·exact jF (k:=by refine⟨?_,rfl⟩;show I _=I _;rw[yEb λj hj=>he j (by omega)])
theorem zIj (c:Int)(h:SH):zH Tryz.prog 308 [.int .u8 c] h λr q=>r=B (decide (0<=cd c))/\q=h:=by
 refine yG Tryz.func308 rfl rfl ?_
 repeat'(first|apply zE|apply zD|apply zC|refine jg ?_ ?_|refine jq ?_ (c:=by exact⟨_,zFq c _,jN⟩)|apply zB|apply zJ|exact jS|fail)
 all_goals exact jG

def cn (l:List UInt8)(k:Int):Nat:=l.countP λb=>decide (cd b.toNat=k)
abbrev cnL (l:List UInt8):List Int:=[(cn l 0:Int),(cn l 1:Int),(cn l 2:Int),(cn l 3:Int)]
abbrev cnV (l:List UInt8):List Value:=[I (cn l 0),I (cn l 1),I (cn l 2),I (cn l 3)]
theorem zEr {l:List UInt8}{i:Nat}(h:i<l.length):bat l (i:Int)=(l[i].toNat:Int):=by
 unfold bat;rw[Int.toNat_natCast,List.getD_eq_getElem?_getD,List.getElem?_eq_getElem h];rfl
theorem zWi (l:List UInt8)(b:UInt8)(k:Int):cn (l++[b]) k=cn l k+if cd b.toNat=k then 1 else 0:=by
 unfold cn;rw[List.countP_append,List.countP_singleton];by_cases h:cd b.toNat=k <;> simp[h]
theorem yQd {l:List UInt8}{i:Nat}(h:i<l.length):l.take (i+1)=l.take i++[l[i]]:=by
 rw[List.take_add_one,List.getElem?_eq_getElem h];rfl
theorem nQ {l:List UInt8}{i:Nat}(h:i<l.length)(k:Int):cn (l.take (i+1)) k=cn (l.take i) k+if cd (bat l (i:Int))=k then 1 else 0:=by
 rw[yQd h,zWi,zEr h]
theorem aX (l:List UInt8)(k:Int):cn l k<=l.length:=List.countP_le_length
theorem yHg {l:List UInt8}{i k:Nat}(h:i<l.length)(hk:k<4)(e:cd (bat l (i:Int))=(k:Int)):(cnL (l.take i)).set k ((cnL (l.take i))[k]!+1)=cnL (l.take (i+1)):=by
 unfold cnL;rw[nQ h,nQ h,nQ h,nQ h,e];obtain rfl|rfl|rfl|rfl:k=0\/k=1\/k=2\/k=3:=by omega
 all_goals simp
theorem zXd {l:List UInt8}{i:Nat}(h:i<l.length)(e:cd (bat l (i:Int))=-1):cnL (l.take (i+1))=cnL (l.take i):=by
 unfold cnL;rw[nQ h,nQ h,nQ h,nQ h,e];simp
theorem yHd (l:List UInt8){k:Nat}(hk:k<4):0<=(cnL l)[k]!/\(cnL l)[k]!<=l.length:=by
 have h0:=aX l 0;have h1:=aX l 1;have h2:=aX l 2;have h3:=aX l 3;obtain rfl|rfl|rfl|rfl:k=0\/k=1\/k=2\/k=3:=by omega
 all_goals (unfold cnL;simp;omega)
theorem yCb (l:List UInt8)(h:SH)(hl:l.length<=9223372036854775807):zH Tryz.prog 337 [S l] h λr q=>r=.agg ⟨cnV l⟩/\q=h:=by
 refine yG Tryz.func337 rfl rfl ?_
 repeat'(first|apply zE|apply zD|apply zC|refine jg ?_ ?_|refine jy ?_|apply zB|apply zM|exact jS|intro A)
 rename_i A2;refine yH (S:=Nat) (λk=>[(0,S l),(7,I l.length),(8,I k),(2,zG A2 0 4),(3,zG A 0 4)]) (λk=>(A,⟨(cnL (l.take k)).map λn=>I n,false⟩)::(A2,⟨[I 0,I 0,I 0,I 0],false⟩)::h) (λk=>k<=l.length) (λk=>l.length-k) 0 (Nat.zero_le _) jB (.consE .head rfl (.cons .head .nil)) ?_;intro i hi;by_cases hil:i<l.length
 ·by_cases hc:0<=cd (bat l (i:Int))
  ·obtain⟨k,hk⟩:=Int.eq_ofNat_of_zero_le hc
   have hk4:k<4:=by have:=zHj (bat l (i:Int));omega
   have hC:=λh=>zFq (bat l (i:Int)) h;rw[hk]at hC;have hin:=yHd (l.take i) hk4;rw[List.length_take]at hin;have hst:=yHg hil hk4 hk;have hL:(cnL (l.take i)).length=4:=rfl;generalize cnL (l.take i)=L at hin hst hL ⊢
   repeat'(first|apply zE|apply zD|apply zC|refine jg ?_ ?_|(apply ja;exact jH)|(apply jm;exact jI)|(apply yV zK;(iterate 4 exact rfl);exact up)|(refine jc ?_ (c:=by exact⟨_,hC _,jN⟩);rintro _ _ ⟨rfl,rfl⟩)|(apply yO;exact rfl)|refine jd ?_|apply zB|apply zQ|apply zL|apply zM|exact jO|((with_reducible apply Ln.mk);first|(simp ;first|done|omega))|exact jW|((with_reducible apply Ce.mk);first|exact oO (by omega))|((with_reducible apply Se.mk);first|exact fT (by omega))|exact True.intro|exact rfl)
   exact⟨i+1,by show i+1<=_;omega,by show l.length-(i+1)<l.length-i;omega,jB,by rw[<-hst];exact jK⟩
  ·have e:cd (bat l (i:Int))=-1:=by have:=zHj (bat l (i:Int));omega
   repeat'(first|apply zE|apply zD|apply zC|refine jg ?_ ?_|(apply ja;exact jH)|(refine jc ?_ (c:=by exact⟨_,zFq _ _,jN⟩);rintro _ _ ⟨rfl,rfl⟩)|refine jd ?_|refine jf ?_|apply zB|apply zQ|apply zL|apply zM|exact jO|exact jW|fail)
   exact⟨i+1,by show i+1<=_;omega,by show l.length-(i+1)<l.length-i;omega,jB,by rw[zXd hil e];exact jK⟩
 ·obtain rfl:i=l.length:=by omega
  repeat'(first|apply zE|apply zD|apply zC|refine jg ?_ ?_|(apply jl;exact jI)|(apply js;exact jJ)|refine jf ?_|apply zB|apply zW|apply zT|apply zJ|apply zU|exact jS|exact jL|exact jP|exact jU|exact True.intro|exact rfl)
  rw[List.take_length]
  (apply yA;(exact(show zO _ _ _ _ [_] from(sG zK rfl rfl rfl (by exact pk) (by first|rfl|exact ‹_›|omega|(simp ;first|done|omega)) (by first|rfl|exact ‹_›|omega|(simp ;first|done|omega)) trivial)));exact⟨rfl,rfl⟩;(focus repeat(first|with_reducible exact zA.nil|with_reducible apply zA.c|with_reducible apply zA.drop)))
def isV (l:List UInt8):Prop:=1<=l.length/\l.length<=128/\∀i:Nat,i<l.length->0<=cd (bat l (i:Int))
theorem zVb (l:List UInt8):cn l 0+cn l 1+cn l 2+cn l 3=l.countP λb=>decide (0<=cd b.toNat):=by
 unfold cn
 induction l with
 |nil=>rfl
 |cons b l ih =>
  have:=zHj b.toNat;simp only[List.countP_cons,decide_eq_true_eq];obtain e|e|e|e|e:cd b.toNat=-1\/cd b.toNat=0\/cd b.toNat=1\/cd b.toNat=2\/cd b.toNat=3:=by omega
  all_goals (rw[e];simp;omega)
theorem yLm (l:List UInt8):cn l 0+cn l 1+cn l 2+cn l 3=l.length↔∀i:Nat,i<l.length->0<=cd (bat l (i:Int)):=by
 rw[zVb,List.countP_eq_length];constructor
 ·intro h i hi
  rw[zEr hi];exact of_decide_eq_true (h _ (List.getElem_mem hi))
 ·intro h b hb
  obtain⟨i,hi,rfl⟩:=List.getElem_of_mem hb;have:=h i hi;rw[zEr hi]at this;exact decide_eq_true this
theorem zId (l:List UInt8):isV l↔1<=l.length/\l.length<=128/\cn l 0+cn l 1+cn l 2+cn l 3=l.length:=by
 unfold isV;rw[yLm]
instance (l:List UInt8):Decidable (isV l):=decidable_of_iff _ (zId l).symm
theorem yOr (l:List UInt8):cn l 0+cn l 1+cn l 2+cn l 3<=l.length:=by rw[zVb];exact List.countP_le_length
theorem yCn (l:List UInt8):decide (isV l)=decide (1<=l.length/\l.length<=128/\cn l 0+cn l 1+cn l 2+cn l 3=l.length):=decide_eq_decide.2 (zId l)
theorem yBm (l:List UInt8)(h:SH)(hl:l.length<=9223372036854775807):zH Tryz.prog 307 [S l] h λr q=>r=B (decide (isV l))/\q=h:=by
 have hs:=yOr l;have hz:l=[]↔l.length=0:=List.length_eq_zero_iff.symm;rw[yCn];refine yG Tryz.func307 rfl rfl ?_
 repeat'(first|apply zE|apply zD|apply zC|refine jg ?_ ?_|(apply ja;exact jH)|(apply jm;exact jI)|(apply js;exact jJ)|refine jy ?_|(refine jc ?_ (c:=by exact⟨_,yCb l _ hl,jN⟩);rintro _ _ ⟨rfl,rfl⟩)|refine jw ?_|refine jk ?_|(apply vJ;(iterate 3 exact rfl);all_goals intro hc)|(apply yO;exact rfl)|(apply vA;exact rfl;all_goals intro hc)|apply zB|apply zV|apply zL|apply zJ|exact jO|exact jL|exact jW|exact jE|exact jP|exact True.intro|intro A|exact rfl)
 ·exact jF (k:=by exact⟨congrArg B (decide_eq_false (by omega)).symm,rfl⟩)
 ·rename_i h1 _
  rw[hz]at h1;exact jF (k:=by exact⟨congrArg B (decide_eq_decide.2 (by omega)),rfl⟩)
 ·rw[hz]at hc
  exact jF (k:=by exact⟨congrArg B (decide_eq_false (by omega)).symm,rfl⟩)
def isK (l:List UInt8):Prop:=isV l/\cn l 2+cn l 3=0
instance (l:List UInt8):Decidable (isK l):=inferInstanceAs (Decidable (_/\_))

theorem yGu (l:List UInt8)(n:Nat)(h:SH)(hn:n<=9223372036854775807)(hl:l.length*n<=140737488355328):zH Tryz.prog 309 [S l,I n] h λr q=>r=S (Lib.repeatL l n)/\q=h :=
 cX rfl rfl λw=>Tryz.strings_Repeat ⟨⟨l⟩⟩ n w hn hl

def emap (F:Int->Int)(l:List UInt8):List UInt8:=l.map λb=>b8 (F b.toNat)
theorem yLu (b:UInt8)(k:Nat):Lib.repeatL [b] k=List.replicate k b:=by
 have:=Lib.repeatL_replicate b 1 k;rwa [Nat.mul_one]at this
theorem yHt (b:UInt8)(k:Int)(h:SH)(hk:0<=k/\k<=100000):zH Tryz.prog 309 [S [b],I k] h λr q=>r=S (List.replicate k.toNat b)/\q=h:=by
 obtain⟨n,rfl⟩:=Int.eq_ofNat_of_zero_le hk.1;rw[Int.toNat_natCast,<-yLu];exact yGu [b] n h (by omega) (by simp;omega)
def bf (c:Int)(d:Int):Int:=if d=120\/d=122 then c else d
def bnd (c:Int)(l:List UInt8):List UInt8:=List.replicate (128-l.length) 48++emap (bf c) l

def yCp (a b:List UInt8):Prop:=isK a/\isK b/\a.length=b.length
instance (a b:List UInt8):Decidable (yCp a b):=inferInstanceAs (Decidable (_/\_/\_))

def sc (x:List UInt8):Prop:=(bat x 0=bat x 1/\bat x 0≠49)\/(bat x 0=48/\bat x 1=49)
instance (x:List UInt8):Decidable (sc x):=inferInstanceAs (Decidable (_\/_))

theorem yNx {v:Int}(h:0<=v/\v<256):xF [.int .u8 v] 0 (zS [b8 v]):=by rw[zZz h];exact xY
def chs (l:List UInt8):Prop:=1<=l.length/\cn l 0+cn l 1+cn l 2+cn l 3=l.length
instance (l:List UInt8):Decidable (chs l):=inferInstanceAs (Decidable (_/\_))

def oE (w c:Int):List UInt8:=if 1<=w/\w<=128/\0<=cd c then List.replicate w.toNat (b8 c)else []
theorem yOd (w c:Int)(h:SH)(hc:0<=c/\c<256):zH Tryz.prog 251 [I w,.int .u8 c] h λr q=>r=S (oE w c)/\q=h:=by
 by_cases hk:1<=w/\w<=128/\0<=cd c
 ·rw[show oE w c=List.replicate w.toNat (b8 c)from if_pos hk]
  have hR:=λh=>yHt (b8 c) w h (by omega);obtain⟨h1,h2,h3⟩:=hk;refine yJ Tryz.func251 rfl rfl ?_
  repeat'(first|apply zE|apply zD|apply zC|refine jg ?_ ?_|(apply mU;exact rfl;exact rfl)|refine jb ?_|(apply dS zK;(iterate 6 exact rfl);exact pk)|refine jq ?_ (c:=by exact⟨_,zIj _ _,jN⟩)|refine jq ?_ (c:=by exact⟨_,hR _,jN⟩)|refine jw ?_|refine ji ?_|refine jf ?_|apply zB|apply zL|apply zJ|exact jS|((with_reducible apply Ln.mk);first|exact(rfl:[b8 _].length=1)|rfl)|((with_reducible apply Su.mk);first|exact yNx (by omega))|exact True.intro|intro A|exact rfl)
  all_goals first|exact jX|exact jG
 ·rw[show oE w c=[] from if_neg hk]
  refine yJ Tryz.func251 rfl rfl ?_
  repeat'((fail_if_success (show SWp _ _ (Code.seq (Code.region 3 _ _) _) _ _ _));(fail_if_success (show SWp _ _ (Code.region 3 _ _) _ _ _));first|apply zE|apply zD|apply zC|refine jg ?_ ?_|(apply mU;exact rfl;exact rfl)|refine jq ?_ (c:=by exact⟨_,zIj _ _,jN⟩)|refine jw ?_|refine jk ?_|(apply vJ;(iterate 3 exact rfl);all_goals intro hc)|(apply yO;exact rfl)|refine jd ?_|apply zB|apply zV|apply zJ|exact jS|fail)
  all_goals first|(exfalso;omega)|exact jG

theorem yHf (w:Int)(l:List UInt8)(h:SH)(hl:l.length<=9223372036854775807):zH Tryz.prog 249 [I w,S l] h λr q=>r=B (decide (isV l/\(l.length:Int)=w))/\q=h:=by
 refine yJ Tryz.func249 rfl rfl ?_
 repeat'(first|apply zE|apply zD|apply zC|refine jg ?_ ?_|refine jq ?_ (c:=by exact⟨_,yBm _ _ hl,jN⟩)|refine jw ?_|refine jk ?_|(apply rX;(iterate 3 exact rfl);all_goals intro hc)|apply zB|apply zJ|exact jS|fail)
 all_goals exact jF (k:=by exact⟨by show B _=B _;simp[*],rfl⟩)

abbrev fnV (f:Nat):Value:=.func (.func f) #[] #[]
def kc (b:Nat):Nat->List Value
 |0=>[I 1,I 128,fnV 249,fnV 250,fnV 252,fnV 253,S [98]]
 |1=>[I 0,I 0,fnV 254,.func (.func 313) #[] #[zG b 0 1],fnV 257,fnV 259,S [114]]
 |2=>[I 0,I 0,fnV 260,.func (.func 313) #[] #[zG b 0 1],fnV 261,fnV 263,S [115]]
 |_=>[I 0,I 0,fnV 264,.func (.func 313) #[] #[zG b 0 1],fnV 265,fnV 266,S []]
theorem yFh (s:List UInt8)(h:SH):zH Tryz.prog 256 [S s] h λr q=>∃b,r=.func (.func 313) #[] #[zG b 0 1]/\q=(b,⟨[S s],false⟩)::h:=by
 refine yG Tryz.func256 rfl rfl ?_
 repeat'(first|apply zE|apply zD|apply zC|refine jg ?_ ?_|refine jx ?_|(apply rK;iterate 3 exact rfl)|apply zB|apply zJ|exact jS|intro A)
 all_goals first|exact jX|exact jF (k:=by exact⟨_,rfl,rfl⟩)
theorem yLz (w:Int)(b:Nat)(s:List UInt8)(h h1:SH)(hp:Pick h b ⟨[S s],false⟩ h1):zH Tryz.prog 313 [I w,zG b 0 1] h λr q=>r=S s/\q=h:=by
 refine yJ Tryz.func313 rfl rfl ?_
 repeat'(first|apply zE|apply zD|apply zC|refine jg ?_ ?_|(apply jm;exact jI)|apply zB|apply zJ|exact jS|exact jL|exact jE|exact True.intro|exact rfl)
 all_goals first|exact jX|exact jG
theorem yMm {a b c d e f g x y:Value}:rJ [a,b,c,d,e,f,g] 0 [x,y] [x,y,c,d,e,f,g]:=⟨show 2<=7 by decide,rfl⟩
theorem zPg (h:SH):zH Tryz.prog 197 [] h λr q=>∃A b1 b2 b3,r=gsl A 0 28 4 7 /\
  q=(A,⟨kc 0 0++(kc b1 1++(kc b2 2++kc b3 3)),false⟩)::(b3,⟨[S []],false⟩)::(b2,⟨[S []],false⟩)::(b1,⟨[S [48]],false⟩)::h:=by
 refine yQh Tryz.func197 rfl rfl ?_
 repeat'(first|apply zE|apply zD|apply zC|refine jg ?_ ?_|(apply xZ zK;exact rfl;exact rfl;(focus first|with_reducible exact zNl);exact rfl;(focus repeat(first|exact yT.nil|(apply yT.one;exact rfl;exact rfl;(first|(focus(repeat(first|exact yD.zero|apply yD.succ));done)))|(apply yT.agg;exact rfl;exact rfl;(first|exact yMm))));exact rfl)|(apply yMl zK;(iterate 4 exact rfl);(focus repeat(first|exact yT.nil|(apply yT.one;exact rfl;exact rfl;(first|(focus(repeat(first|exact yD.zero|apply yD.succ));done)))));exact rfl)|(apply xT zK;(iterate 5 exact rfl);decide;exact rfl;decide;(focus repeat(first|exact xE.last rfl|(apply xE.agg;exact rfl)));exact rfl)|(refine jc ?_ (c:=by exact⟨_,yFh _ _,jN⟩);rintro _ _ ⟨b,rfl,rfl⟩)|apply zB|apply zJ|exact jS|intro A)
 rename_i b1 b2
 (apply yA;(exact(show zO _ _ _ _ [_] from⟨rfl,trivial⟩));exact⟨A,b1,b2,b,rfl,rfl⟩;(focus repeat(first|with_reducible exact zA.nil|with_reducible apply zA.c|((with_reducible apply zA.cE);first|exact rfl|(apply pL;(focus first|exact rfl|exact uZ rfl|exact pI rfl|exact congrArg (λv=>[v]) (vR rfl rfl (by first|rfl|exact ‹_›|omega|(simp ;first|done|omega)) (by first|rfl|exact ‹_›|omega|(simp ;first|done|omega)) rfl))))|with_reducible apply zA.drop)))
def klo :Nat->Int
 |0=>1
 |_=>0
def khi :Nat->Int
 |0=>128
 |_=>0
def ktx :Nat->List UInt8
 |0|1=>[48]
 |_=>[]
def bsel :Nat->Nat->Nat->Nat->Nat
 |0,b,_,_=>b
 |1,b,_,_=>b
 |2,_,b,_=>b
 |_,_,_,b=>b
theorem zBp (n:Nat)(w:Int)(h:SH)(hn:n<4):zH Tryz.prog 151 [I n,I w] h λr q=>∃b,r=.tuple #[.agg ⟨kc b n⟩,B (decide (klo n<=w/\w<=khi n))]/\q=(b,⟨[S (ktx n)],false⟩)::h:=by
 obtain⟨K,hK⟩:∃K:Nat->Nat->Nat->List Value,∀b1 b2 b3,kc 0 0++(kc b1 1++(kc b2 2++kc b3 3))=K b1 b2 b3:=⟨_,λ_ _ _=>rfl⟩;have hKd:∀h:SH,zH Tryz.prog 197 [] h λr q=>∃A b1 b2 b3,r=gsl A 0 28 4 7/\q=(A,⟨K b1 b2 b3,false⟩)::(b3,⟨[S []],false⟩)::(b2,⟨[S []],false⟩)::(b1,⟨[S [48]],false⟩)::h :=
  λh=>(zPg h).mono λr q ⟨A,b1,b2,b3,e1,e2⟩=>⟨A,b1,b2,b3,e1,by rw[<-hK];exact e2⟩
 have hsub:∀b1 b2 b3,xF (K b1 b2 b3) (0+((n:Int)).toNat*7) (kc (bsel n b1 b2 b3) n):=by
  intro b1 b2 b3 j v hj;rw[<-hK];rcases n with _|_|_|_|n <;> first|omega|skip
  all_goals rcases j with _|_|_|_|_|_|_|j <;> first|exact hj|exact absurd hj (by simp[kc])
 have hlo:∀b1 b2 b3,(K b1 b2 b3)[0+((n:Int)).toNat*7+0+((0:Int)).toNat*1]?=some (I (klo n)):=by
  intro b1 b2 b3;rw[<-hK];rcases n with _|_|_|_|n <;> first|omega|rfl
 have hhi:∀b1 b2 b3,(K b1 b2 b3)[0+((n:Int)).toNat*7+0+((1:Int)).toNat*1]?=some (I (khi n)):=by
  intro b1 b2 b3;rw[<-hK];rcases n with _|_|_|_|n <;> first|omega|rfl
 have hkk:∀b1 b2 b3,(K b1 b2 b3).length=28:=λb1 b2 b3=>by rw[<-hK];rfl
 clear hK;obtain rfl|rfl|rfl|rfl:n=0\/n=1\/n=2\/n=3:=by omega
 all_goals
  simp only[bsel,ktx,klo,khi]at hsub hlo hhi ⊢;refine yJ Tryz.func151 rfl rfl ?_
  repeat'(first|apply zE|apply zD|apply zC|refine jr ?_|refine jg ?_ ?_|(apply jm;exact jI)|(apply jl;exact jI)|(apply js;exact jJ)|refine jy ?_|(refine jc ?_ (c:=by exact⟨_,hKd _,jN⟩);rintro _ _ ⟨A0,b1,b2,b3,rfl,rfl⟩)|refine jw ?_|refine jk ?_|(apply rX;(iterate 3 exact rfl);all_goals intro hc)|(apply zX;exact rfl)|apply zB|apply zL|apply zJ|exact jO|((with_reducible apply Ln.mk);first|rfl|(simp[hkk];first|done|omega))|((with_reducible apply Ce.mk);first|exact hlo _ _ _|exact hhi _ _ _)|exact jP|((with_reducible apply Su.mk);first|exact hsub _ _ _)|exact True.intro|refine Rc.mk ⟨_,_,pk,?_⟩|exact Or.inl rfl|apply And.intro|apply Or.inr|intro A|exact rfl)
  all_goals first|exact jX|(apply yA;(exact(show zO _ _ _ _ [_,_] from(sG zK rfl rfl rfl (by exact pk) (by first|rfl|exact ‹_›|omega|(simp[hkk];first|done|omega)) (by first|rfl|exact ‹_›|omega|(simp[hkk];first|done|omega)) ⟨rfl,trivial⟩)));exact⟨_,congrArg (λz=>Value.tuple #[_,B z]) (decide_eq_false (by omega)).symm,rfl⟩;(focus repeat(first|with_reducible exact zA.nil|with_reducible apply zA.c|with_reducible apply zA.drop)))|(apply yA;(exact(show zO _ _ _ _ [_,_] from(sG zK rfl rfl rfl (by exact pk) (by first|rfl|exact ‹_›|omega|(simp[hkk];first|done|omega)) (by first|rfl|exact ‹_›|omega|(simp[hkk];first|done|omega)) ⟨rfl,trivial⟩)));exact⟨_,congrArg (λz=>Value.tuple #[_,B z]) (decide_eq_decide.2 (by omega)),rfl⟩;(focus repeat(first|with_reducible exact zA.nil|with_reducible apply zA.c|with_reducible apply zA.drop)))
theorem zEw (n:Int)(w:Int)(h:SH)(hn:¬(0<=n/\n<4)):zH Tryz.prog 151 [I n,I w] h λr q=>r=.tuple #[.agg ⟨[I 0,I 0,.nilFunc,.nilFunc,.nilFunc,.nilFunc,S []]⟩,B false]/\q=h:=by
 refine yJ Tryz.func151 rfl rfl ?_
 repeat'(first|apply zE|apply zD|apply zC|refine jg ?_ ?_|(apply js;exact jJ)|refine jy ?_|(apply xZ zK;exact rfl;exact rfl;(focus first|with_reducible exact zNl);exact rfl;(focus repeat(first|exact yT.nil));exact rfl)|(refine jc ?_ (c:=by exact⟨_,zPg _,jN⟩);rintro _ _ ⟨A0,b1,b2,b3,rfl,rfl⟩)|refine jw ?_|refine jk ?_|(apply vJ;(iterate 3 exact rfl);all_goals intro hc)|(apply yO;exact rfl)|refine jd ?_|apply zB|apply zV|apply zJ|exact jS|exact jL|exact jP|exact True.intro|intro A)
 all_goals first|exact jX|(apply yA;(exact(show zO _ _ _ _ [_,_] from jY));exact⟨rfl,rfl⟩;(focus repeat(first|with_reducible exact zA.nil|with_reducible apply zA.c|with_reducible apply zA.drop)))
def vty (k w:Int):Bool:=decide (0<=k/\k<4/\klo k.toNat<=w/\w<=khi k.toNat)
theorem zFd (k:Int):(k=(0:Nat)\/k=(1:Nat)\/k=(2:Nat)\/k=(3:Nat))\/¬(0<=k/\k<4):=by omega
theorem zBz (n:Nat)(w:Int)(hn:n<4):vty n w=decide (klo n<=w/\w<=khi n):=by
 unfold vty;rw[Int.toNat_natCast,decide_eq_decide];constructor
 ·intro g;exact g.2.2
 ·intro g;exact⟨by omega,by omega,g⟩
theorem zAf {k w:Int}(h:¬(0<=k/\k<4)):vty k w=false:=decide_eq_false λg=>h ⟨g.1,g.2.1⟩
theorem zHv (k w:Int)(h:SH):zH Tryz.prog 113 [I k,I w] h λr q=>r=B (vty k w)/\q=h:=by
 rcases zFd k with(rfl|rfl|rfl|rfl)|hk
 all_goals try rw[zAf hk]
 all_goals try rw[zBz _ w (by decide)]
 all_goals
  refine yJ Tryz.func113 rfl rfl ?_
  repeat'(first|apply zE|apply zD|apply zC|refine jg ?_ ?_|(apply js;exact jJ)|refine jy ?_|(refine jc ?_ (c:=by exact⟨_,zBp _ w _ (by decide),jN⟩);rintro _ _ ⟨b,rfl,rfl⟩)|refine jq ?_ (c:=by exact⟨_,zEw _ w _ hk,jN⟩)|apply zB|apply zJ|exact jS|exact jL|exact jP|exact True.intro|intro A)
  all_goals first|exact jX|exact jG
def ini (k w:Int):List UInt8:=if vty k w=true then(if k=0 then oE w 120 else ktx k.toNat)else []
theorem yEh (w:Int)(h:SH):zH Tryz.prog 250 [I w] h λr q=>r=S (oE w 120)/\q=h:=by
 refine yG Tryz.func250 rfl rfl ?_
 repeat'(first|apply zE|apply zD|apply zC|refine jg ?_ ?_|refine jq ?_ (c:=by exact⟨_,yOd w 120 _ (by decide),jN⟩)|apply zB|apply zJ|exact jS|fail)
 all_goals first|exact jX|exact jG
theorem fW (k w:Int)(h:SH):zH Tryz.prog 90 [I k,I w] h λr q=>r=S (ini k w)/\q=h:=by
 unfold ini;rcases zFd k with(rfl|rfl|rfl|rfl)|hk
 all_goals try rw[zAf hk]
 all_goals try rw[zBz _ w (by decide)]
 all_goals
  refine yJ Tryz.func90 rfl rfl ?_
  repeat'(first|apply zE|apply zD|apply zC|refine jg ?_ ?_|(apply mU;exact rfl;exact rfl)|(apply yS;exact rfl;exact rfl)|(apply jm;exact jI)|(apply js;exact jJ)|refine jy ?_|(refine jc ?_ (c:=by exact⟨_,zBp _ w _ (by decide),jN⟩);rintro _ _ ⟨b,rfl,rfl⟩)|refine jq ?_ (c:=by exact⟨_,zEw _ w _ hk,jN⟩)|refine jq ?_ (c:=by exact⟨_,yEh w _,jN⟩)|refine jq ?_ (c:=by exact⟨_,yLz w _ _ _ _ .head,jC⟩)|(apply yO;exact rfl)|(apply mA;exact rfl;all_goals intro hc)|apply zB|apply zV|apply zL|apply zJ|exact jS|exact jL|exact jE|exact jP|exact True.intro|intro A|exact rfl)
  all_goals first|exact jX|exact jG|exact jF (k:=by exact⟨congrArg S (if_neg (by rw[decide_eq_true_eq];exact hc)).symm,rfl⟩)|exact jF (k:=by exact⟨congrArg S (if_pos (decide_eq_true hc)).symm,rfl⟩)

theorem zSe {P:Program}{f:FuncId}{xs:List Value}{p:SH}{R:Value->SH->Prop}(k:zH P f xs p λr q=>∃q',R r q'/\zA q q'):zH P f xs p R:=by
 unfold zH at k ⊢;intro H i;exact(k H i).mono λr H' ⟨q,⟨q',g1,g2⟩,g3⟩=>⟨q',g1,g3.le g2.le⟩
theorem iB (n5 n1:Nat)(set s:List UInt8)(p:Nat)(h h1:SH)[hpk:Pick h n1 ⟨[S s],false⟩ h1](hs:s.length<=1000)(hset:set.length<=10)(hp:p<=s.length) :
  zH Tryz.prog 342 [S set,zG n5 0 1,zG n1 0 1] ((n5,⟨[I p],false⟩)::h) λr q=>∃(b:Bool) (p':Nat),p'<=s.length/\r=B b/\q=(n5,⟨[I p'],false⟩)::h:=by
 by_cases hno:p=s.length\/∀i:Nat,i<set.length->bat s (p:Int)≠bat set (i:Int)
 ·exact(pK n5 n1 set s p h h1 hs hset hp hno).mono λr q ⟨e1,e2⟩=>⟨false,p,hp,e1,e2⟩
 ·have hpl:p<s.length:=by
   rcases Nat.lt_or_ge p s.length with g|g
   ·exact g
   ·exact absurd (.inl (by omega)) hno
  obtain⟨i,hi⟩:=Classical.not_forall.1 λg=>hno (.inr g);obtain⟨hi1,hi2⟩:=Classical.not_imp.1 hi;exact(kO n5 n1 set s p i h h1 hs hset hpl hi1 (Classical.not_not.1 hi2).symm).mono λr q ⟨e1,e2⟩=>⟨true,p+1,hpl,e1,e2⟩
theorem zSw (s:List UInt8):∀(d p:Nat),p+d=s.length->∃k,p+k<=s.length/\(∀j:Nat,p<=j->j<p+k->48<=bat s (j:Int)/\bat s (j:Int)<=57)/\(p+k=s.length\/bat s ((p+k:Nat):Int)<48\/57<bat s ((p+k:Nat):Int))
 |0,p,h=>⟨0,by omega,λj g1 g2=>by omega,.inl (by omega)⟩
 |d+1,p,h=>by
  by_cases hc:48<=bat s (p:Int)/\bat s (p:Int)<=57
  ·obtain⟨k,h1,h2,h3⟩:=zSw s d (p+1) (by omega)
   refine⟨k+1,by omega,λj g1 g2=>?_,by rw[show p+(k+1)=p+1+k by omega];exact h3⟩;by_cases e:j=p
   ·rw[e];exact hc
   ·exact h2 j (by omega) (by omega)
  ·exact⟨0,by omega,λj g1 g2=>by omega,.inr (by show bat s (p:Int)<48\/57<bat s (p:Int);omega)⟩
theorem zAv (n5 n1:Nat)(s:List UInt8)(p:Nat)(h h1:SH)[hpk:Pick h n1 ⟨[S s],false⟩ h1](hs:s.length<=1000)(hp:p<=s.length) :
  zH Tryz.prog 343 [zG n5 0 1,zG n1 0 1] ((n5,⟨[I p],false⟩)::h) λr q=>∃(w:List UInt8) (p':Nat),(p'<=s.length/\isD w/\w.length<=s.length)/\r=S w/\q=(n5,⟨[I p'],false⟩)::h:=by
 obtain⟨k,h3,h4,h5⟩:=zSw s (s.length-p) p (by omega);refine(kV n5 n1 s p k h h1 hs h3 h4 h5).mono λr q ⟨e1,e2⟩=>⟨_,p+k,⟨h3,λb hb=>?_,?_⟩,e1,e2⟩
 ·obtain⟨j,hj,e⟩:=List.mem_iff_getElem.1 hb
  have hj2:j<k:=by rw[List.length_take]at hj;omega
  have:=h4 (p+j) (by omega) (by omega);rw[aH (by omega)]at this;rw[<-e,List.getElem_take,List.getElem_drop];omega
 ·rw[List.length_take,List.length_drop];omega
def Scn (h:SH)(r:Value)(q:SH):Prop :=
 (∃(M:Nm) (ok:Bool),r=.tuple #[nmV M.1 (.slice none 0 0) M.2.2,B ok]/\q=h/\(ok=true->okT M/\M.2.1=[])) \/
 ∃(M:Nm) (ok:Bool) (A off n fl:Nat) (bs:List UInt8),r=.tuple #[nmV M.1 (gsl A off bs.length n fl) M.2.2,B ok]/\q=(A,⟨zS bs,false⟩)::h /\
  (ok=true->okT M/\n=M.2.1.length/\Dg q (gsl A off bs.length n fl) M.2.1/\n<=1000/\-4000000<=M.2.2/\M.2.2<=4000000)
theorem yNb (s:List UInt8)(h:SH)(hs:s.length<=9223372036854775807):zH Tryz.prog 314 [S s] h (Scn h):=by
 by_cases h64:s.length<=64
 ·refine yG Tryz.func314 rfl rfl ?_
  repeat'((fail_if_success (show SWp _ _ (Code.seq (Code.region 7 _ _) _) _ _ _));(fail_if_success (show SWp _ _ (Code.region 7 _ _) _ _ _));first|apply zE|apply zD|apply zC|refine jg ?_ ?_|(apply jm;exact jI)|(apply yV zK;(iterate 4 exact rfl);exact up)|refine jy ?_|refine jx ?_|(apply rK;iterate 3 exact rfl)|refine jf ?_|apply zB|apply zL|exact jS|exact jL|exact jE|((with_reducible apply Se.mk);first|(focus(repeat(first|exact yD.zero));done))|exact True.intro|intro A|exact rfl)
  all_goals try exact jX
  rename_i n1 n2 n4;obtain⟨n5,rfl⟩:∃m,m=A:=⟨_,rfl⟩
  repeat'((fail_if_success (show SWp _ _ (Code.cond (Operand.tmp 22) _ _) _ _ _));first|apply zE|apply zD|apply zC|refine jg ?_ ?_|(refine jc ?_ (c:=by exact⟨_,iB n5 n1 [45] s 0 _ _ (hpk:=.tail (.tail .head)) (by omega) (by decide) (by omega),jC⟩);rintro _ _ ⟨neg,p0,hp0,rfl,rfl⟩)|apply zB|exact jS|fail)
  all_goals try exact jX
  refine rH (S:=Nat) (λp=>[(1,zG n1 0 1),(2,zG n2 0 3),(4,zG n4 0 3),(5,zG n5 0 1),(6,.func (.func 342) #[] #[zG n5 0 1,zG n1 0 1]),(7,.func (.func 343) #[] #[zG n5 0 1,zG n1 0 1])])
   (λp=>(n5,⟨[I p],false⟩)::(n4,⟨[B neg,.slice none 0 0,I 0],false⟩)::(n2,⟨zNm,false⟩)::(n1,⟨[S s],false⟩)::h) (λp=>p<=s.length) ?_ ?_
  ·cases neg
   ·repeat'(first|apply zD|apply zC|refine jg ?_ ?_|(refine jc ?_ (c:=by exact⟨_,iB n5 n1 [43] s p0 _ _ (hpk:=.tail (.tail .head)) (by omega) (by decide) (by omega),jN⟩);rintro _ _ ⟨b,p1,hp1,rfl,rfl⟩)|(apply zX;exact rfl)|apply zB|exact jS|fail)
    all_goals try exact jX
    exact⟨p1,hp1,jB,jK⟩
   ·repeat'(first|apply zD|apply zC|refine jg ?_ ?_|(apply yV zK;(iterate 4 exact rfl);exact up)|(apply yO;exact rfl)|apply zB|exact jS|exact jL|((with_reducible apply Se.mk);first|(focus(repeat(first|exact yD.zero));done))|exact True.intro)
    all_goals try exact jX
    exact⟨p0,hp0,jB,jK⟩
  intro p1 hp1
  repeat'((fail_if_success (show SWp _ _ (Code.seq (Code.region 14 _ _) _) _ _ _));(fail_if_success (show SWp _ _ (Code.region 14 _ _) _ _ _));first|apply zE|apply zD|apply zC|refine jg ?_ ?_|(apply jm;exact jI)|(apply jl;exact jI)|(apply yV zK;(iterate 4 exact rfl);exact up)|(apply js;exact jJ)|(apply zFp zK;iterate 7 exact rfl)|(refine jc ?_ (c:=by exact⟨_,zAv n5 n1 s p1 _ _ (hpk:=.tail (.tail .head)) (by omega) (by omega),jN⟩);rintro _ _ ⟨w,p2,⟨hp2,hw,hwl⟩,rfl,rfl⟩)|(apply vA;exact rfl;all_goals intro hc)|apply zB|apply zV|apply zL|apply zJ|((with_reducible apply Sd.mk);first|exact True.intro|exact⟨List.length_pos_iff.2 hc,by omega,by unfold maxLen;omega⟩)|exact jL|exact jE|exact jZ|exact jP|exact jU|exact True.intro|intro A|exact rfl)
  all_goals first|exact jX|(apply yA;(exact(show zO _ _ _ _ [_,_] from jY));exact .inl ⟨(neg,[],0),false,rfl,rfl,λg=>by cases g⟩;(focus repeat(first|with_reducible exact zA.nil|with_reducible apply zA.c|with_reducible apply zA.drop)))|skip
  obtain⟨B0,rfl⟩:∃m,m=A:=⟨_,rfl⟩;have hw0:=List.length_pos_iff.2 hc;clear hc;refine rH (S:=Nat × List UInt8 × Int) (λx=>[(1,zG n1 0 1),(2,zG n2 0 3),(4,zG n4 0 3),(5,zG n5 0 1),(6,.func (.func 342) #[] #[zG n5 0 1,zG n1 0 1]),(7,.func (.func 343) #[] #[zG n5 0 1,zG n1 0 1])])
   (λx=>(n5,⟨[I x.1],false⟩)::(B0,⟨zS x.2.1,false⟩)::(n4,⟨[B neg,gsl B0 0 x.2.1.length x.2.1.length 1,I x.2.2],false⟩)::(n2,⟨zNm,false⟩)::(n1,⟨[S s],false⟩)::h) (λx=>x.1<=s.length/\x.2.1≠[]/\isD x.2.1/\x.2.1.length<=128/\-64<=x.2.2/\x.2.2<=0) ?_ ?_
  ·repeat'(first|apply zE|apply zD|apply zC|refine jg ?_ ?_|(apply ja;exact jH)|(apply jm;exact jI)|(apply jl;exact jI)|(apply yV zK;(iterate 4 exact rfl);exact up)|(apply js;exact jJ)|(apply zNo zK;(iterate 8 exact rfl);exact up)|(refine jc ?_ (c:=by exact⟨_,iB n5 n1 [46] s p2 _ _ (hpk:=.tail (.tail (.tail .head))) (by omega) (by decide) (by omega),jC⟩);rintro _ _ ⟨b,p3,hp3,rfl,rfl⟩)|(refine jc ?_ (c:=by exact⟨_,zAv n5 n1 s p3 _ _ (hpk:=.tail (.tail (.tail .head))) (by omega) (by omega),jN⟩);rintro _ _ ⟨u,p4,⟨hp4,hu,hul⟩,rfl,rfl⟩)|(apply vA;exact rfl;all_goals intro hc)|(apply uO;exact rfl;all_goals intro hc)|apply zB|apply zV|apply zL|apply zJ|((with_reducible apply Sd.mk);first|exact True.intro|(constructor <;> first|omega|(unfold maxLen;omega)))|((with_reducible apply Ln.mk);first|rfl|omega|(simp ;first|done|omega))|exact jW|exact jE|exact jZ|exact jP|exact jU|exact True.intro|exact rfl)
   all_goals first|exact jX|(apply yA;(exact(show zO _ _ _ _ [_,_] from jY));exact .inr ⟨(neg,w,0),false,B0,0,w.length,1,w,rfl,rfl,λg=>by cases g⟩;(focus repeat(first|with_reducible exact zA.nil|with_reducible apply zA.c|with_reducible apply zA.drop)))|skip
   ·refine⟨(p4,w++u,0-(u.length:Int)),⟨hp4,λg=>?_,zPr.2 ⟨hw,hu⟩,?_,?_,?_⟩,jB,?_⟩
    ·have:=congrArg List.length g;rw[List.length_append]at this;have:w.length+u.length=0:=this;omega
    ·show(w++u).length<=128;rw[List.length_append];omega
    ·show(-64:Int)<=0-u.length;omega
    ·show(0:Int)-u.length<=0;omega
    apply zA.c;apply zA.cE (congrArg (λx=>Blk.mk x false) yPl.symm);apply zA.cE (congrArg (λx=>Blk.mk x false) (show _=[B neg,gsl B0 0 (w++u).length (w++u).length 1,I (0-(u.length:Int))] by congr 2;exact vR rfl rfl (by rw[List.length_append];omega) (by rw[List.length_append]) rfl));exact jK
   ·exact⟨(p3,w,0),⟨hp3,List.length_pos_iff.1 hw0,hw,by show w.length<=128;omega,by show(-64:Int)<=0;decide,by show(0:Int)<=0;decide⟩,jB,jK⟩
  rintro⟨p,ds,e⟩ ⟨hp,hd0,hdD,hdl,he1,he2⟩;dsimp only at hp hd0 hdD hdl he1 he2 ⊢;clear hw hwl hw0 w;have hlb:(zS ds).length=ds.length:=by unfold zS;rw[List.length_map]
  apply zE;refine rH (S:=Nat × Int) (λx=>[(1,zG n1 0 1),(2,zG n2 0 3),(4,zG n4 0 3),(5,zG n5 0 1)])
   (λx=>(n5,⟨[I x.1],false⟩)::(B0,⟨zS ds,false⟩)::(n4,⟨[B neg,gsl B0 0 ds.length ds.length 1,I x.2],false⟩)::(n2,⟨zNm,false⟩)::(n1,⟨[S s],false⟩)::h) (λx=>x.1<=s.length/\-3000000<=x.2/\x.2<=3000000) ?_ ?_
  ·repeat'((fail_if_success (show SWp _ _ (Code.cond (Operand.tmp 57) _ _) _ _ _));first|apply zE|apply zD|apply zC|refine jg ?_ ?_|(apply yS;exact rfl;exact rfl)|(refine jc ?_ (c:=by exact⟨_,iB n5 n1 [101,69] s p _ _ (hpk:=.tail (.tail (.tail .head))) (by omega) (by decide) (by omega),jN⟩);rintro _ _ ⟨b,p5,hp5,rfl,rfl⟩)|(refine jc ?_ (c:=by exact⟨_,iB n5 n1 [45] s p5 _ _ (hpk:=.tail (.tail (.tail .head))) (by omega) (by decide) (by omega),jN⟩);rintro _ _ ⟨dn,p6,hp6,rfl,rfl⟩)|(apply uO;exact rfl;all_goals intro hc)|apply zB|apply zL|exact jS|fail)
   all_goals first|exact jX|exact⟨(p5,e),⟨hp5,by show -3000000<=e;omega,by show e<=3000000;omega⟩,jB,jK⟩|skip
   refine rH (S:=Nat) (λx=>[(1,zG n1 0 1),(2,zG n2 0 3),(4,zG n4 0 3),(5,zG n5 0 1),(10,B dn),(7,.func (.func 343) #[] #[zG n5 0 1,zG n1 0 1])]) (λx=>(n5,⟨[I x],false⟩)::(B0,⟨zS ds,false⟩)::(n4,⟨[B neg,gsl B0 0 ds.length ds.length 1,I e],false⟩)::(n2,⟨zNm,false⟩)::(n1,⟨[S s],false⟩)::h) (λx=>x<=s.length) ?_ ?_
   ·cases dn
    ·repeat'(first|apply zD|apply zC|refine jg ?_ ?_|(refine jc ?_ (c:=by exact⟨_,iB n5 n1 [43] s p6 _ _ (hpk:=.tail (.tail (.tail .head))) (by omega) (by decide) (by omega),jN⟩);rintro _ _ ⟨b8,p7,hp7,rfl,rfl⟩)|(apply yO;exact rfl)|apply zB|exact jS|fail)
     all_goals first|exact jX|exact⟨p7,hp7,jB,jK⟩
    ·repeat'(first|(apply zX;exact rfl)|apply zB|apply zL)
     all_goals first|exact jX|exact⟨p6,hp6,jB,jK⟩
   intro p7 hp7
   repeat'(first|apply zE|apply zD|apply zC|refine jg ?_ ?_|(apply jl;exact jI)|(apply js;exact jJ)|(apply zPw zK;iterate 7 exact rfl)|(refine jc ?_ (c:=by exact⟨_,zAv n5 n1 s p7 _ _ (hpk:=.tail (.tail (.tail .head))) (by omega) (by omega),jN⟩);rintro _ _ ⟨u,p8,⟨hp8,hu,hul⟩,rfl,rfl⟩)|(apply vA;exact rfl;all_goals intro hc)|apply zB|apply zV|apply zL|apply zJ|apply zM|((with_reducible apply Sd.mk);first|exact True.intro|(unfold maxLen;omega))|exact jL|exact jP|exact jU|exact True.intro|intro A|exact rfl)
   all_goals first|exact jX|(apply yA;(exact(show zO _ _ _ _ [_,_] from jY));exact .inr ⟨(neg,ds,e),false,B0,0,ds.length,1,ds,rfl,rfl,λg=>by cases g⟩;(focus repeat(first|with_reducible exact zA.nil|with_reducible apply zA.c|with_reducible apply zA.drop)))|skip
   refine yH (S:=Nat × Int) (λx=>[(1,zG n1 0 1),(2,zG n2 0 3),(4,zG n4 0 3),(5,zG n5 0 1),(10,B dn),(12,I x.2),(66,gsl A 0 u.length u.length 1),(67,I u.length),(68,I x.1)])
    (λx=>(A,⟨zS u,false⟩)::(n5,⟨[I p8],false⟩)::(B0,⟨zS ds,false⟩)::(n4,⟨[B neg,gsl B0 0 ds.length ds.length 1,I e],false⟩)::(n2,⟨zNm,false⟩)::(n1,⟨[S s],false⟩)::h) (λx=>x.1<=u.length/\0<=x.2/\x.2<=1048576) (λx=>u.length-x.1) (0,0) ⟨Nat.zero_le _,by decide,by decide⟩ jB jK ?_
   rintro⟨i,E⟩ ⟨hi,hE1,hE2⟩;dsimp only at hi hE1 hE2 ⊢;have hb:=uG u (i:Int);by_cases hil:i<u.length
   ·have hc:=iM hu hil
    repeat'(first|apply zE|apply zD|apply zC|refine jg ?_ ?_|(apply ja;exact jH)|(apply pU;iterate 3 exact rfl)|(apply jm;exact jI)|refine jd ?_|apply zB|apply zQ|apply zL|apply zM|exact jO|((with_reducible apply Ln.mk);first|(simp ;first|done|omega))|((with_reducible apply Wr.mk);first|exact IntWalk.i64_in _ (by omega)|exact IntWalk.u8_in _ (by omega))|((with_reducible apply Ce.mk);first|exact aJ (by omega))|exact True.intro|exact rfl)
    all_goals try exact jX
    exact⟨(i+1,min 1048576 (10*E+(bat u (i:Int)-48))),⟨hil,by show 0<=min (1048576:Int) (10*E+(bat u (i:Int)-48));omega,by show min (1048576:Int) (10*E+(bat u (i:Int)-48))<=1048576;omega⟩,by show u.length-(i+1)<u.length-i;omega,jB,jK⟩
   ·cases dn
    ·repeat'(first|apply zE|apply zD|apply zC|refine jg ?_ ?_|(apply ja;exact jH)|(apply jm;exact jI)|(apply yV zK;(iterate 4 exact rfl);exact up)|(apply zX;exact rfl)|refine jf ?_|apply zB|apply zW|apply zT|apply zL|apply zU|exact jS|exact jL|exact jW|exact jE|exact jZ|exact True.intro|exact rfl)
     all_goals first|exact jX|exact⟨(p8,e+E),⟨hp8,by show -3000000<=e+E;omega,by show e+E<=3000000;omega⟩,jB,jK⟩
    ·repeat'(first|apply zE|apply zD|apply zC|refine jg ?_ ?_|(apply ja;exact jH)|(apply jm;exact jI)|(apply yV zK;(iterate 4 exact rfl);exact up)|(apply yO;exact rfl)|refine jf ?_|apply zB|apply zW|apply zT|apply zU|exact jS|exact jL|exact jW|exact jE|exact jZ|exact True.intro|exact rfl)
     all_goals first|exact jX|exact⟨(p8,e+(0-E)),⟨hp8,by show -3000000<=e+(0-E);omega,by show e+(0-E)<=3000000;omega⟩,jB,jK⟩
  rintro⟨p9,e9⟩ ⟨hp9,he3,he4⟩;dsimp only at hp9 he3 he4 ⊢;have hdp:=List.length_pos_iff.2 hd0;have hok:=yFt (a:=(neg,ds,e9)) hdD;by_cases hz:zl ds=[]
  ·have htr:=zTe neg e9 B0 0 1 ds ds false ((n5,⟨[I p9],false⟩)::(B0,⟨zS ds,false⟩)::(n4,⟨[B neg,gsl B0 0 ds.length ds.length 1,I e9],false⟩)::(n2,⟨zNm,false⟩)::(n1,⟨[S s],false⟩)::h) _ (hp:=.tail .head) (by omega) (by omega) List.take_length hd0 (by omega) hz
   repeat'(first|apply zE|apply zC|refine jr ?_|refine jg ?_ ?_|(apply jm;exact jI)|(apply jl;exact jI)|(apply js;exact jJ)|(apply kB;(iterate 4 exact rfl);exact⟨htr,jN⟩;(focus first|exact List.Perm.refl _);(focus(intro ρ D hρ hD;refine⟨?_,?_⟩;(focus repeat(first|exact VR.const rfl));(focus repeat(first|((apply SHR.same);(focus intro x hx;(repeat(first|exact hx));done)))))))|apply zB|apply zJ|exact jS|exact jL|exact jE|exact jP|exact jU|exact True.intro|refine Rc.mk ⟨_,_,pk,?_⟩|exact Or.inl rfl|refine Or.inr (And.intro ?_ ?_)|apply And.intro|apply Or.inr|exact rfl)
   all_goals try exact jX
   (apply yA;(exact(show zO _ _ _ _ [_,_] from jY));exact .inl ⟨(false,[],0),decide ((p9:Int)=s.length),rfl,rfl,λ_=>⟨⟨λ_ k=>(by cases k),λ_ k=>(by cases k),λ_ k=>(by cases k),λ_=>rfl⟩,rfl⟩⟩;(focus repeat(first|with_reducible exact zA.nil|with_reducible apply zA.c|with_reducible apply zA.drop)))
  ·have htr:=zTs neg e9 B0 0 1 ds ds false ((n5,⟨[I p9],false⟩)::(B0,⟨zS ds,false⟩)::(n4,⟨[B neg,gsl B0 0 ds.length ds.length 1,I e9],false⟩)::(n2,⟨zNm,false⟩)::(n1,⟨[S s],false⟩)::h) _ (hp:=.tail .head) (by omega) (by omega) List.take_length hd0 (by omega) hz
   obtain⟨z1,z2,z3,z4⟩:=zGm ds hdD;obtain⟨k,y1,y2,-,-⟩:=bV (zl ds);obtain⟨j,x1,x2,-,-⟩:=fY ds;have hy1:(zr (zl ds)).length=k:=by rw[y1,List.length_take];omega
   have hx1:(zl ds).length=ds.length-j:=by rw[x1,List.length_drop]
   have hne:=zAh _ hz;have hM:trD (neg,ds,e9)=(neg,zr (zl ds),e9+(zl ds).length-(zr (zl ds)).length):=if_neg (λg=>by rw[g]at hne;exact absurd hne (by decide));rw[hM]at hok;have hdg:∀q,(∃q1,Pick q B0 ⟨zS ds,false⟩ q1)->Dg q (gsl B0 (0+(ds.length-(zl ds).length)) ds.length (zr (zl ds)).length 0) (zr (zl ds)):=λq ⟨q1,hq⟩=>.inr ⟨λg=>by rw[g]at hne;exact absurd hne (by decide),B0,_,0,ds,false,q1,rfl,hq,by omega,by
    rw[hy1,Nat.zero_add,hx1,show ds.length-(ds.length-j)=j by omega,<-x1,<-y1]⟩
   have hee:e9+(((zl ds).length:Int)-((zr (zl ds)).length:Int))=e9+(zl ds).length-(zr (zl ds)).length:=by omega
   rw[hee]at htr;have hkb:(zr (zl ds)).length<=1000:=by omega
   have heb:-4000000<=e9+((zl ds).length:Int)-(zr (zl ds)).length/\e9+((zl ds).length:Int)-(zr (zl ds)).length<=4000000:=by omega
   generalize zr (zl ds)=D at *;generalize (0+(ds.length-(zl ds).length))=o at *;generalize e9+((zl ds).length:Int)-D.length=E at *
   repeat'(first|apply zE|apply zC|refine jr ?_|refine jg ?_ ?_|(apply jm;exact jI)|(apply jl;exact jI)|(apply js;exact jJ)|(apply kB;(iterate 4 exact rfl);exact⟨htr,jN⟩;(focus first|exact List.Perm.refl _);(focus(intro ρ D hρ hD;refine⟨?_,?_⟩;(focus repeat(first|exact VR.const rfl|(apply VR.slc';(focus first|((apply zGs hρ);(exact pk)));(focus first|((apply zCv hD);(exact pk))))|apply VRs.agg|exact VRs.nil|apply VRs.cons));(focus repeat(first|((apply SHR.same);(focus intro x hx;(repeat(first|exact hx));done)))))))|apply zB|apply zJ|exact jS|exact jL|exact jE|exact jP|exact jU|exact True.intro|refine Rc.mk ⟨_,_,pk,?_⟩|exact Or.inl rfl|refine Or.inr (And.intro ?_ ?_)|apply And.intro|apply Or.inr|exact rfl)
   all_goals try exact jX
   (apply yA;(exact(show zO _ _ _ _ [_,_] from jY));exact .inr ⟨(neg,D,E),decide ((p9:Int)=s.length),B0,o,D.length,0,ds,rfl,rfl,λ_=>⟨hok.1,rfl,hdg _ ⟨_,.head⟩,hkb,heb⟩⟩;(focus repeat(first|with_reducible exact zA.nil|with_reducible apply zA.c|with_reducible apply zA.drop)))
 ·refine yG Tryz.func314 rfl rfl ?_
  repeat'(first|apply zE|apply zD|apply zC|refine jg ?_ ?_|(apply jm;exact jI)|(apply jl;exact jI)|(apply js;exact jJ)|refine jy ?_|refine jx ?_|refine jd ?_|apply zB|apply zV|apply zJ|exact jS|exact jL|exact jE|exact jP|exact jU|exact True.intro|intro A|exact rfl)
  all_goals first|exact jX|(apply yA;(exact(show zO _ _ _ _ [_,_] from jY));exact .inl ⟨(false,[],0),false,rfl,rfl,λg=>by cases g⟩;(focus repeat(first|with_reducible exact zA.nil|with_reducible apply zA.c|with_reducible apply zA.drop)))
def fA (s:List UInt8):Prop:=∃M:Nm,okT M/\okN M/\ctx M=s
theorem yAi (s:List UInt8)(h:SH)(hs:s.length<=9223372036854775807)(hno:¬fA s):zH Tryz.prog 312 [S s] h λr q=>∃a ad n fl e,r=.tuple #[nmV a (.slice ad n fl) e,B false]/\q=h:=by
 have hX:=λM v h hd=>zRu M v h hd;have htx:∀M:Nm,okT M->¬((txN M).2=0/\(txN M).1=s):=by
  intro M hM ⟨g1,g2⟩;unfold txN at g1 g2;by_cases ho:okN M
  ·rw[if_pos ho]at g2
   exact hno ⟨M,hM,ho,g2⟩
  ·rw[if_neg ho]at g1
   exact absurd g1 (by decide)
 refine yG Tryz.func312 rfl rfl ?_
 repeat'((fail_if_success (show SWp _ _ (Code.seq (Code.region 4 _ _) _) _ _ _));(fail_if_success (show SWp _ _ (Code.region 4 _ _) _ _ _));first|apply zE|apply zD|apply zC|refine jg ?_ ?_|(apply yS;exact rfl;exact rfl)|(apply js;exact jJ)|refine jy ?_|(apply xZ zK;exact rfl;exact rfl;(focus first|with_reducible exact zKs);exact rfl;(focus repeat(first|exact yT.nil));exact rfl)|(refine jc ?_ (c:=by exact⟨_,yNb s _ hs,jN⟩);rintro _ _ (⟨M,ok,rfl,rfl,hok⟩|⟨M,ok,A2,off,n,fl,bs,rfl,rfl,hok⟩))|(apply uO;exact rfl;all_goals intro hc)|apply zB|apply zV|apply zL|apply zJ|exact jS|exact jL|exact jP|exact True.intro|intro A)
 all_goals first|exact jX|(apply yA;(exact(show zO _ _ _ _ [_,_] from jY));exact⟨_,_,_,_,_,rfl,rfl⟩;(focus repeat(first|with_reducible exact zA.nil|with_reducible apply zA.c|with_reducible apply zA.drop)))|skip
 ·obtain⟨hM,h0⟩:=hok (by simpa using hc)
  have hz:=hM.z h0;have hT:=λh=>hX M (.slice none 0 0) h (.inl ⟨h0,rfl⟩) (by rw[h0];decide) (by rw[hz];decide);have h2:=htx M hM;generalize txN M=T at hT h2;obtain⟨t,e⟩:=T;obtain⟨m1,m2,m3⟩:=M;dsimp only at *
  repeat'(first|apply zE|apply zD|apply zC|refine jg ?_ ?_|(apply jl;exact jI)|(apply js;exact jJ)|refine jq ?_ (c:=by exact⟨_,hT _,jN⟩)|refine jw ?_|refine jk ?_|(apply rX;(iterate 3 exact rfl);all_goals intro hc)|apply zB|apply zJ|exact jS|exact jL|exact jP|exact jU|exact True.intro|exact rfl)
  all_goals first|exact jX|(apply yA;(exact(show zO _ _ _ _ [_,_] from jY));exact⟨_,_,_,_,_,rfl,rfl⟩;(focus repeat(first|with_reducible exact zA.nil|with_reducible apply zA.c|with_reducible apply zA.drop)))|(apply yA;(exact(show zO _ _ _ _ [_,_] from jY));exact⟨_,_,_,_,_,congrArg (λz=>Value.tuple #[_,B z]) (decide_eq_false λg=>h2 ⟨by assumption,g⟩),rfl⟩;(focus repeat(first|with_reducible exact zA.nil|with_reducible apply zA.c|with_reducible apply zA.drop)))
 ·obtain⟨hM,rfl,hd,hb1,hb2⟩:=hok (by simpa using hc)
  have hT:=λh hd=>hX M (gsl A2 off bs.length M.2.1.length fl) h hd (by omega) hb2;have h2:=htx M hM;generalize txN M=T at hT h2;obtain⟨t,e⟩:=T;obtain⟨m1,m2,m3⟩:=M;dsimp only at *
  repeat'(first|apply zE|apply zD|apply zC|refine jg ?_ ?_|(apply jl;exact jI)|(apply js;exact jJ)|(apply zZ;exact rfl;exact rfl;exact rfl;exact rfl;exact⟨_,hT _ (hd.re jK),zA.nil⟩;rintro _ _ ⟨rfl,rfl⟩)|refine jw ?_|refine jk ?_|(apply rX;(iterate 3 exact rfl);all_goals intro hc)|apply zB|apply zJ|exact jS|exact jL|exact jP|exact jU|exact True.intro|exact rfl)
  all_goals first|exact jX|(apply yA;(exact(show zO _ _ _ _ [_,_] from jY));exact⟨_,_,_,_,_,rfl,rfl⟩;(focus repeat(first|with_reducible exact zA.nil|with_reducible apply zA.c|with_reducible apply zA.drop)))|(apply yA;(exact(show zO _ _ _ _ [_,_] from jY));exact⟨_,_,_,_,_,congrArg (λz=>Value.tuple #[_,B z]) (decide_eq_false λg=>h2 ⟨by assumption,g⟩),rfl⟩;(focus repeat(first|with_reducible exact zA.nil|with_reducible apply zA.c|with_reducible apply zA.drop)))
theorem zZh (s:List UInt8)(h:SH)(hyes:fA s):zH Tryz.prog 312 [S s] h λr q=>∃a ad n fl e,r=.tuple #[nmV a (.slice ad n fl) e,B true]/\q=h:=by
 obtain⟨M,h1,h2,rfl⟩:=hyes;refine zSe ((yDl M h1 h2 h).mono λr q ⟨v,e1,e2⟩=>?_);rcases e2 with⟨_,rfl,rfl⟩|⟨_,A,rfl,rfl⟩
 ·exact⟨_,⟨_,_,_,_,_,e1,rfl⟩,.nil⟩
 ·exact⟨_,⟨_,_,_,_,_,e1,rfl⟩,.drop .nil⟩
noncomputable def oV (s:List UInt8):Bool:=@decide (fA s) (Classical.propDecidable _)
theorem zXf (s:List UInt8)(h:SH)(hs:s.length<=9223372036854775807):zH Tryz.prog 255 [S s] h λr q=>r=B (oV s)/\q=h:=by
 by_cases hd:fA s
 ·rw[show oV s=true by unfold oV;simp[hd]]
  refine yG Tryz.func255 rfl rfl ?_
  repeat'(first|apply zE|apply zD|apply zC|refine jg ?_ ?_|(apply js;exact jJ)|refine jy ?_|(refine jc ?_ (c:=by exact⟨_,zZh s _ hd,jN⟩);rintro _ _ ⟨a,ad,n,fl,e,rfl,rfl⟩)|apply zB|apply zJ|exact jS|exact jL|exact jP|exact True.intro|intro A)
  all_goals first|exact jX|exact jG
 ·rw[show oV s=false by unfold oV;simp[hd]]
  refine yG Tryz.func255 rfl rfl ?_
  repeat'(first|apply zE|apply zD|apply zC|refine jg ?_ ?_|(apply js;exact jJ)|refine jy ?_|(refine jc ?_ (c:=by exact⟨_,yAi s _ hs hd,jN⟩);rintro _ _ ⟨a,ad,n,fl,e,rfl,rfl⟩)|apply zB|apply zJ|exact jS|exact jL|exact jP|exact True.intro|intro A)
  all_goals first|exact jX|exact jG
noncomputable def vok (k w:Int)(s:List UInt8):Bool:=vty k w && (if k=0 then decide (isV s/\(s.length:Int)=w)else if k=1 then oV s else if k=2 then decide (s.length<=64)else decide (s=[]))
theorem yAb (w:Int)(s:List UInt8)(h:SH)(hs:s.length<=9223372036854775807):zH Tryz.prog 254 [I w,S s] h λr q=>r=B (oV s)/\q=h:=by
 refine yJ Tryz.func254 rfl rfl ?_
 repeat'(first|apply zE|apply zD|apply zC|refine jg ?_ ?_|refine jq ?_ (c:=by exact⟨_,zXf s _ hs,jN⟩)|apply zB|apply zJ|exact jS|fail)
 all_goals first|exact jX|exact jG
theorem zZt (w:Int)(s:List UInt8)(h:SH)(hs:s.length<=9223372036854775807):zH Tryz.prog 260 [I w,S s] h λr q=>r=B (decide (s.length<=64))/\q=h:=by
 refine yJ Tryz.func260 rfl rfl ?_
 repeat'(first|apply zE|apply zD|apply zC|refine jg ?_ ?_|apply zB|apply zJ|exact jS|fail)
 all_goals first|exact jX|exact jF (k:=by exact⟨congrArg B (decide_eq_decide.2 (by omega)),rfl⟩)
theorem yOu (w:Int)(s:List UInt8)(h:SH):zH Tryz.prog 264 [I w,S s] h λr q=>r=B (decide (s=[]))/\q=h:=by
 refine yJ Tryz.func264 rfl rfl ?_
 repeat'(first|apply zE|apply zD|apply zC|refine jg ?_ ?_|apply zB|apply zJ|exact jS|fail)
 all_goals first|exact jX|exact jG
theorem zJh (k w:Int)(s:List UInt8)(h:SH)(hs:s.length<=9223372036854775807):zH Tryz.prog 114 [I k,I w,S s] h λr q=>r=B (vok k w s)/\q=h:=by
 unfold vok;rcases zFd k with(rfl|rfl|rfl|rfl)|hk
 all_goals try rw[zAf hk]
 all_goals try rw[zBz _ w (by decide)]
 all_goals
  refine wF Tryz.func114 rfl rfl ?_
  repeat'(first|apply zE|apply zD|apply zC|refine jg ?_ ?_|(apply jm;exact jI)|(apply js;exact jJ)|refine jy ?_|(refine jc ?_ (c:=by exact⟨_,zBp _ w _ (by decide),jN⟩);rintro _ _ ⟨b,rfl,rfl⟩)|refine jq ?_ (c:=by exact⟨_,zEw _ w _ hk,jN⟩)|refine jq ?_ (c:=by exact⟨_,yHf w s _ hs,jN⟩)|refine jq ?_ (c:=by exact⟨_,yAb w s _ hs,jN⟩)|refine jq ?_ (c:=by exact⟨_,zZt w s _ hs,jN⟩)|refine jq ?_ (c:=by exact⟨_,yOu w s _,jN⟩)|refine jw ?_|refine jk ?_|(apply rX;(iterate 3 exact rfl);all_goals intro hc)|apply zB|apply zJ|exact jS|exact jL|exact jE|exact jP|exact True.intro|intro A|exact rfl)
  all_goals first|exact jX|exact jG|exact jF (k:=by exact⟨congrArg B (by rw[decide_eq_false hc];rfl),rfl⟩)|exact jF (k:=by exact⟨congrArg B (by rw[decide_eq_true hc];rfl),rfl⟩)

noncomputable def stp (k w a:Int)(v:List UInt8)(c:Chg):Bool:=decide (a<c.1/\c.1<=1099511627776) && (vok k w c.2 && decide (k=3\/c.2≠v))
noncomputable def svl (k w:Int):Int->List UInt8->List Chg->Bool
 |_,_,[]=>true
 |a,v,c::r=>stp k w a v c && svl k w c.1 c.2 r
theorem yOy {k w a:Int}{v:List UInt8}{l:List Chg}{i:Nat}(h:i<l.length):svl k w a v (l.drop i)=(stp k w a v l[i]! && svl k w l[i]!.1 l[i]!.2 (l.drop (i+1))):=by rw[wD h];rfl
theorem zWd {k w a:Int}{v:List UInt8}{c:Chg}(h:¬(a<c.1/\c.1<=1099511627776)\/vok k w c.2=false\/(k≠3/\c.2=v)):stp k w a v c=false:=by
 unfold stp;rcases h with h|h|⟨h1,h2⟩
 ·rw[decide_eq_false h,Bool.false_and]
 ·rw[h,Bool.false_and,Bool.and_false]
 ·rw[decide_eq_false (p:=k=3\/c.2≠v) (by rintro(g|g);exact h1 g;exact g h2),Bool.and_false,Bool.and_false]
theorem yOj {k w a:Int}{v:List UInt8}{c:Chg}(h1:a<c.1/\c.1<=1099511627776)(h2:vok k w c.2=true)(h3:k=3\/c.2≠v):stp k w a v c=true:=by
 unfold stp;rw[decide_eq_true h1,h2,decide_eq_true h3];rfl
noncomputable def siv (c:Sgc):Bool:=vty c.1 c.2.1 && (decide (c.2.2.length<=4096) && svl c.1 c.2.1 (-1) (ini c.1 c.2.1) c.2.2)
abbrev sgV (k w:Int)(v:Value):Value:=.agg ⟨[I k,I w,v]⟩
theorem cT (c:Sgc)(v:Value)(h:SH)(hv:Has h (zF chF c.2.2) 2 c.2.2.length v)(hl:c.2.2.length<=100000)(hs:∀x∈c.2.2,x.2.length<=100000) :
  zH Tryz.prog 53 [sgV c.1 c.2.1 v] h λr q=>r=B (siv c)/\q=h:=by
 obtain⟨k,w,cs⟩:=c;dsimp only at *;obtain⟨ad,fl,rfl,hh⟩:=hv;have hlb:=yK (f:=chF) (w:=2) (λ_=>rfl) cs;unfold siv;dsimp only;have hT:=λh=>zHv k w h;have hI:=λh=>fW k w h;generalize vty k w=ty at *;generalize ini k w=z at *;cases ty with
 |false =>
  rw[Bool.false_and];refine yG Tryz.func53 rfl rfl ?_
  repeat'(first|apply zE|apply zD|apply zC|refine jg ?_ ?_|(apply yS;exact rfl;exact rfl)|(apply jm;exact jI)|refine jx ?_|refine jq ?_ (c:=by exact⟨_,hT _,jN⟩)|refine jk ?_|(apply yO;exact rfl)|apply zB|apply zV|apply zJ|exact jS|exact jL|exact jE|exact True.intro|intro A|exact rfl)
  all_goals first|exact jX|exact jG
 |true =>
 rw[Bool.true_and];by_cases h4:cs.length<=4096
 ·rw[decide_eq_true h4,Bool.true_and]
  obtain⟨b,hb⟩:∃b,svl k w (-1) z cs=b:=⟨_,rfl⟩;rw[hb];refine yG Tryz.func53 rfl rfl ?_
  repeat'(first|apply zE|apply zD|apply zC|refine jg ?_ ?_|(apply yS;exact rfl;exact rfl)|(apply jm;exact jI)|refine jx ?_|refine jq ?_ (c:=by exact⟨_,hT _,jN⟩)|refine jq ?_ (c:=by exact⟨_,hI _,jN⟩)|refine jw ?_|refine jf ?_|apply zB|apply zL|apply zM|exact jS|exact jL|exact jE|exact True.intro|intro A|exact rfl)
  all_goals try exact jX
  refine yH (S:=Nat × Int × List UInt8) (λx=>[(1,zG A 0 3),(3,I x.2.1),(4,S x.2.2),(25,.slice ad cs.length fl),(26,I cs.length),(27,I x.1)]) (λ_=>(A,⟨[I k,I w,.slice ad cs.length fl],false⟩)::h)
   (λx=>x.1<=cs.length/\svl k w x.2.1 x.2.2 (cs.drop x.1)=b) (λx=>cs.length-x.1) (0,-1,z) ⟨Nat.zero_le _,hb⟩ jB jK ?_
  rintro⟨i,a,v⟩ ⟨hi,hg⟩;dsimp only at hi hg ⊢;by_cases hil:i<cs.length
  ·obtain⟨A',ro,h1,rfl,hp⟩:=hh (by omega)
   have hV:=λh=>zJh k w cs[i]!.2 h (by have:=hs _ (xD hil);omega);rw[yOy hil]at hg;have hno:=@zWd k w a v cs[i]!;have hyes:=@yOj k w a v cs[i]!;generalize vok k w cs[i]!.2=ok at *
   repeat'(first|apply zE|apply zD|apply zC|refine jr ?_|refine jg ?_ ?_|(apply ja;exact jH)|(apply yS;exact rfl;exact rfl)|(apply jm;exact jI)|(apply jl;exact jI)|(apply js;exact jJ)|refine jy ?_|refine jq ?_ (c:=by exact⟨_,hV _,jN⟩)|refine jw ?_|refine jk ?_|(apply eF;iterate 3 exact rfl)|(apply lP;(iterate 3 exact rfl);all_goals intro hc)|(apply vJ;(iterate 3 exact rfl);all_goals intro hc)|(apply zOk;(iterate 3 exact rfl);all_goals intro hc)|(apply yO;exact rfl)|(apply zX;exact rfl)|refine jd ?_|(apply vA;exact rfl;all_goals intro hc)|apply zB|apply zV|apply zQ|apply xM|apply zL|apply zJ|apply zM|exact jO|((with_reducible apply Ln.mk);first|rfl|(simp[hlb];first|done|omega))|exact jW|exact jE|exact jP|((with_reducible apply Su.mk);first|exact xO (λ_=>rfl) (by omega))|exact True.intro|intro A|exact rfl)
   all_goals first
    |exact jX
    |exact jF (k:=by exact⟨congrArg B (by rw[<-hg,hno (by first|(left;omega)|(right;left;simpa using ‹(!ok)=true›)|(right;right;exact⟨by omega,by assumption⟩)),Bool.false_and]),rfl⟩)
    |exact⟨(i+1,cs[i]!.1,cs[i]!.2),⟨hil,by rw[<-hg,hyes (by omega) (by simpa using ‹(!ok)=false›) (by first|(left;omega)|(right;assumption)),Bool.true_and]⟩,by show cs.length-(i+1)<cs.length-i;omega,jB,jK⟩
  ·rw[List.drop_of_length_le (by omega)]at hg
   have hg:true=b:=hg;subst hg
   repeat'(first|apply zE|apply zD|apply zC|refine jg ?_ ?_|refine jf ?_|apply zB|apply zW|apply zT|apply zJ|apply zU|exact jS|fail)
   all_goals first|exact jX|exact jG
 ·rw[decide_eq_false h4,Bool.false_and]
  refine yG Tryz.func53 rfl rfl ?_
  repeat'(first|apply zE|apply zD|apply zC|refine jg ?_ ?_|(apply yS;exact rfl;exact rfl)|(apply jm;exact jI)|refine jx ?_|refine jq ?_ (c:=by exact⟨_,hT _,jN⟩)|refine jw ?_|refine jd ?_|apply zB|apply zV|apply zJ|exact jS|exact jL|exact jE|exact True.intro|intro A|exact rfl)
  all_goals first|exact jX|exact jG
inductive GrR {α:Type}(f:α->List Value)(w:Nat)(h:SH):List α->Value->SH->Prop
 |nil:GrR f w h [] (.slice none 0 0) h
 |some (A:Nat) (l:List α) (hl:l≠[]):GrR f w h l (gsl A 0 (l.length*w) l.length w) ((A,⟨zF f l,false⟩)::h)
theorem GrR.has {α:Type}{f:α->List Value}{w:Nat}{h q:SH}{l:List α}{v:Value}(g:GrR f w h l v q):Has q (zF f l) w l.length v/\zA q h:=by
 cases g with
 |nil=>exact⟨⟨none,0,rfl,λk=>absurd rfl k⟩,.nil⟩
 |some A l hl=>exact⟨⟨_,_,rfl,λ_=>⟨A,false,h,by rw[Nat.mul_comm],.head⟩⟩,.drop .nil⟩
theorem GrR.ofc {α:Type}{f:α->List Value}{w:Nat}{h:SH}{l:List α}{A n k:Nat}{c:List Value}(hc:c=zF f l)(hn:l.length=n)(hk:k=n*w)(hl:l≠[]:=by simp):GrR f w h l (gsl A 0 k n w) ((A,⟨c,false⟩)::h):=by
 subst hc hn hk;exact .some A l hl
theorem GrR.sl {α:Type}{f:α->List Value}{w:Nat}{h q:SH}{l:List α}{v:Value}(g:GrR f w h l v q):∃ad fl,v=.slice ad l.length fl:=by
 obtain⟨ad,fl,e,_⟩:=g.has.1;exact⟨ad,fl,e⟩
def os (A w n:Nat):Value:=.slice (if n=0 then none else some ⟨A,0,some (n*w)⟩) n (if n=0 then 0 else w)
def ob (A:Nat)(c:List Value)(n:Nat):SH:=if n=0 then [] else [(A,⟨c,false⟩)]
theorem vN {A w n:Nat}(h:n≠0):os A w n=gsl A 0 (n*w) n w:=by unfold os;rw[if_neg h,if_neg h]
theorem wJ {A:Nat}{c:List Value}{n:Nat}(h:n≠0):ob A c n=[(A,⟨c,false⟩)]:=if_neg h
theorem GrR.own {α:Type}{f:α->List Value}{w:Nat}{h q:SH}{l:List α}{u:Value}(g:GrR f w h l u q):∃A,u=os A w l.length/\q=ob A (zF f l) l.length++h:=by
 cases g with
 |nil=>exact⟨0,rfl,rfl⟩
 |some A l hl =>
  have hn:l.length≠0:=λk=>hl (List.length_eq_zero_iff.1 k);exact⟨A,(vN hn).symm,by rw[wJ hn];rfl⟩
instance Pick.app {A:Nat}{b:Blk}{h h1:SH}[p:Pick h A b h1]:∀{l:SH},Pick (l++h) A b (l++h1)
 |[]=>p
 |_::_=>.tail Pick.app
instance Upd.app {A:Nat}{b b':Blk}{h h':SH}[p:Upd h A b b' h']:∀{l:SH},Upd (l++h) A b b' (l++h')
 |[]=>p
 |_::_=>.tail Upd.app
theorem zA.pre {h r:SH}(t:zA h r):∀{l:SH},zA (l++h) (l++r)
 |[]=>t
 |_::_=>.cons .head (zA.pre t)
theorem rW {A w n:Nat}{c:List Value}{h:SH}:Has (ob A c n++h) c w n (os A w n):=by
 refine⟨_,_,rfl,λhn=>⟨A,false,h,by rw[if_neg hn,Nat.mul_comm],by rw[wJ hn];exact .head⟩⟩
def nxt (c:Chg):List Chg->Bool
 |[]=>false
 |d::_=>decide (d.1=c.1)
def nrm (k:Int):List UInt8->List Chg->List Chg
 |_,[]=>[]
 |v,c::r=>if nxt c r=true\/(k≠3/\c.2=v)then nrm k v r else c::nrm k c.2 r
theorem zSc {c:Chg}{l:List Chg}{i:Nat}:nxt c (l.drop i)=decide (i<l.length/\l[i]!.1=c.1):=by
 by_cases h:i<l.length
 ·rw[wD h]
  show decide (_=_)=_;rw[decide_eq_decide];exact⟨λg=>⟨h,g⟩,λg=>g.2⟩
 ·rw[List.drop_of_length_le (by omega),decide_eq_false (λg=>h g.1)];rfl
theorem yDa {k:Int}{v:List UInt8}{l:List Chg}{i:Nat}(h:i<l.length)(hs:(i+1<l.length/\l[i+1]!.1=l[i]!.1)\/(k≠3/\l[i]!.2=v)):nrm k v (l.drop i)=nrm k v (l.drop (i+1)):=by
 rw[wD h];show(if _ then _ else _)=_;rw[zSc,if_pos (by rw[decide_eq_true_eq];exact hs)]
theorem zXu {k:Int}{v:List UInt8}{l:List Chg}{i:Nat}(h:i<l.length)(hs:¬(i+1<l.length/\l[i+1]!.1=l[i]!.1))(hs2:k=3\/l[i]!.2≠v):nrm k v (l.drop i)=l[i]!::nrm k l[i]!.2 (l.drop (i+1)):=by
 rw[wD h];show(if _ then _ else _)=_;rw[zSc,if_neg (by rw[decide_eq_true_eq];rintro(g|⟨g1,g2⟩);exact hs g;rcases hs2 with g|g;exact g1 g;exact g g2)]
theorem oY (k:Int):∀(l:List Chg) (v:List UInt8),(nrm k v l).length<=l.length
 |[],v=>Nat.le_refl 0
 |c::r,v=>by
  unfold nrm;split
  ·have:=oY k r v;rw[List.length_cons];omega
  ·have:=oY k r c.2;rw[List.length_cons,List.length_cons];omega
theorem yKw (k w:Int)(cs:List Chg)(v:Value)(h:SH)(hv:Has h (zF chF cs) 2 cs.length v)(hl:cs.length<=100000)(hs:∀x∈cs,x.2.length<=100000) :
  zH Tryz.prog 118 [I k,I w,v] h λr q=>GrR chF 2 h (nrm k (ini k w) cs) r q:=by
 obtain⟨ad,fl,rfl,hh⟩:=hv;have hlb:=yK (f:=chF) (w:=2) (λ_=>rfl) cs;have hI:=λh=>fW k w h;generalize ini k w=z at *;obtain⟨R,hR⟩:∃R,nrm k z cs=R:=⟨_,rfl⟩;rw[hR];refine wF Tryz.func118 rfl rfl ?_
 repeat'(first|apply zE|apply zD|apply zC|refine jg ?_ ?_|(refine jc ?_ (c:=by exact⟨_,hI _,jN⟩);rintro _ _ ⟨rfl,rfl⟩)|apply zB|apply zM|exact jS|fail)
 all_goals try exact jX
 rename SH=>h;refine yH (S:=Nat × List UInt8 × List Chg × Value × SH) (λx=>[(0,I k),(2,.slice ad cs.length fl),(7,x.2.2.2.1),(8,S x.2.1),(14,.slice ad cs.length fl),(15,I cs.length),(16,I x.1)]) (λx=>x.2.2.2.2)
  (λx=>x.1<=cs.length/\GrR chF 2 h x.2.2.1 x.2.2.2.1 x.2.2.2.2/\x.2.2.1.length<=x.1/\x.2.2.1++nrm k x.2.1 (cs.drop x.1)=R) (λx=>cs.length-x.1) (0,z,[],.slice none 0 0,h) ⟨Nat.zero_le _,.nil,Nat.le_refl 0,hR⟩ jB jT ?_
 rintro⟨i,x,O,u,q⟩ ⟨hi,hG,hO,hg⟩;dsimp only at hi hG hO hg ⊢;by_cases hil:i<cs.length
 ·obtain⟨A',ro,h1,rfl,hp⟩:=hh (by omega)
  have hsk:=@yDa k x cs i hil;have hkp:=@zXu k x cs i hil;have hob:=yK (f:=chF) (w:=2) (λ_=>rfl) O;have hi1:((i:Int)+1).toNat=i+1:=by omega
  cases hG with
  |nil =>
   repeat'(first|apply zE|apply zD|apply zC|refine jr ?_|refine jg ?_ ?_|(apply ja;exact jH)|(apply jm;exact jI)|(apply jl;exact jI)|(apply js;exact jJ)|refine jy ?_|(apply xT zK;(iterate 5 exact rfl);decide;exact rfl;decide;(focus repeat(first|exact xE.last rfl));exact rfl)|(apply qD zK;(iterate 5 exact rfl);exact⟨by decide⟩;exact pk)|refine jw ?_|refine jk ?_|(apply eF;iterate 3 exact rfl)|(apply lP;(iterate 3 exact rfl);all_goals intro hc)|(apply rX;(iterate 3 exact rfl);all_goals intro hc)|(apply vJ;(iterate 3 exact rfl);all_goals intro hc)|(apply yO;exact rfl)|(apply zX;exact rfl)|refine jd ?_|(apply vA;exact rfl;all_goals intro hc)|apply zB|apply zW|apply zQ|apply zT|apply zL|apply zU|apply zM|exact jV|((with_reducible apply Ln.mk);first|rfl|(simp[hlb,hob];first|done|omega))|exact jW|((with_reducible apply Ce.mk);first|rfl|exact tX (λ_=>rfl) (by omega) (by decide) rfl)|exact jP|((with_reducible apply Su.mk);first|exact xY|exact xO (λ_=>rfl) (by omega))|exact True.intro|refine Rc.mk ⟨_,_,pk,?_⟩|exact Or.inl rfl|refine Or.inr (And.intro ?_ ?_)|apply And.intro|apply Or.inr|intro A|exact rfl)
   all_goals try simp only[hi1]at *
   all_goals first
    |exact jX
    |exact⟨(i+1,x,[],.slice none 0 0,h),⟨hil,.nil,Nat.zero_le _,by rw[<-hsk (by first|(left;exact⟨by omega,by assumption⟩)|(right;exact⟨by assumption,by assumption⟩))];exact hg⟩,by show cs.length-(i+1)<cs.length-i;omega,jB,jT⟩
    |exact⟨(i+1,cs[i]!.2,[cs[i]!],gsl A 0 2 1 2,(A,⟨chF cs[i]!,false⟩)::h),⟨hil,.ofc (n:=1) (k:=2) tW.symm rfl rfl,by show 1<=i+1;omega,by rw[hkp (by rintro⟨g1,g2⟩;first|omega|contradiction) (by first|(left;assumption)|(right;assumption))]at hg;exact hg⟩,by show cs.length-(i+1)<cs.length-i;omega,jB,jT⟩
  |some A1 _ hO0 =>
   repeat'(first|apply zE|apply zD|apply zC|refine jr ?_|refine jg ?_ ?_|(apply ja;exact jH)|(apply jm;exact jI)|(apply jl;exact jI)|(apply js;exact jJ)|refine jy ?_|(apply xT zK;(iterate 5 exact rfl);decide;exact rfl;decide;(focus repeat(first|exact xE.last rfl));exact rfl)|(apply qK zK;(iterate 5 exact rfl);exact⟨by decide⟩;exact up;exact pk)|refine jw ?_|refine jk ?_|(apply eF;iterate 3 exact rfl)|(apply lP;(iterate 3 exact rfl);all_goals intro hc)|(apply rX;(iterate 3 exact rfl);all_goals intro hc)|(apply vJ;(iterate 3 exact rfl);all_goals intro hc)|(apply yO;exact rfl)|(apply zX;exact rfl)|refine jd ?_|(apply vA;exact rfl;all_goals intro hc)|apply zB|apply zW|apply zQ|apply zT|apply zL|apply zU|apply zM|exact jV|((with_reducible apply Ln.mk);first|rfl|omega|(simp[hlb,hob];first|done|omega))|exact jW|((with_reducible apply Ce.mk);first|rfl|exact tX (λ_=>rfl) (by omega) (by decide) rfl)|exact jP|((with_reducible apply Su.mk);first|exact xY|exact xO (λ_=>rfl) (by omega))|exact True.intro|refine Rc.mk ⟨_,_,pk,?_⟩|exact Or.inl rfl|refine Or.inr (And.intro ?_ ?_)|apply And.intro|apply Or.inr|intro A|exact rfl)
   all_goals try simp only[hi1]at *
   all_goals first
    |exact jX
    |exact⟨(i+1,x,O,gsl A1 0 (O.length*2) O.length 2,(A1,⟨zF chF O,false⟩)::h),⟨hil,(.some A1 O hO0),by show O.length<=i+1;omega,by rw[<-hsk (by first|(left;exact⟨by omega,by assumption⟩)|(right;exact⟨by assumption,by assumption⟩))];exact hg⟩,by show cs.length-(i+1)<cs.length-i;omega,jB,jT⟩
    |exact⟨(i+1,cs[i]!.2,O++[cs[i]!],gsl A1 0 (O.length*2+1*2) (O.length+1) 2,(A1,⟨zF chF O++chF cs[i]!,false⟩)::h),⟨hil,.ofc (n:=O.length+1) rO.symm (by simp) (by omega),by show(O++[cs[i]!]).length<=i+1;rw[List.length_append];show O.length+1<=i+1;omega,by rw[hkp (by rintro⟨g1,g2⟩;first|omega|contradiction) (by first|(left;assumption)|(right;assumption))]at hg;rw[List.append_assoc];exact hg⟩,by show cs.length-(i+1)<cs.length-i;omega,jB,jT⟩
 ·rw[List.drop_of_length_le (by omega)]at hg
  have hg:O++[]=R:=hg;rw[List.append_nil]at hg;subst hg;obtain⟨ad2,fl2,rfl⟩:=hG.sl
  repeat'(first|apply zE|apply zD|apply zC|refine jg ?_ ?_|refine jf ?_|apply zB|apply zW|apply zT|apply zJ|apply zU|exact jS|fail)
  all_goals first|exact jX|exact jF (k:=by exact hG)
end Go.Proofs.YtbidadebolllkaaGreatDoor
end
