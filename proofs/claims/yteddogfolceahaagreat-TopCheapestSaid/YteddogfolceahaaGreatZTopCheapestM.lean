/- Part 13 of the proof of the law TopCheapest: texts merged. No condition. -/
import Derived.Test.YteddogfolceahaaGreatZTopCheapestL
set_option linter.unusedSimpArgs false
set_option linter.unusedVariables false
section
set_option maxRecDepth 4000
namespace Go.Proofs.YteddogfolceahaaGreat
open Go.Gh Go.RowKit

theorem hasT5 {q h1:SH}{A:Nat}(p:Pick q A ⟨nodes Lt,false⟩ h1):Has q (nodes Lt) 1 Lt.length (gsl A 0 (5*1) 5 1):=⟨_,_,rfl,fun _=>⟨A,_,_,rfl,p⟩⟩
theorem hasB5 {q h1:SH}{A:Nat}(p:Pick q A ⟨Lb.map sV,false⟩ h1):Has q (Lb.map sV) 1 Lb.length (gsl A 0 (5*1) 5 1):=⟨_,_,rfl,fun _=>⟨A,_,_,rfl,p⟩⟩
theorem hasB5' {q h1:SH}{A:Nat}(p:Pick q A ⟨Lb.map sV,false⟩ h1):Has q (Lb.map sV) 1 Lb.length (gsl A 0 5 5 1):=⟨_,_,rfl,fun _=>⟨A,_,_,rfl,p⟩⟩
theorem hasF2 {q h1:SH}{A:Nat}{a b:List UInt8}(p:Pick q A ⟨recs frC [(1,a),(2,b)],false⟩ h1):Has q (recs frC [(1,a),(2,b)]) 2 2 (gsl A 0 (2*2) 2 2):=⟨_,_,rfl,fun _=>⟨A,_,_,rfl,p⟩⟩
abbrev ltC :List Value:=[.int .i64 0,.int .i64 5,.int .i64 10,.int .i64 15,.int .i64 21]
abbrev lbC :List Value:=[.string (ByteArray.mk #[48,48]),.string (ByteArray.mk #[48,49]),.string (ByteArray.mk #[49,48]),.string (ByteArray.mk #[49,49]),.string (ByteArray.mk #[48,120])]
set_option maxHeartbeats 2000000 in
theorem awakeCodec_any (h:SH):SRun Tryz.prog 5 [] h fun r q=>r=B true∧q=h:=by
 have k1:∀{q h1:SH} {A:Nat},Pick q A ⟨ltC,false⟩ h1→SRun Tryz.prog 21 [gsl A 0 (5*1) 5 1] q fun r q'=>r=.tuple #[S (cod0 Lt),I 0]∧q'=q:=fun p=>awT_enc _ _ (hasT5 p)
 have k2:∀{q h1:SH} {A:Nat},Pick q A ⟨lbC,false⟩ h1→SRun Tryz.prog 22 [I 2,gsl A 0 (5*1) 5 1] q fun r q'=>r=.tuple #[S Db,I 0]∧q'=q:=fun p=>awB_enc _ _ (hasB5 p)
 have k3:∀{q h1:SH} {A:Nat},Pick q A ⟨[I 1,S (cod0 Lt),I 2,S Db],false⟩ h1→SRun Tryz.prog 7 [gsl A 0 (2*2) 2 2] q fun r q'=>r=.tuple #[S Dc,I 0]∧q'=q:=fun p=>awF_enc _ _ (hasF2 p)
 have k4:=awF_dec
 have k5:=awT_dec
 have k6:=awB_dec
 have k7:∀{q h1 h2:SH} {A B:Nat},Pick q A ⟨Lb.map sV,false⟩ h1→Pick q B ⟨lbC,false⟩ h2→SRun Tryz.prog 25 [gsl A 0 5 5 1,gsl B 0 (5*1) 5 1] q fun r q'=>r=.bool true∧q'=q:=fun p p'=>rTexts_any Lb _ _ _ (hasB5' p) (hasB5 p') (by decide) (by decide)
 have hc4:(nodes Lt)[0+(4:Int).toNat*1]?=some (I 21):=rfl
 generalize cod0 Lt=a at *
 generalize Db=b at *
 generalize Dc=c at *
 refine w_body0 Tryz.func5 rfl rfl ?_
 repeat'((fail_if_success (show SWp _ _ (Code.seq (Code.region 6 _ _) _) _ _ _));(fail_if_success (show SWp _ _ (Code.region 6 _ _) _ _ _));first|apply zF|apply zB|apply zE|(apply o_g zC;exact rfl;exact rfl)|(apply yT zC;exact rfl;exact rfl;(focus first|with_reducible exact pl33);exact rfl;(focus repeat(first|exact BuildR.nil|(apply BuildR.one;exact rfl;exact rfl;(first|(focus(repeat(first|exact SetAt.zero|apply SetAt.succ));done)))));exact rfl)|(apply zT zC;(iterate 5 exact rfl);(focus decide);exact rfl;(focus decide);(focus repeat(first|exact CatR.nil|exact CatR.last rfl|(apply CatR.one;exact rfl;exact rfl)|(apply CatR.agg;exact rfl)));exact rfl)|(apply zD;exact rfl;exact rfl;(focus first|exact rfl);exact rfl;(focus exact⟨_,k1 (.tail .head),by repeat with_reducible exact Take.nil⟩);rintro _ _ ⟨rfl,rfl⟩)|(apply zD;exact rfl;exact rfl;(focus first|exact rfl);exact rfl;(focus exact⟨_,k2 .head,by repeat with_reducible exact Take.nil⟩);rintro _ _ ⟨rfl,rfl⟩)|(apply zD;exact rfl;exact rfl;(focus first|exact rfl);exact rfl;(focus exact⟨_,k3 .head,by repeat with_reducible first|exact Take.nil|apply Take.c⟩);rintro _ _ ⟨rfl,rfl⟩)|(apply zD;exact rfl;exact rfl;(focus first|exact rfl);exact rfl;(focus exact⟨_,k4 _,by repeat with_reducible exact Take.nil⟩);rintro _ _ ⟨A9,fl9,ro9,h9,rfl,hp9,ht9⟩)|apply zA|((with_reducible apply Sd.mk);first|exact True.intro)|intro A)
 rename_i A1 A2 q
 obtain⟨hb,hpb,_⟩:=ht9.pick (.tail .head)
 have hl4:([I 1,S a,I 2,S b]:List Value).length=4:=rfl
 have f1:([I 1,S a,I 2,S b]:List Value)[0+(0:Int).toNat*2+1]?=some (S a):=rfl
 have f2:([I 1,S a,I 2,S b]:List Value)[0+(1:Int).toNat*2+1]?=some (S b):=rfl
 repeat'(first|apply zF|apply zB|apply zE|(apply o_g zC;exact rfl;exact rfl)|(apply zM zC;(iterate 3 exact rfl);(focus exact pk))|(apply zD;exact rfl;exact rfl;(focus first|exact rfl);exact rfl;(focus exact⟨_,k5 _,by repeat with_reducible exact Take.nil⟩);rintro _ _ ⟨A10,rfl,rfl⟩)|(apply zD;exact rfl;exact rfl;(focus first|exact rfl);exact rfl;(focus exact⟨_,k6 _,by repeat with_reducible exact Take.nil⟩);rintro _ _ ⟨A11,rfl,rfl⟩)|(apply zD;exact rfl;exact rfl;(focus first|exact rfl);exact rfl;(focus exact⟨_,k7 .head (.tail (.tail hpb)),by repeat with_reducible exact Take.nil⟩);rintro _ _ ⟨rfl,rfl⟩)|(apply zU;exact rfl;exact rfl)|(apply zS;exact rfl)|apply zA|apply zI|apply zN|((with_reducible apply Sd.mk);first|exact True.intro|omega)|((with_reducible apply Ln.mk);first|rfl)|((with_reducible apply Ce.mk);first|rfl)|exact True.intro|exact rfl)
 (apply zL;(exact(show ResS _ _ _ _ [_] from⟨rfl,trivial⟩));(focus exact⟨rfl,rfl⟩);(focus repeat with_reducible first|exact Take.nil|apply Take.c|apply Take.drop))
 all_goals exact ht9.trans (.drop (.drop (.drop .nil)))

theorem Ch1_any (l:List UInt8)(ps:List Pc)(n:Nat)(ro:Bool)(h h1:SH)[hp:Pick h n ⟨csC lcst,ro⟩ h1](v:Value)(hv:Has h (recs pcC ps) 3 ps.length v)(hc:Cov l 4096 0 ps)(hn:l.length≤4096) :
  SRun Tryz.prog 15 [v,I 0,gptr n 0 4] h fun r q=>r=I (costs lcst ps)∧q=h:=by
 have hC:=fun h v hv=>CostH lcst l 4096 lcst_ok (by decide) ps hc h v hv hn
 generalize costs lcst ps=x at *
 refine w_body3 Tryz.func15 rfl rfl ?_
 repeat'(first|apply zF|apply zB|apply zE|(apply o_g zC;exact rfl;exact rfl)|(apply yQ zC;(iterate 3 exact rfl);(focus exact pk))|(apply zD;exact rfl;exact rfl;(focus first|exact rfl);exact rfl;(focus exact⟨_,hC _ _ hv,by repeat with_reducible exact Take.nil⟩);rintro _ _ ⟨rfl,rfl⟩)|(apply zU;exact rfl;exact rfl)|(apply zS;exact rfl)|apply zA|apply zI|apply zN|((with_reducible apply Sd.mk);first|exact True.intro)|((with_reducible apply Ln.mk);first|rfl)|((with_reducible apply Su.mk);first|exact zQ)|exact True.intro|exact rfl)
 all_goals first
  |contradiction
  |(exfalso;omega)
  |(apply zL;(exact(show ResS _ _ _ _ [_] from⟨rfl,trivial⟩));(focus exact⟨rfl,rfl⟩);(focus repeat with_reducible first|exact Take.nil|apply Take.c|apply Take.drop))
theorem pcs_nil :pcs []=[]:=by
 have h:=pcs_cov (l:=[]) (by decide)
 cases hp:pcs []with
 |nil=>rfl
 |cons t r=>rw[hp]at h;have:=cov_short (by decide) h;simp at this
theorem pcs_ne {l:List UInt8}(hl:l.length≤4096)(h0:l≠[]):pcs l≠[]:=fun g=>by
 have h:=pcs_cov hl
 rw[g]at h
 have:0=l.length:=h
 exact h0 (List.length_eq_zero_iff.1 this.symm)
theorem PiecesE (l:List UInt8)(h:SH)(hl:l.length≤4096)(h0:l≠[]):SRun Tryz.prog 17 [S l] h fun r q=>∃A,r=.tuple #[gsl A 0 (3*(pcs l).length) (pcs l).length 3,I 0]∧q=(A,⟨recs pcC (pcs l),false⟩)::h:=by
 have hP:∀h,SRun Tryz.prog 35 [csV ⟨9,12,1,1⟩,S l,I 4096] h fun r q=>∃A,r=.tuple #[gsl A 0 (3*(pcs l).length) (pcs l).length 3,I 0]∧q=(A,⟨recs pcC (pcs l),false⟩)::h :=
  fun h=>(Parse_any lcst l 4096 h (by omega)).mono fun r q ⟨v,g1,g2⟩=>by
   rw[parse_ok lcst_ok (by decide) hl]at g1
   rcases g2 with⟨g,_⟩|⟨_,A,rfl,rfl⟩
   ·exact absurd g (pcs_ne hl h0)
   ·exact⟨A,g1,rfl⟩
 generalize pcs l=L at *
 refine zR Tryz.func17 rfl rfl ?_
 repeat'(first|apply zF|apply zB|apply zE|(apply o_g zC;exact rfl;exact rfl)|(apply yT zC;exact rfl;exact rfl;(focus first|with_reducible exact pl49);exact rfl;(focus repeat(first|exact BuildR.nil|(apply BuildR.one;exact rfl;exact rfl;(first|(focus(repeat(first|exact SetAt.zero|apply SetAt.succ));done)))));exact rfl)|(apply zD;exact rfl;exact rfl;(focus first|exact rfl);exact rfl;(focus exact⟨_,hP _,by repeat with_reducible exact Take.nil⟩);rintro _ _ ⟨A1,rfl,rfl⟩)|apply zA|apply zN|((with_reducible apply Sd.mk);first|exact True.intro))
 (apply zL;(exact(show ResS _ _ _ _ [_,_] from⟨rfl,⟨rfl,trivial⟩⟩));(focus exact⟨A1,rfl,rfl⟩);(focus repeat with_reducible first|exact Take.nil|apply Take.c|apply Take.drop))
theorem PiecesN (h:SH):SRun Tryz.prog 17 [S []] h fun r q=>r=.tuple #[.slice none 0 0,I 0]∧q=h:=by
 have hP:∀h,SRun Tryz.prog 35 [csV ⟨9,12,1,1⟩,S [],I 4096] h fun r q=>r=.tuple #[.slice none 0 0,I 0]∧q=h :=
  fun h=>(Parse_any lcst [] 4096 h (by decide)).mono fun r q ⟨v,g1,g2⟩=>by
   rw[parse_ok lcst_ok (by decide) (by decide)]at g1
   rcases g2 with⟨_,rfl,rfl⟩|⟨g,_⟩
   ·exact⟨g1,rfl⟩
   ·exact absurd pcs_nil g
 refine zR Tryz.func17 rfl rfl ?_
 repeat'(first|apply zF|apply zB|apply zE|(apply o_g zC;exact rfl;exact rfl)|(apply yT zC;exact rfl;exact rfl;(focus first|with_reducible exact pl49);exact rfl;(focus repeat(first|exact BuildR.nil|(apply BuildR.one;exact rfl;exact rfl;(first|(focus(repeat(first|exact SetAt.zero|apply SetAt.succ));done)))));exact rfl)|(apply zD;exact rfl;exact rfl;(focus first|exact rfl);exact rfl;(focus exact⟨_,hP _,by repeat with_reducible exact Take.nil⟩);rintro _ _ ⟨rfl,rfl⟩)|apply zA|apply zN|((with_reducible apply Sd.mk);first|exact True.intro))
 (apply zL;(exact(show ResS _ _ _ _ [_,_] from⟨rfl,⟨rfl,trivial⟩⟩));(focus exact⟨rfl,rfl⟩);(focus repeat with_reducible first|exact Take.nil|apply Take.c|apply Take.drop))
theorem GreedyE (l:List UInt8)(h:SH)(hl:l.length≤4096)(h0:l≠[]):SRun Tryz.prog 18 [S l,I 4096] h fun r q=>∃A,r=.tuple #[gsl A 0 (3*(greedy l 4096).1.length) (greedy l 4096).1.length 3,I 0]∧q=(A,⟨recs pcC (greedy l 4096).1,false⟩)::h :=
 (Greedy_any l 4096 h (by omega)).mono fun r q ⟨v,g1,g2⟩=>by
  rw[(greedy_cov (by decide) hl).2]at g1
  rcases g2 with⟨g,_⟩|⟨_,A,rfl,rfl⟩
  ·have hc:=(greedy_cov (l:=l) (w:=4096) (by decide) hl).1
   rw[g]at hc
   have:0=l.length:=hc
   exact absurd (List.length_eq_zero_iff.1 this.symm) h0
  ·exact⟨A,g1,rfl⟩
theorem GreedyN (h:SH):SRun Tryz.prog 18 [S [],I 4096] h fun r q=>r=.tuple #[.slice none 0 0,I 0]∧q=h :=
 (Greedy_any [] 4096 h (by decide)).mono fun r q ⟨v,g1,g2⟩=>by
  rw[(greedy_cov (l:=[]) (w:=4096) (by decide) (by decide)).2]at g1
  rcases g2 with⟨_,rfl,rfl⟩|⟨g,_⟩
  ·exact⟨g1,rfl⟩
  ·exact absurd (show(greedy [] 4096).1=[] by decide +kernel) g

abbrev cC4 :List Value:=[.int .i64 9,.int .i64 12,.int .i64 1,.int .i64 1]
theorem Ch1_lock (l:List UInt8)(ps:List Pc)(A n:Nat)(hc:Cov l 4096 0 ps)(hn:l.length≤4096) :
  SRun Tryz.prog 15 [gsl A 0 (3*ps.length) ps.length 3,I 0,gptr n 0 4] (lockS [(A,⟨recs pcC ps,false⟩),(n,⟨cC4,false⟩)]) fun r q=>r=I (costs lcst ps)∧q=lockS [(A,⟨recs pcC ps,false⟩),(n,⟨cC4,false⟩)]:=by
 have hp:Pick (lockS [(A,⟨recs pcC ps,false⟩),(n,⟨cC4,false⟩)]) n ⟨csC lcst,true⟩ (lockS [(A,⟨recs pcC ps,false⟩)]):=pick_lock (.tail .head)
 exact Ch1_any l ps n true _ _ _ (Has.lock (h:=[(A,⟨recs pcC ps,false⟩),(n,⟨cC4,false⟩)]) ⟨_,_,rfl,fun _=>⟨A,false,_,rfl,.head⟩⟩) hc hn
theorem Ch1_lockN (n:Nat):SRun Tryz.prog 15 [.slice none 0 0,I 0,gptr n 0 4] (lockS [(n,⟨cC4,false⟩)]) fun r q=>r=I 0∧q=lockS [(n,⟨cC4,false⟩)]:=by
 have hp:Pick (lockS [(n,⟨cC4,false⟩)]) n ⟨csC lcst,true⟩ (lockS []):=pick_lock .head
 exact Ch1_any [] [] n true _ _ _ ⟨none,0,rfl,fun g=>absurd rfl g⟩ rfl (by decide)
theorem lz_twice {l:List UInt8}(hl:l.length≤200):∃o t,(∀h,SRun Tryz.prog 19 [S l] h fun r q=>r=.tuple #[S o,I 0]∧q=h)∧(∀h,SRun Tryz.prog 19 [S o] h fun r q=>r=.tuple #[S t,I 0]∧q=h) ∧
  (∀h,SRun Tryz.prog 20 [S t,I 4096] h fun r q=>r=.tuple #[S o,I 0]∧q=h)∧∀h,SRun Tryz.prog 20 [S o,I l.length] h fun r q=>r=.tuple #[S l,I 0]∧q=h:=by
 obtain⟨h1,h2⟩:=lzE_len3 hl
 have o1:=lzD_own (l:=l) (by omega)
 have o2:=lzD_own (l:=(lzE l).1) h1
 have o3:=lzD_most h1 h2
 have o4:=lzE_len (l:=(lzE l).1) h1
 refine⟨(lzE l).1,(lzE (lzE l).1).1,fun h=>?_,fun h=>?_,fun h=>?_,fun h=>?_⟩
 ·have:=Encode_any' l h (by omega);rwa [o1.1]at this
 ·have:=Encode_any' (lzE l).1 h (by omega);rwa [o2.1]at this
 ·have:=Decode_any' (lzE (lzE l).1).1 4096 h (by omega);rwa [o3]at this
 ·have:=Decode_any' (lzE l).1 l.length h (by omega);rwa [o1.2.1]at this
theorem cheap {l:List UInt8}(hn:l.length≤200)(i:Nat)(hi:i≤l.length):(0≤costs lcst (pcs l)∧costs lcst (pcs l)≤10000000)∧(0≤costs lcst (pcs (l.take i))∧costs lcst (pcs (l.take i))≤10000000)∧(0≤costs lcst (pcs (l.drop i))∧costs lcst (pcs (l.drop i))≤10000000) ∧
  (0≤costs lcst (greedy l 4096).1∧costs lcst (greedy l 4096).1≤10000000)∧costs lcst (pcs l)≤costs lcst (pcs (l.take i))+costs lcst (pcs (l.drop i))∧costs lcst (pcs l)≤costs lcst (greedy l 4096).1∧costs lcst (pcs l)≤9*l.length:=by
 have h4:l.length≤4096:=by omega
 have b:∀{m:List UInt8} {ps:List Pc},m.length≤200→Cov m 4096 0 ps→0≤costs lcst ps∧costs lcst ps≤10000000:=fun {m ps} hm hc=>by
  have h1:=costs_in lcst_ok (cov_vPs (by decide) hc)
  have h2:=cov_short (by decide) hc
  omega
 have gc:=(greedy_cov (l:=l) (w:=4096) (by decide) h4).1
 have k3:=parse_le lcst_ok (w:=4096) (by decide) h4 (allLit_cov (l:=l) (w:=4096) l.length 0 (by omega))
 rw[allLit_cost]at k3
 have n1:(l.take i).length≤200:=by rw[List.length_take];omega
 have n2:(l.drop i).length≤200:=by rw[List.length_drop];omega
 refine⟨b hn (pcs_cov h4),b n1 (pcs_cov (by omega)),b n2 (pcs_cov (by omega)),b hn gc,cst_parts lcst_ok (by decide) h4 i hi,parse_le lcst_ok (by decide) h4 gc,?_⟩
 have e:lcst.lit=9:=rfl
 rw[e]at k3
 show costs lcst (parse lcst l 4096).1≤_
 omega
set_option maxHeartbeats 4000000 in
theorem Cheap_mid (l:List UInt8)(u:Nat)(hu:u<256)(hn:l.length≤200)(i:Nat)(hi:i=u%(l.length+1))(h0:l≠[])(h1:0<i)(h2:i<l.length) :
  SRun Tryz.prog 4 [S l,.int .u8 u] [] fun r q=>r=B true:=by
 have em:(u:Int)%((l.length:Int)+1)=((u%(l.length+1):Nat):Int):=by push_cast;rfl
 rw[←hi]at em
 have g1:l.take i≠[]:=fun g=>by have e:=congrArg List.length g;rw[List.length_take,Nat.min_eq_left (by omega),List.length_nil]at e;omega
 have g2:l.drop i≠[]:=fun g=>by have e:=congrArg List.length g;rw[List.length_drop,List.length_nil]at e;omega
 have n1:(l.take i).length≤200:=by rw[List.length_take];omega
 have n2:(l.drop i).length≤200:=by rw[List.length_drop];omega
 have p0:=fun h=>PiecesE l h (by omega) h0
 have p1:=fun h=>PiecesE (l.take i) h (by omega) g1
 have p2:=fun h=>PiecesE (l.drop i) h (by omega) g2
 have p3:=fun h=>GreedyE l h (by omega) h0
 have c0:=fun A n=>Ch1_lock l (pcs l) A n (pcs_cov (by omega)) (by omega)
 have c1:=fun A n=>Ch1_lock (l.take i) (pcs (l.take i)) A n (pcs_cov (by omega)) (by omega)
 have c2:=fun A n=>Ch1_lock (l.drop i) (pcs (l.drop i)) A n (pcs_cov (by omega)) (by omega)
 have c3:=fun A n=>Ch1_lock l (greedy l 4096).1 A n (greedy_cov (by decide) (by omega)).1 (by omega)
 refine zY Tryz.func4 rfl rfl ?_
 repeat'((fail_if_success (show SWp _ _ (Code.seq (Code.region 8 _ _) _) _ _ _));(fail_if_success (show SWp _ _ (Code.region 8 _ _) _ _ _));first|apply zF|apply zB|apply zE|(apply o_g zC;exact rfl;exact rfl)|(apply o_ar zC;exact rfl;exact rfl)|(apply o_ex;exact rfl;exact rfl)|(apply yR;exact rfl;exact rfl)|(apply yE zC;(iterate 4 exact rfl);(focus exact⟨rfl⟩);(focus exact up))|(apply yG zC;iterate 5 exact rfl)|(apply yT zC;exact rfl;exact rfl;(focus first|with_reducible exact pl49);exact rfl;(focus repeat(first|exact BuildR.nil|(apply BuildR.one;exact rfl;exact rfl;(first|(focus(repeat(first|exact SetAt.zero|apply SetAt.succ));done)))));exact rfl)|(apply o_makeFunc;iterate 3 exact rfl)|(apply zD;exact rfl;exact rfl;(focus first|exact rfl);exact rfl;(focus exact⟨_,awakeCodec_any _,by repeat with_reducible exact Take.nil⟩);rintro _ _ ⟨rfl,rfl⟩)|(apply zS;exact rfl)|(apply yD;exact rfl;(focus first|omega))|apply zA|apply zI|((with_reducible apply Sd.mk);first|exact True.intro|omega)|((with_reducible apply Ln.mk);first|rfl)|((with_reducible apply Wr.mk);first|exact IntWalk.i64_in _ (by omega))|((with_reducible apply Ex.mk);first|exact Int.tmod_eq_emod_of_nonneg (by omega))|((with_reducible apply Pu.mk);first|exact yA rfl)|exact True.intro|intro A)
 rw[em]
 obtain⟨o,t,q1,q2,q3,q4⟩:=lz_twice hn
 obtain⟨b0,b1,b2,b3,d1,d2,d3⟩:=cheap hn i (by omega)
 generalize pcs l=P0 at *
 generalize pcs (l.take i)=P1 at *
 generalize pcs (l.drop i)=P2 at *
 generalize (greedy l 4096).1=P3 at *
 generalize costs lcst P0=x0 at *
 generalize costs lcst P1=x1 at *
 generalize costs lcst P2=x2 at *
 generalize costs lcst P3=x3 at *
 repeat'((fail_if_success (show SWp _ _ (Code.seq (Code.region 9 _ _) _) _ _ _));(fail_if_success (show SWp _ _ (Code.region 9 _ _) _ _ _));first|apply zF|apply zE|(apply yH;(focus kernel_rfl);(focus kernel_rfl))|(apply o_g zC;exact rfl;exact rfl)|(apply yU;(iterate 4 exact rfl);(focus exact⟨p0 _,by repeat with_reducible exact Take.nil⟩);(focus(intro _;(first|exact List.Perm.refl _)));(focus(intro A1 A2 ρ D e1 d1 hρ hD;refine⟨?_,?_⟩;(focus repeat(first|exact VR.const rfl|(apply VR.slc';(focus first|exact e1);(focus first|exact d1))|apply VRs.tuple|exact VRs.nil|apply VRs.cons));(focus repeat(first|((apply SHR.same);(focus intro x hx;(repeat(first|exact hx));done))|(apply SHR.cons;(focus first|exact e1);(focus repeat(first|((apply VRs.const);(focus first|exact recs_const (fun _ v hv=>by simp only[List.mem_cons,List.not_mem_nil,or_false]at hv;rcases hv with rfl|rfl|rfl|rfl|rfl <;> rfl)))))))))))|(apply yU;(iterate 4 exact rfl);(focus exact⟨p1 _,by repeat with_reducible exact Take.nil⟩);(focus(intro _;(first|exact List.Perm.refl _)));(focus(intro A1 A2 ρ D e1 d1 hρ hD;refine⟨?_,?_⟩;(focus repeat(first|exact VR.const rfl|(apply VR.slc';(focus first|exact e1);(focus first|exact d1))|apply VRs.tuple|exact VRs.nil|apply VRs.cons));(focus repeat(first|((apply SHR.same);(focus intro x hx;(repeat(first|exact hx));done))|(apply SHR.cons;(focus first|exact e1);(focus repeat(first|((apply VRs.const);(focus first|exact recs_const (fun _ v hv=>by simp only[List.mem_cons,List.not_mem_nil,or_false]at hv;rcases hv with rfl|rfl|rfl|rfl|rfl <;> rfl)))))))))))|(apply yU;(iterate 4 exact rfl);(focus exact⟨p2 _,by repeat with_reducible exact Take.nil⟩);(focus(intro _;(first|exact List.Perm.refl _)));(focus(intro A1 A2 ρ D e1 d1 hρ hD;refine⟨?_,?_⟩;(focus repeat(first|exact VR.const rfl|(apply VR.slc';(focus first|exact e1);(focus first|exact d1))|apply VRs.tuple|exact VRs.nil|apply VRs.cons));(focus repeat(first|((apply SHR.same);(focus intro x hx;(repeat(first|exact hx));done))|(apply SHR.cons;(focus first|exact e1);(focus repeat(first|((apply VRs.const);(focus first|exact recs_const (fun _ v hv=>by simp only[List.mem_cons,List.not_mem_nil,or_false]at hv;rcases hv with rfl|rfl|rfl|rfl|rfl <;> rfl)))))))))))|(apply yU;(iterate 4 exact rfl);(focus exact⟨p3 _,by repeat with_reducible exact Take.nil⟩);(focus(intro _;(first|exact List.Perm.refl _)));(focus(intro A1 A2 ρ D e1 d1 hρ hD;refine⟨?_,?_⟩;(focus repeat(first|exact VR.const rfl|(apply VR.slc';(focus first|exact e1);(focus first|exact d1))|apply VRs.tuple|exact VRs.nil|apply VRs.cons));(focus repeat(first|((apply SHR.same);(focus intro x hx;(repeat(first|exact hx));done))|(apply SHR.cons;(focus first|exact e1);(focus repeat(first|((apply VRs.const);(focus first|exact recs_const (fun _ v hv=>by simp only[List.mem_cons,List.not_mem_nil,or_false]at hv;rcases hv with rfl|rfl|rfl|rfl|rfl <;> rfl)))))))))))|(apply yS;(iterate 4 exact rfl);(focus exact⟨_,c0 _ _,by repeat with_reducible exact Take.nil⟩);(focus exact fun _ _ h=>h.1);(focus(repeat(first|exact Flat.c rfl))))|(apply yS;(iterate 4 exact rfl);(focus exact⟨_,c1 _ _,by repeat(first|with_reducible exact Take.nil|with_reducible apply yL|with_reducible apply Take.c|with_reducible apply Take.drop)⟩);(focus exact fun _ _ h=>h.1);(focus(repeat(first|exact Flat.c rfl))))|(apply yS;(iterate 4 exact rfl);(focus exact⟨_,c2 _ _,by repeat(first|with_reducible exact Take.nil|with_reducible apply yL|with_reducible apply Take.c|with_reducible apply Take.drop)⟩);(focus exact fun _ _ h=>h.1);(focus(repeat(first|exact Flat.c rfl))))|(apply yS;(iterate 4 exact rfl);(focus exact⟨_,c3 _ _,by repeat(first|with_reducible exact Take.nil|with_reducible apply yL|with_reducible apply Take.c|with_reducible apply Take.drop)⟩);(focus exact fun _ _ h=>h.1);(focus(repeat(first|exact Flat.c rfl))))|apply zA|((with_reducible apply Sd.mk);first|exact True.intro|omega)|exact True.intro|exact Rd.mk ⟨_,c0 _ _,by repeat(first|with_reducible exact Take.nil|with_reducible apply yL|with_reducible apply Take.c|with_reducible apply Take.drop)⟩|exact Or.inl rfl|apply And.intro|apply Or.inr|intro A|exact rfl)
 clear c0 c1 c2 c3 p0 p1 p2 p3
 repeat'(first|apply zF|apply zB|apply zE|(apply o_g zC;exact rfl;exact rfl)|(apply o_ar zC;exact rfl;exact rfl)|(apply zD;exact rfl;exact rfl;(focus first|exact rfl);exact rfl;(focus exact⟨_,q1 _,by repeat with_reducible exact Take.nil⟩);rintro _ _ ⟨rfl,rfl⟩)|(apply zD;exact rfl;exact rfl;(focus first|exact rfl);exact rfl;(focus exact⟨_,q2 _,by repeat with_reducible exact Take.nil⟩);rintro _ _ ⟨rfl,rfl⟩)|(apply zD;exact rfl;exact rfl;(focus first|exact rfl);exact rfl;(focus exact⟨_,q3 _,by repeat with_reducible exact Take.nil⟩);rintro _ _ ⟨rfl,rfl⟩)|(apply zD;exact rfl;exact rfl;(focus first|exact rfl);exact rfl;(focus exact⟨_,q4 _,by repeat with_reducible exact Take.nil⟩);rintro _ _ ⟨rfl,rfl⟩)|(apply zU;exact rfl;exact rfl)|(apply o_gT;(iterate 3 exact rfl);(focus first|with_reducible exact rfl))|(apply o_gF;(iterate 3 exact rfl);(focus first|omega))|(apply yD;exact rfl;(focus first|omega))|apply zA|apply zI|apply zN|((with_reducible apply Sd.mk);first|exact True.intro)|((with_reducible apply Wr.mk);first|exact IntWalk.i64_in _ (by omega)))
 all_goals first
  |contradiction
  |(exfalso;omega)
  |(apply zL;(exact(show ResS _ _ _ _ [_] from⟨rfl,trivial⟩));(focus exact rfl);(focus repeat with_reducible first|exact Take.nil|apply Take.c|apply Take.drop))
  |(apply zL;(exact(show ResS _ _ _ _ [_] from⟨rfl,trivial⟩));(focus show B _=B true;simp);(focus repeat with_reducible first|exact Take.nil|apply Take.c|apply Take.drop))

set_option maxHeartbeats 4000000 in
theorem Cheap_front (l:List UInt8)(u:Nat)(hu:u<256)(hn:l.length≤200)(i:Nat)(hi:i=u%(l.length+1))(h0:l≠[])(h1:i=0)(h2:i<l.length) :
  SRun Tryz.prog 4 [S l,.int .u8 u] [] fun r q=>r=B true:=by
 have em:(u:Int)%((l.length:Int)+1)=((u%(l.length+1):Nat):Int):=by push_cast;rfl
 rw[←hi]at em
 have g1:l.take i=[]:=by rw[show i=0 by omega];rfl
 have g2:l.drop i≠[]:=fun g=>by have e:=congrArg List.length g;rw[List.length_drop,List.length_nil]at e;omega
 have n1:(l.take i).length≤200:=by rw[List.length_take];omega
 have n2:(l.drop i).length≤200:=by rw[List.length_drop];omega
 have p0:=fun h=>PiecesE l h (by omega) h0
 have p1:∀h,SRun Tryz.prog 17 [S (l.take i)] h fun r q=>r=.tuple #[.slice none 0 0,I 0]∧q=h:=fun h=>by rw[g1];exact PiecesN h
 have p2:=fun h=>PiecesE (l.drop i) h (by omega) g2
 have p3:=fun h=>GreedyE l h (by omega) h0
 have c0:=fun A n=>Ch1_lock l (pcs l) A n (pcs_cov (by omega)) (by omega)
 have c1:=fun n=>Ch1_lockN n
 have c2:=fun A n=>Ch1_lock (l.drop i) (pcs (l.drop i)) A n (pcs_cov (by omega)) (by omega)
 have c3:=fun A n=>Ch1_lock l (greedy l 4096).1 A n (greedy_cov (by decide) (by omega)).1 (by omega)
 refine zY Tryz.func4 rfl rfl ?_
 repeat'((fail_if_success (show SWp _ _ (Code.seq (Code.region 8 _ _) _) _ _ _));(fail_if_success (show SWp _ _ (Code.region 8 _ _) _ _ _));first|apply zF|apply zB|apply zE|(apply o_g zC;exact rfl;exact rfl)|(apply o_ar zC;exact rfl;exact rfl)|(apply o_ex;exact rfl;exact rfl)|(apply yR;exact rfl;exact rfl)|(apply yE zC;(iterate 4 exact rfl);(focus exact⟨rfl⟩);(focus exact up))|(apply yG zC;iterate 5 exact rfl)|(apply yT zC;exact rfl;exact rfl;(focus first|with_reducible exact pl49);exact rfl;(focus repeat(first|exact BuildR.nil|(apply BuildR.one;exact rfl;exact rfl;(first|(focus(repeat(first|exact SetAt.zero|apply SetAt.succ));done)))));exact rfl)|(apply o_makeFunc;iterate 3 exact rfl)|(apply zD;exact rfl;exact rfl;(focus first|exact rfl);exact rfl;(focus exact⟨_,awakeCodec_any _,by repeat with_reducible exact Take.nil⟩);rintro _ _ ⟨rfl,rfl⟩)|(apply zS;exact rfl)|(apply yD;exact rfl;(focus first|omega))|apply zA|apply zI|((with_reducible apply Sd.mk);first|exact True.intro|omega)|((with_reducible apply Ln.mk);first|rfl)|((with_reducible apply Wr.mk);first|exact IntWalk.i64_in _ (by omega))|((with_reducible apply Ex.mk);first|exact Int.tmod_eq_emod_of_nonneg (by omega))|((with_reducible apply Pu.mk);first|exact yA rfl)|exact True.intro|intro A)
 rw[em]
 obtain⟨o,t,q1,q2,q3,q4⟩:=lz_twice hn
 obtain⟨b0,b1,b2,b3,d1,d2,d3⟩:=cheap hn i (by omega)
 have z1:costs lcst (pcs (l.take i))=0:=by rw[g1,pcs_nil];rfl
 generalize pcs l=P0 at *
 generalize pcs (l.take i)=P1 at *
 generalize pcs (l.drop i)=P2 at *
 generalize (greedy l 4096).1=P3 at *
 generalize costs lcst P0=x0 at *
 generalize costs lcst P1=x1 at *
 generalize costs lcst P2=x2 at *
 generalize costs lcst P3=x3 at *
 repeat'((fail_if_success (show SWp _ _ (Code.seq (Code.region 9 _ _) _) _ _ _));(fail_if_success (show SWp _ _ (Code.region 9 _ _) _ _ _));first|apply zF|apply zE|(apply yH;(focus kernel_rfl);(focus kernel_rfl))|(apply o_g zC;exact rfl;exact rfl)|(apply yU;(iterate 4 exact rfl);(focus exact⟨p0 _,by repeat with_reducible exact Take.nil⟩);(focus(intro _;(first|exact List.Perm.refl _)));(focus(intro A1 A2 ρ D e1 d1 hρ hD;refine⟨?_,?_⟩;(focus repeat(first|exact VR.const rfl|(apply VR.slc';(focus first|exact e1);(focus first|exact d1))|apply VRs.tuple|exact VRs.nil|apply VRs.cons));(focus repeat(first|((apply SHR.same);(focus intro x hx;(repeat(first|exact hx));done))|(apply SHR.cons;(focus first|exact e1);(focus repeat(first|((apply VRs.const);(focus first|exact recs_const (fun _ v hv=>by simp only[List.mem_cons,List.not_mem_nil,or_false]at hv;rcases hv with rfl|rfl|rfl|rfl|rfl <;> rfl)))))))))))|(apply o_callE0;(iterate 4 exact rfl);(focus exact⟨p1 _,by repeat with_reducible exact Take.nil⟩);(focus first|exact List.Perm.refl _);(focus(intro ρ D hρ hD;refine⟨?_,?_⟩;(focus repeat(first|exact VR.const rfl));(focus repeat(first|((apply SHR.same);(focus intro x hx;(repeat(first|exact hx));done)))))))|(apply yU;(iterate 4 exact rfl);(focus exact⟨p2 _,by repeat with_reducible exact Take.nil⟩);(focus(intro _;(first|exact List.Perm.refl _)));(focus(intro A1 A2 ρ D e1 d1 hρ hD;refine⟨?_,?_⟩;(focus repeat(first|exact VR.const rfl|(apply VR.slc';(focus first|exact e1);(focus first|exact d1))|apply VRs.tuple|exact VRs.nil|apply VRs.cons));(focus repeat(first|((apply SHR.same);(focus intro x hx;(repeat(first|exact hx));done))|(apply SHR.cons;(focus first|exact e1);(focus repeat(first|((apply VRs.const);(focus first|exact recs_const (fun _ v hv=>by simp only[List.mem_cons,List.not_mem_nil,or_false]at hv;rcases hv with rfl|rfl|rfl|rfl|rfl <;> rfl)))))))))))|(apply yU;(iterate 4 exact rfl);(focus exact⟨p3 _,by repeat with_reducible exact Take.nil⟩);(focus(intro _;(first|exact List.Perm.refl _)));(focus(intro A1 A2 ρ D e1 d1 hρ hD;refine⟨?_,?_⟩;(focus repeat(first|exact VR.const rfl|(apply VR.slc';(focus first|exact e1);(focus first|exact d1))|apply VRs.tuple|exact VRs.nil|apply VRs.cons));(focus repeat(first|((apply SHR.same);(focus intro x hx;(repeat(first|exact hx));done))|(apply SHR.cons;(focus first|exact e1);(focus repeat(first|((apply VRs.const);(focus first|exact recs_const (fun _ v hv=>by simp only[List.mem_cons,List.not_mem_nil,or_false]at hv;rcases hv with rfl|rfl|rfl|rfl|rfl <;> rfl)))))))))))|(apply yS;(iterate 4 exact rfl);(focus exact⟨_,c0 _ _,by repeat with_reducible exact Take.nil⟩);(focus exact fun _ _ h=>h.1);(focus(repeat(first|exact Flat.c rfl))))|(apply yS;(iterate 4 exact rfl);(focus exact⟨_,c1 _,by repeat(first|with_reducible exact Take.nil|with_reducible apply yL|with_reducible apply Take.c|with_reducible apply Take.drop)⟩);(focus exact fun _ _ h=>h.1);(focus(repeat(first|exact Flat.c rfl))))|(apply yS;(iterate 4 exact rfl);(focus exact⟨_,c2 _ _,by repeat(first|with_reducible exact Take.nil|with_reducible apply yL|with_reducible apply Take.c|with_reducible apply Take.drop)⟩);(focus exact fun _ _ h=>h.1);(focus(repeat(first|exact Flat.c rfl))))|(apply yS;(iterate 4 exact rfl);(focus exact⟨_,c3 _ _,by repeat(first|with_reducible exact Take.nil|with_reducible apply yL|with_reducible apply Take.c|with_reducible apply Take.drop)⟩);(focus exact fun _ _ h=>h.1);(focus(repeat(first|exact Flat.c rfl))))|apply zA|((with_reducible apply Sd.mk);first|exact True.intro|omega)|exact True.intro|exact Rd.mk ⟨_,c0 _ _,by repeat(first|with_reducible exact Take.nil|with_reducible apply yL|with_reducible apply Take.c|with_reducible apply Take.drop)⟩|exact Or.inl rfl|apply And.intro|apply Or.inr|intro A|exact rfl)
 clear c0 c1 c2 c3 p0 p1 p2 p3
 repeat'(first|apply zF|apply zB|apply zE|(apply o_g zC;exact rfl;exact rfl)|(apply o_ar zC;exact rfl;exact rfl)|(apply zD;exact rfl;exact rfl;(focus first|exact rfl);exact rfl;(focus exact⟨_,q1 _,by repeat with_reducible exact Take.nil⟩);rintro _ _ ⟨rfl,rfl⟩)|(apply zD;exact rfl;exact rfl;(focus first|exact rfl);exact rfl;(focus exact⟨_,q2 _,by repeat with_reducible exact Take.nil⟩);rintro _ _ ⟨rfl,rfl⟩)|(apply zD;exact rfl;exact rfl;(focus first|exact rfl);exact rfl;(focus exact⟨_,q3 _,by repeat with_reducible exact Take.nil⟩);rintro _ _ ⟨rfl,rfl⟩)|(apply zD;exact rfl;exact rfl;(focus first|exact rfl);exact rfl;(focus exact⟨_,q4 _,by repeat with_reducible exact Take.nil⟩);rintro _ _ ⟨rfl,rfl⟩)|(apply zU;exact rfl;exact rfl)|(apply o_gT;(iterate 3 exact rfl);(focus first|with_reducible exact rfl))|(apply o_gF;(iterate 3 exact rfl);(focus first|omega))|(apply yD;exact rfl;(focus first|omega))|apply zA|apply zI|apply zN|((with_reducible apply Sd.mk);first|exact True.intro)|((with_reducible apply Wr.mk);first|exact IntWalk.i64_in _ (by omega)))
 all_goals first
  |contradiction
  |(exfalso;omega)
  |(apply zL;(exact(show ResS _ _ _ _ [_] from⟨rfl,trivial⟩));(focus exact rfl);(focus repeat with_reducible first|exact Take.nil|apply Take.c|apply Take.drop))
  |(apply zL;(exact(show ResS _ _ _ _ [_] from⟨rfl,trivial⟩));(focus show B _=B true;simp);(focus repeat with_reducible first|exact Take.nil|apply Take.c|apply Take.drop))
set_option maxHeartbeats 4000000 in
theorem Cheap_back (l:List UInt8)(u:Nat)(hu:u<256)(hn:l.length≤200)(i:Nat)(hi:i=u%(l.length+1))(h0:l≠[])(h1:0<i)(h2:i=l.length) :
  SRun Tryz.prog 4 [S l,.int .u8 u] [] fun r q=>r=B true:=by
 have em:(u:Int)%((l.length:Int)+1)=((u%(l.length+1):Nat):Int):=by push_cast;rfl
 rw[←hi]at em
 have g1:l.take i≠[]:=fun g=>by have e:=congrArg List.length g;rw[List.length_take,Nat.min_eq_left (by omega),List.length_nil]at e;omega
 have g2:l.drop i=[]:=List.drop_eq_nil_of_le (by omega)
 have n1:(l.take i).length≤200:=by rw[List.length_take];omega
 have n2:(l.drop i).length≤200:=by rw[List.length_drop];omega
 have p0:=fun h=>PiecesE l h (by omega) h0
 have p1:=fun h=>PiecesE (l.take i) h (by omega) g1
 have p2:∀h,SRun Tryz.prog 17 [S (l.drop i)] h fun r q=>r=.tuple #[.slice none 0 0,I 0]∧q=h:=fun h=>by rw[g2];exact PiecesN h
 have p3:=fun h=>GreedyE l h (by omega) h0
 have c0:=fun A n=>Ch1_lock l (pcs l) A n (pcs_cov (by omega)) (by omega)
 have c1:=fun A n=>Ch1_lock (l.take i) (pcs (l.take i)) A n (pcs_cov (by omega)) (by omega)
 have c2:=fun n=>Ch1_lockN n
 have c3:=fun A n=>Ch1_lock l (greedy l 4096).1 A n (greedy_cov (by decide) (by omega)).1 (by omega)
 refine zY Tryz.func4 rfl rfl ?_
 repeat'((fail_if_success (show SWp _ _ (Code.seq (Code.region 8 _ _) _) _ _ _));(fail_if_success (show SWp _ _ (Code.region 8 _ _) _ _ _));first|apply zF|apply zB|apply zE|(apply o_g zC;exact rfl;exact rfl)|(apply o_ar zC;exact rfl;exact rfl)|(apply o_ex;exact rfl;exact rfl)|(apply yR;exact rfl;exact rfl)|(apply yE zC;(iterate 4 exact rfl);(focus exact⟨rfl⟩);(focus exact up))|(apply yG zC;iterate 5 exact rfl)|(apply yT zC;exact rfl;exact rfl;(focus first|with_reducible exact pl49);exact rfl;(focus repeat(first|exact BuildR.nil|(apply BuildR.one;exact rfl;exact rfl;(first|(focus(repeat(first|exact SetAt.zero|apply SetAt.succ));done)))));exact rfl)|(apply o_makeFunc;iterate 3 exact rfl)|(apply zD;exact rfl;exact rfl;(focus first|exact rfl);exact rfl;(focus exact⟨_,awakeCodec_any _,by repeat with_reducible exact Take.nil⟩);rintro _ _ ⟨rfl,rfl⟩)|(apply zS;exact rfl)|(apply yD;exact rfl;(focus first|omega))|apply zA|apply zI|((with_reducible apply Sd.mk);first|exact True.intro|omega)|((with_reducible apply Ln.mk);first|rfl)|((with_reducible apply Wr.mk);first|exact IntWalk.i64_in _ (by omega))|((with_reducible apply Ex.mk);first|exact Int.tmod_eq_emod_of_nonneg (by omega))|((with_reducible apply Pu.mk);first|exact yA rfl)|exact True.intro|intro A)
 rw[em]
 obtain⟨o,t,q1,q2,q3,q4⟩:=lz_twice hn
 obtain⟨b0,b1,b2,b3,d1,d2,d3⟩:=cheap hn i (by omega)
 have z2:costs lcst (pcs (l.drop i))=0:=by rw[g2,pcs_nil];rfl
 generalize pcs l=P0 at *
 generalize pcs (l.take i)=P1 at *
 generalize pcs (l.drop i)=P2 at *
 generalize (greedy l 4096).1=P3 at *
 generalize costs lcst P0=x0 at *
 generalize costs lcst P1=x1 at *
 generalize costs lcst P2=x2 at *
 generalize costs lcst P3=x3 at *
 repeat'((fail_if_success (show SWp _ _ (Code.seq (Code.region 9 _ _) _) _ _ _));(fail_if_success (show SWp _ _ (Code.region 9 _ _) _ _ _));first|apply zF|apply zE|(apply yH;(focus kernel_rfl);(focus kernel_rfl))|(apply o_g zC;exact rfl;exact rfl)|(apply yU;(iterate 4 exact rfl);(focus exact⟨p0 _,by repeat with_reducible exact Take.nil⟩);(focus(intro _;(first|exact List.Perm.refl _)));(focus(intro A1 A2 ρ D e1 d1 hρ hD;refine⟨?_,?_⟩;(focus repeat(first|exact VR.const rfl|(apply VR.slc';(focus first|exact e1);(focus first|exact d1))|apply VRs.tuple|exact VRs.nil|apply VRs.cons));(focus repeat(first|((apply SHR.same);(focus intro x hx;(repeat(first|exact hx));done))|(apply SHR.cons;(focus first|exact e1);(focus repeat(first|((apply VRs.const);(focus first|exact recs_const (fun _ v hv=>by simp only[List.mem_cons,List.not_mem_nil,or_false]at hv;rcases hv with rfl|rfl|rfl|rfl|rfl <;> rfl)))))))))))|(apply yU;(iterate 4 exact rfl);(focus exact⟨p1 _,by repeat with_reducible exact Take.nil⟩);(focus(intro _;(first|exact List.Perm.refl _)));(focus(intro A1 A2 ρ D e1 d1 hρ hD;refine⟨?_,?_⟩;(focus repeat(first|exact VR.const rfl|(apply VR.slc';(focus first|exact e1);(focus first|exact d1))|apply VRs.tuple|exact VRs.nil|apply VRs.cons));(focus repeat(first|((apply SHR.same);(focus intro x hx;(repeat(first|exact hx));done))|(apply SHR.cons;(focus first|exact e1);(focus repeat(first|((apply VRs.const);(focus first|exact recs_const (fun _ v hv=>by simp only[List.mem_cons,List.not_mem_nil,or_false]at hv;rcases hv with rfl|rfl|rfl|rfl|rfl <;> rfl)))))))))))|(apply o_callE0;(iterate 4 exact rfl);(focus exact⟨p2 _,by repeat with_reducible exact Take.nil⟩);(focus first|exact List.Perm.refl _);(focus(intro ρ D hρ hD;refine⟨?_,?_⟩;(focus repeat(first|exact VR.const rfl));(focus repeat(first|((apply SHR.same);(focus intro x hx;(repeat(first|exact hx));done)))))))|(apply yU;(iterate 4 exact rfl);(focus exact⟨p3 _,by repeat with_reducible exact Take.nil⟩);(focus(intro _;(first|exact List.Perm.refl _)));(focus(intro A1 A2 ρ D e1 d1 hρ hD;refine⟨?_,?_⟩;(focus repeat(first|exact VR.const rfl|(apply VR.slc';(focus first|exact e1);(focus first|exact d1))|apply VRs.tuple|exact VRs.nil|apply VRs.cons));(focus repeat(first|((apply SHR.same);(focus intro x hx;(repeat(first|exact hx));done))|(apply SHR.cons;(focus first|exact e1);(focus repeat(first|((apply VRs.const);(focus first|exact recs_const (fun _ v hv=>by simp only[List.mem_cons,List.not_mem_nil,or_false]at hv;rcases hv with rfl|rfl|rfl|rfl|rfl <;> rfl)))))))))))|(apply yS;(iterate 4 exact rfl);(focus exact⟨_,c0 _ _,by repeat with_reducible exact Take.nil⟩);(focus exact fun _ _ h=>h.1);(focus(repeat(first|exact Flat.c rfl))))|(apply yS;(iterate 4 exact rfl);(focus exact⟨_,c1 _ _,by repeat(first|with_reducible exact Take.nil|with_reducible apply yL|with_reducible apply Take.c|with_reducible apply Take.drop)⟩);(focus exact fun _ _ h=>h.1);(focus(repeat(first|exact Flat.c rfl))))|(apply yS;(iterate 4 exact rfl);(focus exact⟨_,c2 _,by repeat(first|with_reducible exact Take.nil|with_reducible apply yL|with_reducible apply Take.c|with_reducible apply Take.drop)⟩);(focus exact fun _ _ h=>h.1);(focus(repeat(first|exact Flat.c rfl))))|(apply yS;(iterate 4 exact rfl);(focus exact⟨_,c3 _ _,by repeat(first|with_reducible exact Take.nil|with_reducible apply yL|with_reducible apply Take.c|with_reducible apply Take.drop)⟩);(focus exact fun _ _ h=>h.1);(focus(repeat(first|exact Flat.c rfl))))|apply zA|((with_reducible apply Sd.mk);first|exact True.intro|omega)|exact True.intro|exact Rd.mk ⟨_,c0 _ _,by repeat(first|with_reducible exact Take.nil|with_reducible apply yL|with_reducible apply Take.c|with_reducible apply Take.drop)⟩|exact Or.inl rfl|apply And.intro|apply Or.inr|intro A|exact rfl)
 clear c0 c1 c2 c3 p0 p1 p2 p3
 repeat'(first|apply zF|apply zB|apply zE|(apply o_g zC;exact rfl;exact rfl)|(apply o_ar zC;exact rfl;exact rfl)|(apply zD;exact rfl;exact rfl;(focus first|exact rfl);exact rfl;(focus exact⟨_,q1 _,by repeat with_reducible exact Take.nil⟩);rintro _ _ ⟨rfl,rfl⟩)|(apply zD;exact rfl;exact rfl;(focus first|exact rfl);exact rfl;(focus exact⟨_,q2 _,by repeat with_reducible exact Take.nil⟩);rintro _ _ ⟨rfl,rfl⟩)|(apply zD;exact rfl;exact rfl;(focus first|exact rfl);exact rfl;(focus exact⟨_,q3 _,by repeat with_reducible exact Take.nil⟩);rintro _ _ ⟨rfl,rfl⟩)|(apply zD;exact rfl;exact rfl;(focus first|exact rfl);exact rfl;(focus exact⟨_,q4 _,by repeat with_reducible exact Take.nil⟩);rintro _ _ ⟨rfl,rfl⟩)|(apply zU;exact rfl;exact rfl)|(apply o_gT;(iterate 3 exact rfl);(focus first|with_reducible exact rfl))|(apply o_gF;(iterate 3 exact rfl);(focus first|omega))|(apply yD;exact rfl;(focus first|omega))|apply zA|apply zI|apply zN|((with_reducible apply Sd.mk);first|exact True.intro)|((with_reducible apply Wr.mk);first|exact IntWalk.i64_in _ (by omega)))
 all_goals first
  |contradiction
  |(exfalso;omega)
  |(apply zL;(exact(show ResS _ _ _ _ [_] from⟨rfl,trivial⟩));(focus exact rfl);(focus repeat with_reducible first|exact Take.nil|apply Take.c|apply Take.drop))
  |(apply zL;(exact(show ResS _ _ _ _ [_] from⟨rfl,trivial⟩));(focus show B _=B true;simp);(focus repeat with_reducible first|exact Take.nil|apply Take.c|apply Take.drop))
set_option maxHeartbeats 4000000 in
theorem Cheap_nil (l:List UInt8)(u:Nat)(hu:u<256)(hn:l.length≤200)(i:Nat)(hi:i=u%(l.length+1))(h0n:l=[])(h1:i=0)(h2:l.length=0) :
  SRun Tryz.prog 4 [S l,.int .u8 u] [] fun r q=>r=B true:=by
 have em:(u:Int)%((l.length:Int)+1)=((u%(l.length+1):Nat):Int):=by push_cast;rfl
 rw[←hi]at em
 have g1:l.take i=[]:=by rw[show i=0 by omega];rfl
 have g2:l.drop i=[]:=List.drop_eq_nil_of_le (by omega)
 have n1:(l.take i).length≤200:=by rw[List.length_take];omega
 have n2:(l.drop i).length≤200:=by rw[List.length_drop];omega
 have p0:∀h,SRun Tryz.prog 17 [S l] h fun r q=>r=.tuple #[.slice none 0 0,I 0]∧q=h:=fun h=>by rw[h0n];exact PiecesN h
 have p1:∀h,SRun Tryz.prog 17 [S (l.take i)] h fun r q=>r=.tuple #[.slice none 0 0,I 0]∧q=h:=fun h=>by rw[g1];exact PiecesN h
 have p2:∀h,SRun Tryz.prog 17 [S (l.drop i)] h fun r q=>r=.tuple #[.slice none 0 0,I 0]∧q=h:=fun h=>by rw[g2];exact PiecesN h
 have p3:∀h,SRun Tryz.prog 18 [S l,I 4096] h fun r q=>r=.tuple #[.slice none 0 0,I 0]∧q=h:=fun h=>by rw[h0n];exact GreedyN h
 have c0:=fun n=>Ch1_lockN n
 have c1:=fun n=>Ch1_lockN n
 have c2:=fun n=>Ch1_lockN n
 have c3:=fun n=>Ch1_lockN n
 refine zY Tryz.func4 rfl rfl ?_
 repeat'((fail_if_success (show SWp _ _ (Code.seq (Code.region 8 _ _) _) _ _ _));(fail_if_success (show SWp _ _ (Code.region 8 _ _) _ _ _));first|apply zF|apply zB|apply zE|(apply o_g zC;exact rfl;exact rfl)|(apply o_ar zC;exact rfl;exact rfl)|(apply o_ex;exact rfl;exact rfl)|(apply yR;exact rfl;exact rfl)|(apply yE zC;(iterate 4 exact rfl);(focus exact⟨rfl⟩);(focus exact up))|(apply yG zC;iterate 5 exact rfl)|(apply yT zC;exact rfl;exact rfl;(focus first|with_reducible exact pl49);exact rfl;(focus repeat(first|exact BuildR.nil|(apply BuildR.one;exact rfl;exact rfl;(first|(focus(repeat(first|exact SetAt.zero|apply SetAt.succ));done)))));exact rfl)|(apply o_makeFunc;iterate 3 exact rfl)|(apply zD;exact rfl;exact rfl;(focus first|exact rfl);exact rfl;(focus exact⟨_,awakeCodec_any _,by repeat with_reducible exact Take.nil⟩);rintro _ _ ⟨rfl,rfl⟩)|(apply zS;exact rfl)|(apply yD;exact rfl;(focus first|omega))|apply zA|apply zI|((with_reducible apply Sd.mk);first|exact True.intro|omega)|((with_reducible apply Ln.mk);first|rfl)|((with_reducible apply Wr.mk);first|exact IntWalk.i64_in _ (by omega))|((with_reducible apply Ex.mk);first|exact Int.tmod_eq_emod_of_nonneg (by omega))|((with_reducible apply Pu.mk);first|exact yA rfl)|exact True.intro|intro A)
 rw[em]
 obtain⟨o,t,q1,q2,q3,q4⟩:=lz_twice hn
 obtain⟨b0,b1,b2,b3,d1,d2,d3⟩:=cheap hn i (by omega)
 have z0:costs lcst (pcs l)=0:=by rw[h0n,pcs_nil];rfl
 have z1:costs lcst (pcs (l.take i))=0:=by rw[g1,pcs_nil];rfl
 have z2:costs lcst (pcs (l.drop i))=0:=by rw[g2,pcs_nil];rfl
 have z3:costs lcst ((greedy l 4096).1)=0:=by rw[h0n];decide +kernel
 generalize pcs l=P0 at *
 generalize pcs (l.take i)=P1 at *
 generalize pcs (l.drop i)=P2 at *
 generalize (greedy l 4096).1=P3 at *
 generalize costs lcst P0=x0 at *
 generalize costs lcst P1=x1 at *
 generalize costs lcst P2=x2 at *
 generalize costs lcst P3=x3 at *
 repeat'((fail_if_success (show SWp _ _ (Code.seq (Code.region 9 _ _) _) _ _ _));(fail_if_success (show SWp _ _ (Code.region 9 _ _) _ _ _));first|apply zF|apply zE|(apply yH;(focus kernel_rfl);(focus kernel_rfl))|(apply o_g zC;exact rfl;exact rfl)|(apply o_callE0;(iterate 4 exact rfl);(focus exact⟨p0 _,by repeat with_reducible exact Take.nil⟩);(focus first|exact List.Perm.refl _);(focus(intro ρ D hρ hD;refine⟨?_,?_⟩;(focus repeat(first|exact VR.const rfl));(focus repeat(first|((apply SHR.same);(focus intro x hx;(repeat(first|exact hx));done)))))))|(apply o_callE0;(iterate 4 exact rfl);(focus exact⟨p1 _,by repeat with_reducible exact Take.nil⟩);(focus first|exact List.Perm.refl _);(focus(intro ρ D hρ hD;refine⟨?_,?_⟩;(focus repeat(first|exact VR.const rfl));(focus repeat(first|((apply SHR.same);(focus intro x hx;(repeat(first|exact hx));done)))))))|(apply o_callE0;(iterate 4 exact rfl);(focus exact⟨p2 _,by repeat with_reducible exact Take.nil⟩);(focus first|exact List.Perm.refl _);(focus(intro ρ D hρ hD;refine⟨?_,?_⟩;(focus repeat(first|exact VR.const rfl));(focus repeat(first|((apply SHR.same);(focus intro x hx;(repeat(first|exact hx));done)))))))|(apply o_callE0;(iterate 4 exact rfl);(focus exact⟨p3 _,by repeat with_reducible exact Take.nil⟩);(focus first|exact List.Perm.refl _);(focus(intro ρ D hρ hD;refine⟨?_,?_⟩;(focus repeat(first|exact VR.const rfl));(focus repeat(first|((apply SHR.same);(focus intro x hx;(repeat(first|exact hx));done)))))))|(apply yS;(iterate 4 exact rfl);(focus exact⟨_,c0 _,by repeat with_reducible exact Take.nil⟩);(focus exact fun _ _ h=>h.1);(focus(repeat(first|exact Flat.c rfl))))|apply zA|((with_reducible apply Sd.mk);first|exact True.intro|omega)|exact True.intro|exact Rd.mk ⟨_,c0 _,by repeat with_reducible exact Take.nil⟩|exact Or.inl rfl|apply And.intro|apply Or.inr|exact rfl)
 clear c0 c1 c2 c3 p0 p1 p2 p3
 repeat'(first|apply zF|apply zB|apply zE|(apply o_g zC;exact rfl;exact rfl)|(apply o_ar zC;exact rfl;exact rfl)|(apply zD;exact rfl;exact rfl;(focus first|exact rfl);exact rfl;(focus exact⟨_,q1 _,by repeat with_reducible exact Take.nil⟩);rintro _ _ ⟨rfl,rfl⟩)|(apply zD;exact rfl;exact rfl;(focus first|exact rfl);exact rfl;(focus exact⟨_,q2 _,by repeat with_reducible exact Take.nil⟩);rintro _ _ ⟨rfl,rfl⟩)|(apply zD;exact rfl;exact rfl;(focus first|exact rfl);exact rfl;(focus exact⟨_,q3 _,by repeat with_reducible exact Take.nil⟩);rintro _ _ ⟨rfl,rfl⟩)|(apply zD;exact rfl;exact rfl;(focus first|exact rfl);exact rfl;(focus exact⟨_,q4 _,by repeat with_reducible exact Take.nil⟩);rintro _ _ ⟨rfl,rfl⟩)|(apply zU;exact rfl;exact rfl)|(apply o_gT;(iterate 3 exact rfl);(focus first|with_reducible exact rfl))|(apply zS;exact rfl)|apply zA|apply zI|apply zN|((with_reducible apply Sd.mk);first|exact True.intro)|((with_reducible apply Wr.mk);first|exact IntWalk.i64_in _ (by omega)))
 all_goals first
  |contradiction
  |(exfalso;omega)
  |(apply zL;(exact(show ResS _ _ _ _ [_] from⟨rfl,trivial⟩));(focus exact rfl);(focus repeat with_reducible first|exact Take.nil|apply Take.c|apply Take.drop))
  |(apply zL;(exact(show ResS _ _ _ _ [_] from⟨rfl,trivial⟩));(focus show B _=B true;simp);(focus repeat with_reducible first|exact Take.nil|apply Take.c|apply Take.drop))
theorem Cheap_any (l:List UInt8)(u:Nat)(hu:u<256)(hl:l.length≤9223372036854775807) :
  SRun Tryz.prog 4 [S l,.int .u8 u] [] fun r q=>r=B true:=by
 by_cases hn:l.length≤200
 ·obtain⟨i,hi⟩:∃i,i=u%(l.length+1):=⟨_,rfl⟩
  have hm:i<l.length+1:=by rw[hi];exact Nat.mod_lt u (by omega)
  by_cases h0:l=[]
  ·have h2:l.length=0:=by rw[h0];rfl
   exact Cheap_nil l u hu hn i hi h0 (by omega) h2
  ·have h3:=List.length_pos_iff.2 h0
   by_cases h1:i=0
   ·exact Cheap_front l u hu hn i hi h0 h1 (by omega)
   ·by_cases h2:i=l.length
    ·exact Cheap_back l u hu hn i hi h0 (by omega) h2
    ·exact Cheap_mid l u hu hn i hi h0 (by omega) (by omega)
 ·refine zY Tryz.func4 rfl rfl ?_
  repeat'(first|apply zF|apply zB|apply zE|(apply o_g zC;exact rfl;exact rfl)|(apply yR;exact rfl;exact rfl)|(apply zD;exact rfl;exact rfl;(focus first|exact rfl);exact rfl;(focus exact⟨_,awakeCodec_any _,by repeat with_reducible exact Take.nil⟩);rintro _ _ ⟨rfl,rfl⟩)|(apply zS;exact rfl)|(apply yC;exact rfl;(focus first|omega))|apply zA|apply zP|apply zI|apply zN|((with_reducible apply Sd.mk);first|exact True.intro))
  all_goals first
   |contradiction
   |(exfalso;omega)
   |(apply zL;(exact(show ResS _ _ _ _ [_] from⟨rfl,trivial⟩));(focus exact rfl);(focus repeat with_reducible first|exact Take.nil|apply Take.c|apply Take.drop))
theorem Cheap_law (l:List UInt8)(u:Int)(hl:l.length≤9223372036854775807)(hu:0≤u∧u<256) :
  SRun Tryz.prog 4 [S l,.int .u8 u] [] fun r _=>r=B true:=by
 obtain⟨n,rfl⟩:=Int.eq_ofNat_of_zero_le hu.1
 exact Cheap_any l n (by omega) hl
end Go.Proofs.YteddogfolceahaaGreat
end
