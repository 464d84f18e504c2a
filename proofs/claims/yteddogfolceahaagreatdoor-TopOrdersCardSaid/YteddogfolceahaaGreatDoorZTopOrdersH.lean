/- Part 8 of the proof of the law TopOrders: texts merged. No condition. -/
import Derived.Test.YteddogfolceahaaGreatDoorZTopOrdersG
set_option linter.unusedSimpArgs false
set_option linter.unusedVariables false
section
set_option maxRecDepth 4000
namespace Go.Proofs.YteddogfolceahaaGreatDoor
open Go.Gh Go.RowKit

theorem Valid_any (w:Int)(l:List UInt8)(h:SH)(hl:l.length≤9223372036854775807):SRun Tryz.prog 63 [I w,S l] h fun r q=>r=B (decide (isV l∧(l.length:Int)=w))∧q=h:=by
 refine zY Tryz.func63 rfl rfl ?_
 repeat'(first|apply zF|apply zB|apply zE|refine jg ?_ ?_|refine jq ?_ (c:=by exact⟨_,is_any _ _ hl,jN⟩)|refine jw ?_|refine jk ?_|(apply o_guardT;(iterate 3 exact rfl);all_goals intro hc)|apply zA|apply zN|exact jS|fail)
 all_goals exact jF (k:=by exact⟨by show B _=B _;simp[*],rfl⟩)

theorem BValid_any (w:Int)(L:List (List UInt8))(v:Value)(h:SH)(hv:Has h (L.map sV) 1 L.length v)(hl:L.length≤4096)(hw:1≤w∧w≤128)(hs:∀s∈L,isV s∧(s.length:Int)=w) :
  SRun Tryz.prog 30 [I w,v] h fun r q=>r=B true∧q=h:=by
 obtain⟨ad,fl,rfl,hh⟩:=hv
 have hlb:(L.map sV).length=L.length:=by simp
 refine zY Tryz.func30 rfl rfl ?_
 repeat'(first|apply zF|apply zB|apply zE|refine jg ?_ ?_|apply zA|apply zH|exact jS|fail)
 all_goals first|(exfalso;omega)|skip
 refine zZ (S:=Nat) (fun i=>[(0,I w),(1,.slice ad L.length fl),(7,.slice ad L.length fl),(8,I L.length),(9,I i)]) (fun _=>h) (fun i=>i≤L.length) (fun i=>L.length-i) 0 (Nat.zero_le _) jB jK ?_
 rintro i hi
 by_cases hil:i<L.length
 ·obtain⟨A',ro,h1,rfl,hp⟩:=hh (by omega)
  have hc1:(L.map sV)[0+((i:Int)).toNat*1]?=some (S L[i]!):=yM hil
  have hsi:=ihas_bang hs hil
  generalize L[i]! = s at *
  have hV:=fun h=>Valid_any w s h (by omega)
  rw[decide_eq_true hsi]at hV
  repeat'(first|apply zF|apply zB|apply zE|refine jg ?_ ?_|(apply o_ar zC;exact rfl;exact rfl)|(apply yR;exact rfl;exact rfl)|(apply zM zC;(iterate 3 exact rfl);exact pk)|refine jq ?_ (c:=by exact⟨_,hV _,jN⟩)|(apply zS;exact rfl)|refine jd ?_|apply zA|apply zG|apply zI|apply zH|exact jO|((with_reducible apply Ln.mk);first|(simp[hlb];first|done|omega))|exact jW|((with_reducible apply Ce.mk);first|exact hc1)|exact True.intro|exact rfl)
  all_goals first
   |exact jX
   |exact⟨i+1,hil,by show L.length-(i+1)<L.length-i;omega,jB,jK⟩
 ·obtain rfl:i=L.length:=by omega
  repeat'(first|apply zF|apply zB|apply zE|refine jg ?_ ?_|refine jw ?_|refine jh ?_|refine jf ?_|apply zA|apply zK|apply zJ|apply zN|apply zV|exact jS|fail)
  all_goals first
   |exact jX
   |exact jF (k:=by exact⟨congrArg B (decide_eq_true (by omega)),rfl⟩)
def sh1 (l:List UInt8):List UInt8:=if isV l then bsh l else []
theorem short_gen (L:List (List UInt8))(v:Value)(h:SH)(hv:Has h (L.map sV) 1 L.length v)(hl:L.length≤4096)(hs:∀s∈L,s.length≤100000) :
  SRun Tryz.prog 165 [v] h fun r q=>∃A,r=gsl A 0 L.length L.length 1∧q=(A,⟨(L.map sh1).map sV,false⟩)::h:=by
 obtain⟨ad,fl,rfl,hh⟩:=hv
 have hlb:(L.map sV).length=L.length:=by simp
 have hgl:(L.map sh1).length=L.length:=by simp
 have hbg:=fun i (hi:i<L.length)=>map_bang (f:=sh1) hi
 generalize L.map sh1=X at *
 have hz:zrow (S []) (((L.length:Nat):Int).toNat*1)=(X.take 0++List.replicate (X.length-0) []).map sV:=by
  rw[List.take_zero,List.nil_append,Nat.sub_zero,hgl];exact map_zrow (f:=sV) [] rfl rfl _
 refine zR Tryz.func165 rfl rfl ?_
 repeat'(first|apply zF|apply zB|apply zE|refine jg ?_ ?_|(apply o_makeSlice zC;(iterate 6 exact rfl);decide;omega;(focus first|exact hz);exact rfl)|apply zA|apply zH|exact jS|intro A)
 all_goals first|(exfalso;omega)|skip
 revert A;intro A3
 refine zZ (S:=Nat) (fun i=>[(3,gsl A3 0 (L.length*1) L.length 1),(9,.slice ad L.length fl),(10,I L.length),(11,I i)])
  (fun i=>(A3,⟨(X.take i++List.replicate (X.length-i) []).map sV,false⟩)::h) (fun i=>i≤L.length) (fun i=>L.length-i) 0 (Nat.zero_le _) jB jK ?_
 rintro i hi
 by_cases hil:i<L.length
 ·obtain⟨A',ro,h1,rfl,hp⟩:=hh (by omega)
  have hc1:(L.map sV)[0+((i:Int)).toNat*1]?=some (S L[i]!):=yM hil
  have hst:=set_prog (X:=X) (z:=([]:List UInt8)) (i:=i) (by omega)
  rw[hbg i hil]at hst
  have hsi:=ihas_bang hs hil
  generalize L[i]! = s at *
  have hS:∀h,SRun Tryz.prog 166 [S s] h fun r q=>r=S (sh1 s)∧q=h:=fun h=>Shorten_any s h (by omega)
  generalize sh1 s=y at *
  have hml:(X.take i++List.replicate (X.length-i) []).length=L.length:=by simp;omega
  have hlen:((X.take i++List.replicate (X.length-i) []).map sV).length=L.length*1:=by rw[List.length_map,hml,Nat.mul_one]
  have hset:SetAt ((X.take i++List.replicate (X.length-i) []).map sV) (0+((i:Int)).toNat*1) (S y) ((X.take (i+1)++List.replicate (X.length-(i+1)) []).map sV):=by
   rw[←hst];exact setAt_mapZ (by omega)
  repeat'(first|apply zF|apply zB|apply zE|refine jg ?_ ?_|(apply o_ar zC;exact rfl;exact rfl)|(apply zM zC;(iterate 3 exact rfl);exact pk)|(apply zX zC;(iterate 4 exact rfl);exact up)|refine jq ?_ (c:=by exact⟨_,hS _,jN⟩)|refine jd ?_|apply zA|apply zG|apply zI|apply zH|exact jO|((with_reducible apply Ln.mk);first|omega|(simp[hlb,hlen];first|done|omega))|exact jW|((with_reducible apply Ce.mk);first|exact hc1)|((with_reducible apply Se.mk);first|exact hset)|exact True.intro|exact rfl)
  all_goals first
   |exact jX
   |exact⟨i+1,hil,by show L.length-(i+1)<L.length-i;omega,jB,jK⟩
 ·have e:i=L.length:=by omega
  subst e
  have hfin:X.take L.length++List.replicate (X.length-L.length) []=X:=by rw[←hgl,List.take_length,Nat.sub_self];simp
  rw[hfin]
  repeat'(first|apply zF|apply zB|apply zE|refine jg ?_ ?_|refine jf ?_|apply zA|apply zK|apply zJ|apply zN|apply zV|exact jS|fail)
  all_goals first
   |(exfalso;omega)
   |exact jF (k:=by exact⟨A3,congrArg (fun z=>gsl A3 0 z L.length 1) (Nat.mul_one _),rfl⟩)
theorem hasS {X:List (List UInt8)}{n:Nat}(hX:X.length=n){q h1:SH}{A:Nat}(p:Pick q A ⟨X.map sV,false⟩ h1):Has q (X.map sV) 1 X.length (gsl A 0 n n 1):=by
 subst hX;exact⟨_,_,rfl,fun _=>⟨A,_,_,by rw[Nat.one_mul],p⟩⟩
theorem words_any (w:Int)(L:List (List UInt8))(v:Value)(h:SH)(hv:Has h (L.map sV) 1 L.length v)(hl:L.length≤4096)(hs:∀s∈L,s.length≤100000)(k:RlOk (L.map sh1)) :
  SRun Tryz.prog 108 [.agg ⟨[I w]⟩,v] h fun r q=>r=.tuple #[S (rlA (L.map sh1)),B true]∧q=h:=by
 have h1:=fun h hv=>short_gen L v h hv hl hs
 have h2:=fun v h hv=>REncode_any (L.map sh1) v h hv k
 have hX:(L.map sh1).length=L.length:=by simp
 generalize rlA (L.map sh1)=R at *
 clear k
 generalize L.map sh1=X at *
 refine zY Tryz.func108 rfl rfl ?_
 repeat'(first|apply zF|apply zB|apply zE|refine jg ?_ ?_|refine jx ?_|(refine jc ?_ (c:=by exact⟨_,h1 _ (hv.re (.drop .nil)),jN⟩);rintro _ _ ⟨A1,rfl,rfl⟩)|refine jq ?_ (c:=by exact⟨_,h2 _ _ (hasS hX .head),jN⟩)|apply zA|apply zN|exact jS|intro A)
 all_goals first
  |contradiction
  |exact jG
def mxs :List UInt8→List (List UInt8)→List (List UInt8)
 |_,[]=>[]
 |a,v::r=>(mxR v a).1::mxs v r
theorem mxs_len :∀(L:List (List UInt8)) (a:List UInt8),(mxs a L).length=L.length
 |[],_=>rfl
 |t::r,a=>congrArg (·+1) (mxs_len r t)
def mixE (w:Int)(L:List (List UInt8)):List UInt8:=rlA ((mxs (allR w 48) L).map sh1)
set_option maxHeartbeats 1000000 in
theorem mixed_any (w:Int)(L:List (List UInt8))(v:Value)(h:SH)(hv:Has h (L.map sV) 1 L.length v)(hl:L.length≤4096)(hs:∀s∈L,s.length≤128)(ha:(allR w 48).length≤128)(hx:∀s∈mxs (allR w 48) L,s.length≤100000)(k:RlOk ((mxs (allR w 48) L).map sh1)) :
  SRun Tryz.prog 107 [.agg ⟨[I w]⟩,v] h fun r q=>r=.tuple #[S (mixE w L),B true]∧q=h:=by
 obtain⟨ad,fl,rfl,hh⟩:=id hv
 have hlb:(L.map sV).length=L.length:=by simp
 have hA:=fun h=>All_any w 48 h (by decide)
 have hgl:=mxs_len L (allR w 48)
 have h1:=fun v h hv=>short_gen (mxs (allR w 48) L) v h hv (by omega) hx
 have h2:=fun v h hv=>REncode_any ((mxs (allR w 48) L).map sh1) v h hv k
 unfold mixE
 generalize rlA ((mxs (allR w 48) L).map sh1)=RR at *
 clear k hx
 obtain⟨X,hX⟩:∃X,mxs (allR w 48) L=X:=⟨_,rfl⟩
 rw[hX]at hgl h1 h2
 generalize allR w 48=a0 at *
 have hYl:(X.map sh1).length=L.length:=by simp[hgl]
 generalize X.map sh1=Y at *
 have hz:zrow (S []) (((L.length:Nat):Int).toNat*1)=(X.take 0++List.replicate (X.length-0) []).map sV:=by
  rw[List.take_zero,List.nil_append,Nat.sub_zero,hgl];exact map_zrow (f:=sV) [] rfl rfl _
 refine zY Tryz.func107 rfl rfl ?_
 repeat'(first|apply zF|apply zB|apply zE|refine jg ?_ ?_|(apply zM zC;(iterate 3 exact rfl);exact pk)|refine jx ?_|(apply o_makeSlice zC;(iterate 6 exact rfl);decide;omega;(focus first|exact hz);exact rfl)|refine jq ?_ (c:=by exact⟨_,hA _,jN⟩)|apply zA|apply zH|exact jS|exact jL|exact jE|exact True.intro|intro A|exact rfl)
 all_goals first|(exfalso;omega)|skip
 revert A;intro A6
 refine zZ (S:=Nat × List UInt8) (fun s=>[(6,gsl A6 0 (L.length*1) L.length 1),(7,S s.2),(18,.slice ad L.length fl),(19,I L.length),(20,I s.1)])
  (fun s=>(A6,⟨(X.take s.1++List.replicate (X.length-s.1) []).map sV,false⟩)::h) (fun s=>s.1≤L.length∧s.2.length≤128∧X.drop s.1=mxs s.2 (L.drop s.1)) (fun s=>L.length-s.1) (0,a0) ⟨Nat.zero_le _,ha,hX.symm⟩ jB jK ?_
 rintro⟨i,b⟩ ⟨hi,hbl,hd⟩
 dsimp only at hi hbl hd ⊢
 by_cases hil:i<L.length
 ·obtain⟨A',ro,h1',rfl,hp⟩:=hh (by omega)
  rw[drop_bang hil,drop_bang (show i<X.length by omega)]at hd
  obtain⟨hd1,hd2⟩:=List.cons.inj hd
  have hst:=set_prog (X:=X) (z:=([]:List UInt8)) (i:=i) (by omega)
  have hc1:(L.map sV)[0+((i:Int)).toNat*1]?=some (S L[i]!):=yM hil
  rw[hd1]at hst
  have hsi:=ihas_bang hs hil
  generalize L[i]! = s at *
  have hM:=fun h=>Mix_any s b h (by omega) (by omega)
  generalize mxR s b=y at *
  obtain⟨y,ye⟩:=y
  dsimp only at hst
  have hml:(X.take i++List.replicate (X.length-i) []).length=L.length:=by simp;omega
  have hlen:((X.take i++List.replicate (X.length-i) []).map sV).length=L.length*1:=by rw[List.length_map,hml,Nat.mul_one]
  have hset:SetAt ((X.take i++List.replicate (X.length-i) []).map sV) (0+((i:Int)).toNat*1) (S y) ((X.take (i+1)++List.replicate (X.length-(i+1)) []).map sV):=by
   rw[←hst];exact setAt_mapZ (by omega)
  repeat'(first|apply zF|apply zB|apply zE|refine jg ?_ ?_|(apply o_ar zC;exact rfl;exact rfl)|(apply zM zC;(iterate 3 exact rfl);exact pk)|(apply zX zC;(iterate 4 exact rfl);exact up)|refine jq ?_ (c:=by exact⟨_,hM _,jN⟩)|refine jd ?_|apply zA|apply zG|apply zI|apply zH|exact jO|((with_reducible apply Ln.mk);first|omega|(simp[hlb,hlen];first|done|omega))|exact jW|((with_reducible apply Ce.mk);first|exact hc1)|((with_reducible apply Se.mk);first|exact hset)|exact True.intro|exact rfl)
  all_goals first
   |exact jX
   |exact⟨(i+1,s),⟨hil,hsi,hd2⟩,by show L.length-(i+1)<L.length-i;omega,jB,jK⟩
 ·have e:i=L.length:=by omega
  subst e
  have hfin:X.take L.length++List.replicate (X.length-L.length) []=X:=by rw[←hgl,List.take_length,Nat.sub_self];simp
  rw[hfin,Nat.mul_one]
  have h1:∀v h,Has h (X.map sV) 1 X.length v→SRun Tryz.prog 165 [v] h fun r q=>∃A,r=gsl A 0 L.length L.length 1∧q=(A,⟨Y.map sV,false⟩)::h:=fun v h hv=>by rw[←hgl];exact h1 v h hv
  repeat'(first|apply zF|apply zB|apply zE|refine jg ?_ ?_|(refine jc ?_ (c:=by exact⟨_,h1 _ _ (hasS hgl .head),jN⟩);rintro _ _ ⟨A1,rfl,rfl⟩)|refine jq ?_ (c:=by exact⟨_,h2 _ _ (hasS hYl .head),jN⟩)|refine jf ?_|apply zA|apply zK|apply zJ|apply zN|apply zV|exact jS|fail)
  all_goals first
   |exact jX
   |exact jG

def adR (a b:List UInt8):List UInt8:=if addOk a b then dsum a b a.length 0 else []
def dfR (a b:List UInt8):List UInt8:=if addOk a b then dsum b (emap nv a) b.length 1 else []
def badX (L:List (List UInt8))(st:List UInt8)(i:Nat):Bool:=decide (0<i) && decide (¬addOk L[i-1]! st∨adR L[i-1]! st≠L[i]!)
def xcN (L:List (List UInt8))(st:List UInt8)(n:Nat):List Int:=((List.range n).filter (badX L st)).map fun i:Nat=>(i:Int)
theorem xcN_step {L:List (List UInt8)}{st:List UInt8}{i:Nat}:xcN L st (i+1)=if badX L st i=true then xcN L st i++[(i:Int)] else xcN L st i:=by
 unfold xcN
 rw[List.range_succ,List.filter_append,List.map_append,filt1]
 by_cases h:badX L st i=true
 ·rw[if_pos h,if_pos h];rfl
 ·rw[if_neg h,if_neg h];exact List.append_nil _
theorem xcN_le (L:List (List UInt8))(st:List UInt8)(n:Nat):(xcN L st n).length≤n:=by
 unfold xcN
 rw[List.length_map]
 exact Nat.le_trans (List.length_filter_le _ _) (by simp)
set_option maxHeartbeats 1000000 in
theorem exceptions_any (L:List (List UInt8))(st:List UInt8)(v:Value)(h:SH)(hv:Has h (L.map sV) 1 L.length v)(hl:L.length≤4096)(hl0:1≤L.length)(hs:∀s∈L,s.length≤128)(hst:st.length≤1000)(hne:xcN L st L.length≠[]) :
  SRun Tryz.prog 164 [v,S st] h fun r q=>∃A,r=gsl A 0 (xcN L st L.length).length (xcN L st L.length).length 1∧q=(A,⟨nodes (xcN L st L.length),false⟩)::h:=by
 obtain⟨ad,fl,rfl,hh⟩:=id hv
 have hlb:(L.map sV).length=L.length:=by simp
 obtain⟨A',ro,h1,rfl,hp⟩:=hh (by omega)
 refine zY Tryz.func164 rfl rfl ?_
 repeat'(first|apply zF|apply zB|apply zE|refine jg ?_ ?_|apply zA|apply zH|exact jS|fail)
 all_goals first|(exfalso;omega)|skip
 refine zZ (S:=Nat × Value × SH) (fun s=>[(0,.slice (some ⟨A',0,some (1*L.length)⟩) L.length fl),(1,S st),(5,s.2.1),(6,I s.1)])
  (fun s=>s.2.2) (fun s=>1≤s.1∧s.1≤L.length∧GrO iV h (xcN L st s.1) s.2.1 s.2.2) (fun s=>L.length-s.1) (1,.slice none 0 0,h) ⟨Nat.le_refl _,hl0,(show xcN L st 1=[] by rw[xcN_step];rfl)▸.nil⟩ jB jK ?_
 rintro⟨i,u,q⟩ ⟨hi1,hi,hg⟩
 dsimp only at hi1 hi hg ⊢
 by_cases hil:i<L.length
 ·have hc1:(L.map sV)[0+((i:Int)).toNat*1]?=some (S L[i]!):=yM hil
  have hc2:(L.map sV)[0+((i:Int)-1).toNat*1]?=some (S L[i-1]!):=by
   rw[show((i:Int)-1).toNat=i-1 by omega];exact cell_map (by omega)
  have hs1:=ihas_bang hs hil
  have hs2:=ihas_bang hs (i:=i-1) (by omega)
  have hstp:=xcN_step (L:=L) (st:=st) (i:=i)
  have hbx:badX L st i=decide (¬addOk L[i-1]! st∨adR L[i-1]! st≠L[i]!):=by unfold badX;rw[decide_eq_true (by omega),Bool.true_and]
  rw[hbx]at hstp
  have hol:=xcN_le L st i
  have hgt:=hg.has.2
  generalize L[i]! = w at *
  generalize L[i-1]! = w1 at *
  have hA:∀h,SRun Tryz.prog 132 [S w1,S st] h fun r q=>r=.tuple #[S (adR w1 st),B (decide (addOk w1 st))]∧q=h:=fun h=>Add_any w1 st h (by omega) (by omega)
  obtain⟨h2,hp2,_⟩:=hgt.pick hp
  generalize adR w1 st=y at *
  by_cases hok:addOk w1 st∧y=w
  ·rw[if_neg (by rw[decide_eq_true_eq];intro g;rcases g with g|g;exact g hok.1;exact g hok.2)]at hstp
   rw[decide_eq_true hok.1]at hA
   have hyw:=hok.2
   repeat'(first|apply zF|apply zB|apply zE|refine jg ?_ ?_|(apply o_ar zC;exact rfl;exact rfl)|(apply yR;exact rfl;exact rfl)|(apply zM zC;(iterate 3 exact rfl);exact pk)|refine jb ?_|(refine jc ?_ (c:=by exact⟨_,hA _,jN⟩);rintro _ _ ⟨rfl,rfl⟩)|refine jw ?_|refine jd ?_|(apply w_ifN;exact rfl;all_goals intro hc)|apply zA|apply zG|apply zI|apply zH|exact jO|((with_reducible apply Ln.mk);first|(simp[hlb];first|done|omega))|exact jW|((with_reducible apply Ce.mk);first|exact hc1|exact hc2)|exact True.intro|intro A|exact rfl)
   all_goals first
    |exact jX
    |(rename SH=>q;exact⟨(i+1,u,q),⟨by show 1≤i+1;omega,hil,by show GrO iV h (xcN L st (i+1)) _ _;rw[hstp];exact hg⟩,by show L.length-(i+1)<L.length-i;omega,jB,jK⟩)
  ·rw[if_pos (by
    rw[decide_eq_true_eq]
    by_cases g:addOk w1 st
    ·exact .inr fun e=>hok ⟨g,e⟩
    ·exact .inl g)]at hstp
   have hno:addOk w1 st→y≠w:=fun g e=>hok ⟨g,e⟩
   generalize xcN L st i=O at *
   have hob:(nodes O).length=O.length:=by simp
   by_cases hak:addOk w1 st
   ·have hyw:=hno hak
    rw[decide_eq_true hak]at hA
    cases hg with
    |nil =>
     repeat'(first|apply zF|apply zB|apply zE|refine jg ?_ ?_|(apply o_ar zC;exact rfl;exact rfl)|(apply yR;exact rfl;exact rfl)|(apply zM zC;(iterate 3 exact rfl);exact pk)|refine jb ?_|(apply o_append_nil zC;(iterate 5 exact rfl);exact⟨by decide⟩;exact pk)|(refine jc ?_ (c:=by exact⟨_,hA _,jN⟩);rintro _ _ ⟨rfl,rfl⟩)|refine jw ?_|refine jd ?_|apply zA|apply zG|apply zI|apply zH|exact jV|((with_reducible apply Ln.mk);first|rfl|(simp[hlb];first|done|omega))|exact jW|((with_reducible apply Ce.mk);first|exact hc1|exact hc2)|exact jU|exact True.intro|intro A|exact rfl)
     all_goals first
      |exact jX
      |(rename SH=>h;exact⟨(i+1,gsl A 0 1 1 1,(A,⟨[I i],false⟩)::h),⟨by show 1≤i+1;omega,hil,by show GrO iV h (xcN L st (i+1)) (gsl A 0 1 1 1) _;rw[hstp];exact .ofc (n:=1) (k:=1) rfl rfl rfl⟩,by show L.length-(i+1)<L.length-i;omega,jB,jK⟩)
    |some P1 _ =>
     repeat'(first|apply zF|apply zB|apply zE|refine jg ?_ ?_|(apply o_ar zC;exact rfl;exact rfl)|(apply yR;exact rfl;exact rfl)|(apply zM zC;(iterate 3 exact rfl);exact pk)|refine jb ?_|(apply o_append zC;(iterate 5 exact rfl);exact⟨by decide⟩;exact up;exact pk)|(refine jc ?_ (c:=by exact⟨_,hA _,jN⟩);rintro _ _ ⟨rfl,rfl⟩)|refine jw ?_|refine jd ?_|apply zA|apply zG|apply zI|apply zH|exact jV|((with_reducible apply Ln.mk);first|rfl|omega|(simp[hlb,hob];first|done|omega))|exact jW|((with_reducible apply Ce.mk);first|exact hc1|exact hc2)|exact jU|exact True.intro|intro A|exact rfl)
     all_goals first
      |exact jX
      |exact⟨(i+1,gsl P1 0 (O.length+1*1) (O.length+1) 1,(P1,⟨nodes O++[I i],false⟩)::h),⟨by show 1≤i+1;omega,hil,by show GrO iV h (xcN L st (i+1)) (gsl P1 0 (O.length+1*1) (O.length+1) 1) _;rw[hstp];exact .ofc (n:=O.length+1) (k:=O.length+1*1) (by simp) (by simp) (by omega)⟩,by show L.length-(i+1)<L.length-i;omega,jB,jK⟩
   ·rw[decide_eq_false hak]at hA
    cases hg with
    |nil =>
     repeat'(first|apply zF|apply zB|apply zE|refine jg ?_ ?_|(apply o_ar zC;exact rfl;exact rfl)|(apply yR;exact rfl;exact rfl)|(apply zM zC;(iterate 3 exact rfl);exact pk)|refine jb ?_|(apply o_append_nil zC;(iterate 5 exact rfl);exact⟨by decide⟩;exact pk)|(refine jc ?_ (c:=by exact⟨_,hA _,jN⟩);rintro _ _ ⟨rfl,rfl⟩)|refine jk ?_|(apply yB;exact rfl)|refine jd ?_|apply zA|apply zG|apply zI|apply zH|exact jV|((with_reducible apply Ln.mk);first|rfl|(simp[hlb,hob];first|done|omega))|exact jW|((with_reducible apply Ce.mk);first|exact hc2)|exact jU|exact True.intro|intro A|exact rfl)
     all_goals first
      |exact jX
      |(rename SH=>h;exact⟨(i+1,gsl A 0 1 1 1,(A,⟨[I i],false⟩)::h),⟨by show 1≤i+1;omega,hil,by show GrO iV h (xcN L st (i+1)) (gsl A 0 1 1 1) _;rw[hstp];exact .ofc (n:=1) (k:=1) rfl rfl rfl⟩,by show L.length-(i+1)<L.length-i;omega,jB,jK⟩)
    |some P1 _ =>
     repeat'(first|apply zF|apply zB|apply zE|refine jg ?_ ?_|(apply o_ar zC;exact rfl;exact rfl)|(apply yR;exact rfl;exact rfl)|(apply zM zC;(iterate 3 exact rfl);exact pk)|refine jb ?_|(apply o_append zC;(iterate 5 exact rfl);exact⟨by decide⟩;exact up;exact pk)|(refine jc ?_ (c:=by exact⟨_,hA _,jN⟩);rintro _ _ ⟨rfl,rfl⟩)|refine jk ?_|(apply yB;exact rfl)|refine jd ?_|apply zA|apply zG|apply zI|apply zH|exact jV|((with_reducible apply Ln.mk);first|rfl|omega|(simp[hlb,hob];first|done|omega))|exact jW|((with_reducible apply Ce.mk);first|exact hc2)|exact jU|exact True.intro|intro A|exact rfl)
     all_goals first
      |exact jX
      |exact⟨(i+1,gsl P1 0 (O.length+1*1) (O.length+1) 1,(P1,⟨nodes O++[I i],false⟩)::h),⟨by show 1≤i+1;omega,hil,by show GrO iV h (xcN L st (i+1)) (gsl P1 0 (O.length+1*1) (O.length+1) 1) _;rw[hstp];exact .ofc (n:=O.length+1) (k:=O.length+1*1) (by simp) (by simp) (by omega)⟩,by show L.length-(i+1)<L.length-i;omega,jB,jK⟩
 ·have e:i=L.length:=by omega
  subst e
  generalize xcN L st L.length=O at *
  cases hg with
  |nil=>exact absurd rfl hne
  |some P1 _ =>
   repeat'(first|apply zF|apply zB|apply zE|refine jg ?_ ?_|refine jf ?_|apply zA|apply zK|apply zJ|apply zN|apply zV|exact jS|fail)
   all_goals first
    |exact jX
    |exact jF (k:=by exact⟨P1,rfl,rfl⟩)

abbrev Cts :=List (List UInt8 × Int)
def cinc :Cts→List UInt8→Cts
 |[],d=>[(d,1)]
 |e::r,d=>if e.1=d then(d,e.2+1)::r else e::cinc r d
def cgt :Cts→List UInt8→Int
 |[],_=>0
 |e::r,d=>if e.1=d then e.2 else cgt r d
def cM (C:Cts):List (List UInt8 × Value):=C.map fun e=>(e.1,I e.2)
def kys (C:Cts):List (List UInt8):=C.map fun e=>e.1
theorem mget_cM :∀(C:Cts) (d:List UInt8),(mget (cM C) d).getD (I 0)=I (cgt C d)
 |[],_=>rfl
 |e::r,d=>by
  show(if e.1=d then some (I e.2)else mget (cM r) d).getD (I 0)=I (if e.1=d then e.2 else cgt r d)
  split
  ·rfl
  ·exact mget_cM r d
theorem mput_cM :∀(C:Cts) (d:List UInt8),mput (cM C) d (I (cgt C d+1))=cM (cinc C d)
 |[],_=>rfl
 |e::r,d=>by
  by_cases h:e.1=d
  ·have h1:cgt (e::r) d=e.2:=if_pos h
   have h2:cinc (e::r) d=(d,e.2+1)::r:=if_pos h
   rw[h1,h2]
   show(if e.1=d then(d,I (e.2+1))::cM r else(e.1,I e.2)::mput (cM r) d _)=_
   rw[if_pos h];rfl
  ·have h1:cgt (e::r) d=cgt r d:=if_neg h
   have h2:cinc (e::r) d=e::cinc r d:=if_neg h
   rw[h1,h2]
   show(if e.1=d then _ else(e.1,I e.2)::mput (cM r) d (I (cgt r d+1)))=_
   rw[if_neg h,mput_cM r d];rfl
def cok (n:Int)(C:Cts):Prop:=∀e∈C,1≤e.2∧e.2≤n
theorem cok_inc {n:Int}(h0:0≤n):∀{C:Cts} {d:List UInt8},cok n C→cok (n+1) (cinc C d)
 |[],d,_=>fun e he=>by
  obtain rfl:e=(d,1):=List.mem_singleton.1 he
  exact⟨Int.le_refl _,by show 1≤n+1;omega⟩
 |a::r,d,h=>by
  have h1:=h a List.mem_cons_self
  have h2:cok n r:=fun e he=>h e (List.mem_cons_of_mem _ he)
  intro e he
  by_cases hd:a.1=d
  ·rw[show cinc (a::r) d=(d,a.2+1)::r from if_pos hd]at he
   rcases List.mem_cons.1 he with rfl|he
   ·exact⟨by show 1≤a.2+1;omega,by show a.2+1≤n+1;omega⟩
   ·have:=h2 e he;exact⟨this.1,by omega⟩
  ·rw[show cinc (a::r) d=a::cinc r d from if_neg hd]at he
   rcases List.mem_cons.1 he with rfl|he
   ·exact⟨h1.1,by omega⟩
   ·exact cok_inc h0 h2 e he
theorem cok_mono {n m:Int}{C:Cts}(h:cok n C)(k:n≤m):cok m C:=fun e he=>⟨(h e he).1,Int.le_trans (h e he).2 k⟩
theorem cgt_in {n:Int}(h0:0≤n):∀{C:Cts} {d:List UInt8},cok n C→0≤cgt C d∧cgt C d≤n
 |[],_,_=>⟨Int.le_refl _,h0⟩
 |e::r,d,h=>by
  have h1:=h e List.mem_cons_self
  show 0≤(if e.1=d then e.2 else cgt r d)∧(if e.1=d then e.2 else cgt r d)≤n
  split
  ·omega
  ·exact cgt_in h0 fun e he=>h e (List.mem_cons_of_mem _ he)
theorem kys_inc {n:Int}:∀{C:Cts} {d:List UInt8},cok n C→kys (cinc C d)=if cgt C d=0 then kys C++[d] else kys C
 |[],_,_=>rfl
 |e::r,d,h=>by
  have h1:=(h e List.mem_cons_self).1
  by_cases hd:e.1=d
  ·rw[show cinc (e::r) d=(d,e.2+1)::r from if_pos hd,show cgt (e::r) d=e.2 from if_pos hd,if_neg (by omega)]
   show d::kys r=e.1::kys r
   rw[hd]
  ·rw[show cinc (e::r) d=e::cinc r d from if_neg hd,show cgt (e::r) d=cgt r d from if_neg hd]
   have:=kys_inc (d:=d) fun e he=>h e (List.mem_cons_of_mem _ he)
   show e.1::kys (cinc r d)=_
   rw[this]
   split
   ·rfl
   ·rfl
def cN (L:List (List UInt8)):Nat→Cts
 |0=>[]
 |i+1=>if 0<i∧addOk L[i-1]! L[i]! then cinc (cN L i) (dfR L[i-1]! L[i]!)else cN L i
theorem cN_ok (L:List (List UInt8)):∀i:Nat,cok i (cN L i)∧(kys (cN L i)).length≤i
 |0=>⟨fun e he=>(by cases he),Nat.le_refl _⟩
 |i+1=>by
  obtain⟨h1,h2⟩:=cN_ok L i
  by_cases hc:0<i∧addOk L[i-1]! L[i]!
  ·rw[show cN L (i+1)=cinc (cN L i) (dfR L[i-1]! L[i]!)from if_pos hc]
   refine⟨by have:=cok_inc (d:=dfR L[i-1]! L[i]!) (by omega) h1;exact this,?_⟩
   rw[kys_inc h1]
   split
   ·rw[List.length_append];show _+1≤i+1;omega
   ·omega
  ·rw[show cN L (i+1)=cN L i from if_neg hc]
   exact⟨cok_mono h1 (by omega),by omega⟩
theorem drop_bngS {α:Type}[Inhabited α]{l:List α}{i:Nat}(h:i<l.length):l.drop i=l[i]!::l.drop (i+1):=by
 rw[getElem!_pos l i h];exact List.drop_eq_getElem_cons h
def bsp (C:Cts):List UInt8→List (List UInt8)→List UInt8
 |b,[]=>b
 |b,d::r=>bsp C (if cgt C b<cgt C d then d else b) r
def stp (L:List (List UInt8)):List UInt8:=bsp (cN L L.length) [] (kys (cN L L.length))
set_option maxHeartbeats 2000000 in
theorem Step_any (w:Int)(L:List (List UInt8))(v:Value)(h:SH)(hv:Has h (L.map sV) 1 L.length v)(hl:L.length≤4096)(hl0:1≤L.length)(hw:1≤w∧w≤128)(hs:∀s∈L,isV s∧(s.length:Int)=w) :
  SRun Tryz.prog 163 [v] h fun r q=>r=S (stp L)∧q=h:=by
 have hV:=fun h hv=>BValid_any w L v h hv hl hw hs
 obtain⟨ad,fl,rfl,hh⟩:=id hv
 have hlb:(L.map sV).length=L.length:=by simp
 obtain⟨A',ro,h1,rfl,hp⟩:=hh (by omega)
 have h00:(L.map sV)[0+(0:Int).toNat*1]?=some (S L[0]!):=cell_map (i:=0) (by omega)
 have hs0:=(ihas_bang hs (i:=0) (by omega)).2
 rw[←hs0]at hV
 generalize L[0]! = s0 at *
 refine zR Tryz.func163 rfl rfl ?_
 repeat'(first|apply zF|apply zB|apply zE|refine jg ?_ ?_|(apply yR;exact rfl;exact rfl)|(apply zM zC;(iterate 3 exact rfl);exact pk)|(apply zT zC;(iterate 5 exact rfl);decide;exact rfl;decide;(focus repeat(first|exact CatR.nil));exact rfl)|(apply o_makeMap;exact rfl)|(refine jc ?_ (c:=by exact⟨_,hV _ hv,jN⟩);rintro _ _ ⟨rfl,rfl⟩)|refine jw ?_|refine ji ?_|(apply zS;exact rfl)|apply zA|apply zI|apply zH|exact jO|((with_reducible apply Ln.mk);first|(simp[hlb];first|done|omega))|((with_reducible apply Ce.mk);first|exact h00)|exact True.intro|intro A|exact rfl)
 all_goals try exact jX
 rename SH=>h
 rename_i M
 revert A
 intro A4
 refine zZ (S:=Nat × Nat × Nat × List Value × List (List UInt8 × Value)) (fun s=>[(0,.slice (some ⟨A',0,some (1*L.length)⟩) L.length fl),(3,.map (some M)),(4,gsl A4 0 s.2.1 s.2.2.1 1),(5,I s.1)])
  (fun s=>(A4,⟨s.2.2.2.1,false⟩)::(M,⟨mapC (fun l:List UInt8=>S l) s.2.2.2.2,false⟩)::h) (fun s=>1≤s.1∧s.1≤L.length∧s.2.1=(kys (cN L s.1)).length∧s.2.2.1=(kys (cN L s.1)).length∧s.2.2.2.1=(kys (cN L s.1)).map sV∧s.2.2.2.2=cM (cN L s.1)) (fun s=>L.length-s.1) (1,0*1,0,[],[]) ⟨Nat.le_refl _,hl0,rfl,rfl,rfl,rfl⟩ jB (by repeat(first|with_reducible exact Take.nil|with_reducible apply Take.c|((with_reducible apply Take.cE);first|exact rfl|(apply blkE;(focus first|exact rfl|exact yI rfl|exact yO rfl|exact congrArg (fun v=>[v]) (gslE rfl rfl (by first|rfl|exact ‹_›|omega|(simp ;first|done|omega)) (by first|rfl|exact ‹_›|omega|(simp ;first|done|omega)) rfl))))|with_reducible apply Take.drop)) ?_
 rintro⟨i,k,n,c,m⟩ ⟨hi1,hi,hk,hn,hc,hm⟩
 dsimp only at hi1 hi hk hn hc hm ⊢
 subst hk hn hc hm
 obtain⟨hC1,hC2⟩:=cN_ok L i
 by_cases hil:i<L.length
 ·have hc1:(L.map sV)[0+((i:Int)).toNat*1]?=some (S L[i]!):=yM hil
  have hc2:(L.map sV)[0+((i:Int)-1).toNat*1]?=some (S L[i-1]!):=by
   rw[show((i:Int)-1).toNat=i-1 by omega];exact cell_map (by omega)
  have hs1:=ihas_bang hs hil
  have hs2:=ihas_bang hs (i:=i-1) (by omega)
  have hstp:cN L (i+1)=if 0<i∧addOk L[i-1]! L[i]! then cinc (cN L i) (dfR L[i-1]! L[i]!)else cN L i:=rfl
  have hA:∀h,SRun Tryz.prog 203 [S L[i-1]!,S L[i]!] h fun r q=>r=.tuple #[S (dfR L[i-1]! L[i]!),B (decide (addOk L[i-1]! L[i]!))]∧q=h:=fun h=>Difference_any _ _ h (by omega) (by omega)
  generalize dfR L[i-1]! L[i]! = d at *
  have hki:=kys_inc (d:=d) hC1
  have hgt:=cgt_in (d:=d) (by omega) hC1
  have hlk:=mget_cM (cN L i) d
  have hpu:=mput_cM (cN L i) d
  have hkb:((kys (cN L i)).map sV).length=(kys (cN L i)).length:=by simp
  generalize cN L i=C at *
  generalize L[i]! = w0 at *
  generalize L[i-1]! = w1 at *
  by_cases hak:addOk w1 w0
  ·rw[if_pos ⟨hi1,hak⟩]at hstp
   rw[decide_eq_true hak]at hA
   generalize kys C=K at *
   repeat'(first|apply zF|apply zB|apply zE|refine jr ?_|refine jg ?_ ?_|(apply o_ar zC;exact rfl;exact rfl)|(apply zM zC;(iterate 3 exact rfl);exact pk)|refine jb ?_|(apply o_append zC;(iterate 5 exact rfl);exact⟨by decide⟩;exact up;exact pk)|(apply o_lookup (α:=List UInt8) zC;exact rfl;exact pk;exact rfl;exact Tryz.underlying262;exact Tryz.underlying9;exact keyS;exact rfl;exact rfl;(focus first|exact hlk))|(apply o_mapUpdate (α:=List UInt8);exact rfl;exact up;exact rfl;exact rfl;exact Tryz.underlying262;exact Tryz.underlying9;exact keyS)|(apply yS;(iterate 4 exact rfl);exact⟨_,hA _,jN⟩;exact fun _ _ h=>h.1;(focus(repeat(first|exact Flat.c rfl))))|(apply yB;exact rfl)|refine jd ?_|(apply w_if;exact rfl;all_goals intro hc)|apply zA|apply zG|apply zI|apply zH|exact jV|((with_reducible apply Ln.mk);first|rfl|omega|(simp[hlb,hkb];first|done|omega))|exact jW|((with_reducible apply Ce.mk);first|exact hc1|exact hc2)|exact jU|exact True.intro|intro A|exact rfl)
   all_goals first
    |exact jX
    |skip
   ·rw[if_pos hc]at hki
    exact⟨(i+1,K.length+1*1,K.length+1,K.map sV++[S d],mput (cM C) d (.int .i64 (cgt C d+1))),⟨by show 1≤i+1;omega,hil,by show K.length+1*1=(kys (cN L (i+1))).length;rw[hstp,hki];simp,by show K.length+1=(kys (cN L (i+1))).length;rw[hstp,hki];simp,by show K.map sV++[S d]=(kys (cN L (i+1))).map sV;rw[hstp,hki];simp,by show mput (cM C) d (I (cgt C d+1))=cM (cN L (i+1));rw[hstp];exact hpu⟩,by show L.length-(i+1)<L.length-i;omega,jB,jK⟩
   ·rw[if_neg hc]at hki
    exact⟨(i+1,K.length,K.length,K.map sV,mput (cM C) d (.int .i64 (cgt C d+1))),⟨by show 1≤i+1;omega,hil,by show K.length=(kys (cN L (i+1))).length;rw[hstp,hki],by show K.length=(kys (cN L (i+1))).length;rw[hstp,hki],by show K.map sV=(kys (cN L (i+1))).map sV;rw[hstp,hki],by show mput (cM C) d (I (cgt C d+1))=cM (cN L (i+1));rw[hstp];exact hpu⟩,by show L.length-(i+1)<L.length-i;omega,jB,jK⟩
  ·rw[if_neg fun g=>hak g.2]at hstp
   rw[decide_eq_false hak]at hA
   repeat'(first|apply zF|apply zB|apply zE|refine jr ?_|refine jg ?_ ?_|(apply o_ar zC;exact rfl;exact rfl)|(apply zM zC;(iterate 3 exact rfl);exact pk)|(apply yS;(iterate 4 exact rfl);exact⟨_,hA _,jN⟩;exact fun _ _ h=>h.1;(focus(repeat(first|exact Flat.c rfl))))|(apply zS;exact rfl)|refine jd ?_|apply zA|apply zG|apply zI|apply zH|exact jO|((with_reducible apply Ln.mk);first|(simp[hlb];first|done|omega))|exact jW|((with_reducible apply Ce.mk);first|exact hc1|exact hc2)|exact True.intro|exact rfl)
   all_goals first
    |exact jX
    |exact⟨(i+1,(kys C).length,(kys C).length,(kys C).map sV,cM C),⟨by show 1≤i+1;omega,hil,by show(kys C).length=(kys (cN L (i+1))).length;rw[hstp],by show(kys C).length=(kys (cN L (i+1))).length;rw[hstp],by show(kys C).map sV=(kys (cN L (i+1))).map sV;rw[hstp],by show cM C=cM (cN L (i+1));rw[hstp]⟩,by show L.length-(i+1)<L.length-i;omega,jB,jK⟩
 ·obtain rfl:i=L.length:=by omega
  have hE:bsp (cN L L.length) [] ((kys (cN L L.length)).drop 0)=stp L:=rfl
  generalize cN L L.length=C at *
  generalize kys C=K at *
  have hkb:(K.map sV).length=K.length:=by simp
  repeat'(first|apply zF|apply zB|apply zE|refine jg ?_ ?_|refine jf ?_|apply zA|apply zK|apply zJ|apply zV|apply zH|exact jS|fail)
  all_goals try exact jX
  refine zZ (S:=Nat × List UInt8) (fun s=>[(3,.map (some M)),(8,S s.2),(57,gsl A4 0 K.length K.length 1),(58,I K.length),(59,I s.1)])
   (fun _=>(A4,⟨K.map sV,false⟩)::(M,⟨mapC (fun l:List UInt8=>S l) (cM C),false⟩)::h) (fun s=>s.1≤K.length∧bsp C s.2 (K.drop s.1)=stp L) (fun s=>K.length-s.1) (0,[]) ⟨Nat.zero_le _,hE⟩ jB jK ?_
  rintro⟨j,b⟩ ⟨hj,hb⟩
  dsimp only at hj hb ⊢
  by_cases hjl:j<K.length
  ·have hc1:(K.map sV)[0+((j:Int)).toNat*1]?=some (S K[j]!):=yM hjl
   rw[drop_bngS hjl]at hb
   generalize K[j]! = d at *
   replace hb:bsp C (if cgt C b<cgt C d then d else b) (K.drop (j+1))=stp L:=hb
   have hlk:=mget_cM C d
   have hlb:=mget_cM C b
   generalize cgt C d=x at *
   generalize cgt C b=y at *
   repeat'(first|apply zF|apply zB|apply zE|refine jg ?_ ?_|(apply o_ar zC;exact rfl;exact rfl)|(apply zM zC;(iterate 3 exact rfl);exact pk)|(apply o_lookup (α:=List UInt8) zC;exact rfl;exact pk;exact rfl;exact Tryz.underlying262;exact Tryz.underlying9;exact keyS;exact rfl;exact rfl;(focus first|exact hlk|exact hlb))|refine jd ?_|(apply w_if;exact rfl;all_goals intro hc)|apply zA|apply zG|apply zI|apply zH|exact jO|((with_reducible apply Ln.mk);first|omega)|exact jW|((with_reducible apply Ce.mk);first|exact hc1)|exact True.intro|exact rfl)
   all_goals first
    |exact jX
    |(rw[if_pos (by omega)]at hb;exact⟨(j+1,d),⟨hjl,hb⟩,by show K.length-(j+1)<K.length-j;omega,jB,jK⟩)
    |(rw[if_neg (by omega)]at hb;exact⟨(j+1,b),⟨hjl,hb⟩,by show K.length-(j+1)<K.length-j;omega,jB,jK⟩)
  ·obtain rfl:j=K.length:=by omega
   rw[List.drop_length]at hb
   replace hb:b=stp L:=hb
   subst hb
   repeat'(first|apply zF|apply zB|apply zE|refine jg ?_ ?_|refine jf ?_|apply zA|apply zK|apply zJ|apply zN|apply zV|exact jS|fail)
   all_goals first
    |exact jX
    |exact jG

inductive Gr3 (h:SH):List Int→List (List UInt8)→Value→Value→SH→Prop
 |nil:Gr3 h [] [] (.slice none 0 0) (.slice none 0 0) h
 |some (A B:Nat) (l:List Int) (m:List (List UInt8)):Gr3 h l m (gsl A 0 l.length l.length 1) (gsl B 0 m.length m.length 1) ((B,⟨m.map sV,false⟩)::(A,⟨nodes l,false⟩)::h)
theorem Gr3.ofc {h:SH}{A B n k n2 k2:Nat}{l:List Int}{m:List (List UInt8)}{c d:List Value}(hc:c=nodes l)(hd:d=m.map sV)(hn:l.length=n)(hk:k=n)(hn2:m.length=n2)(hk2:k2=n2) :
  Gr3 h l m (gsl A 0 k n 1) (gsl B 0 k2 n2 1) ((B,⟨d,false⟩)::(A,⟨c,false⟩)::h):=by
 subst hc hd hn hk hn2 hk2;exact .some A B l m
def xcs (L:List (List UInt8)):List Int:=xcN L (stp L) L.length
def ctP (X:List Int)(j:Nat):Int:=if j=0 then -1 else X[j-1]!
def ctg (X:List Int)(j:Nat):Int:=if j=0 then X[j]! else X[j]!-X[j-1]!-1
def ctG (L:List (List UInt8)):List Int:=(List.range (xcs L).length).map (ctg (xcs L))
def ctV (L:List (List UInt8)):List (List UInt8):=(xcs L).map fun x=>L[x.toNat]!
def cntE (L:List (List UInt8)):List UInt8:=vnum L.length++tx (sh1 L[0]!)++tx (sh1 (stp L))++tx (mEncN (ctG L)).1++rlA ((ctV L).map sh1)
theorem xcs_in {L:List (List UInt8)}:∀x∈xcs L,0≤x∧x<L.length:=by
 intro x hx
 obtain⟨i,hi,rfl⟩:=List.mem_map.1 hx
 have:=List.mem_range.1 (List.mem_filter.1 hi).1
 omega
theorem range_bang {n i:Nat}(h:i<n):(List.range n)[i]! = i:=by
 rw[getElem!_pos _ i (by rw[List.length_range];exact h),List.getElem_range]
set_option maxHeartbeats 4000000 in
theorem counter_any (w:Int)(L:List (List UInt8))(v:Value)(h:SH)(hv:Has h (L.map sV) 1 L.length v)(hl:L.length≤4096)(hl0:1≤L.length)(hw:1≤w∧w≤128)(hs:∀s∈L,isV s∧(s.length:Int)=w)
  (hst:(stp L).length≤128) (hne:xcs L≠[]) (he:(mEncN (ctG L)).1.length≤100000) (k:RlOk ((ctV L).map sh1)) (hr:(rlA ((ctV L).map sh1)).length≤100000) (hb1:(sh1 L[0]!).length≤128) (hb2:(sh1 (stp L)).length≤128) :
  SRun Tryz.prog 106 [.agg ⟨[I w]⟩,v] h fun r q=>r=.tuple #[S (cntE L),B true]∧q=h:=by
 have hsl:∀s∈L,s.length≤128:=fun s hx=>by have:=(hs s hx).2;omega
 have hS:=fun h hv=>Step_any w L v h hv hl hl0 hw hs
 have hX:=fun h hv=>exceptions_any L (stp L) v h hv hl hl0 hsl (by omega) hne
 replace hX:∀h,Has h (L.map sV) 1 L.length v→SRun Tryz.prog 164 [v,S (stp L)] h fun r q=>∃A,r=gsl A 0 (xcs L).length (xcs L).length 1∧q=(A,⟨nodes (xcs L),false⟩)::h:=hX
 have hxl:(xcs L).length≤L.length:=xcN_le L (stp L) L.length
 have hxi:=xcs_in (L:=L)
 have hGl:(ctG L).length=(xcs L).length:=by simp[ctG]
 have hVl:(ctV L).length=(xcs L).length:=by simp[ctV]
 have hVs:∀s∈ctV L,s.length≤100000:=fun s hx=>by
  obtain⟨x,hy,rfl⟩:=List.mem_map.1 hx
  have h1:=xcs_in x hy
  have h2:x.toNat<L.length:=by omega
  have:=hsl _ (mm_bang h2)
  exact Nat.le_trans this (by decide)
 have hG1:∀j,j<(xcs L).length→(ctG L)[j]! = ctg (xcs L) j:=fun j hj=>by unfold ctG;rw[map_bang (by rw[List.length_range];exact hj),range_bang hj]
 have hV1:∀j,j<(xcs L).length→(ctV L)[j]! = L[((xcs L)[j]!).toNat]!:=fun j hj=>by unfold ctV;rw[map_bang hj]
 have hSh:=fun v h hv=>short_gen (ctV L) v h hv (by omega) hVs
 have hRl:=fun v h hv=>REncode_any ((ctV L).map sh1) v h hv k
 have hN:=fun v h hv=>EncodeNumbers_any (ctG L) v h hv (by unfold maxLen;omega)
 have hT1:=fun h=>vText_any (sh1 L[0]!) h (by omega)
 have hT2:=fun h=>vText_any (sh1 (stp L)) h (by omega)
 have hT3:=fun h=>vText_any (mEncN (ctG L)).1 h (by omega)
 have hB1:∀h,SRun Tryz.prog 166 [S L[0]!] h fun r q=>r=S (sh1 L[0]!)∧q=h:=fun h=>Shorten_any _ h (by have:=hsl _ (mm_bang (l:=L) (i:=0) (by omega));omega)
 have hB2:∀h,SRun Tryz.prog 166 [S (stp L)] h fun r q=>r=S (sh1 (stp L))∧q=h:=fun h=>Shorten_any _ h (by omega)
 have hc0:(L.map sV)[0+(0:Int).toNat*1]?=some (S L[0]!):=cell_map (i:=0) (by omega)
 have z1:=vnumT_le L.length;have z2:=vnumT_le (sh1 L[0]!).length;have z3:=vnumT_le (sh1 (stp L)).length;have z4:=vnumT_le (mEncN (ctG L)).1.length
 have k1:=fun h=>Number_any (L.length:Int) h (by omega)
 unfold cntE tx
 clear k
 have hYl:((ctV L).map sh1).length=(ctV L).length:=by simp
 generalize rlA ((ctV L).map sh1)=RR at *
 generalize (ctV L).map sh1=Y at *
 generalize sh1 L[0]! = s1 at *
 generalize sh1 (stp L)=s2 at *
 generalize mEncN (ctG L)=E at *
 obtain⟨e1,e2⟩:=E
 dsimp only at he hT3 z4 ⊢
 generalize L[0]! = l0 at *
 generalize stp L=st at *
 generalize ctG L=GG at *
 generalize ctV L=VV at *
 generalize xcs L=X at *
 obtain⟨ad,fl,rfl,hh⟩:=id hv
 have hlb:(L.map sV).length=L.length:=by simp
 have hxb:(nodes X).length=X.length:=by simp
 obtain⟨A',ro,h1,rfl,hp⟩:=hh (by omega)
 have hX1:0<X.length:=List.length_pos_iff.2 hne
 refine zY Tryz.func106 rfl rfl ?_
 repeat'(first|apply zF|apply zB|apply zE|refine jg ?_ ?_|refine jx ?_|(refine jc ?_ (c:=by exact⟨_,k1 _,jN⟩);rintro _ _ ⟨rfl,rfl⟩)|(refine jc ?_ (c:=by exact⟨_,hS _ hv,jD⟩);rintro _ _ ⟨rfl,rfl⟩)|(refine jc ?_ (c:=by exact⟨_,hX _ hv,jN⟩);rintro _ _ ⟨A29,rfl,rfl⟩)|refine jf ?_|apply zA|apply zI|apply zH|exact jS|intro A)
 all_goals try exact jX
 rename SH=>h
 refine zZ (S:=Nat × Int × Value × Value × SH) (fun s=>[(1,.slice (some ⟨A',0,some (1*L.length)⟩) L.length fl),(6,S (vnum L.length)),(7,S st),(8,s.2.2.1),(9,s.2.2.2.1),(10,I s.2.1),(29,gsl A29 0 X.length X.length 1),(30,I X.length),(31,I s.1)])
  (fun s=>(A29,⟨nodes X,false⟩)::s.2.2.2.2) (fun s=>s.1≤X.length∧s.2.1=ctP X s.1∧Gr3 h (GG.take s.1) (VV.take s.1) s.2.2.1 s.2.2.2.1 s.2.2.2.2) (fun s=>X.length-s.1) (0,-1,.slice none 0 0,.slice none 0 0,h) ⟨Nat.zero_le _,rfl,.nil⟩ jB jK ?_
 rintro⟨j,p,u1,u2,q⟩ ⟨hj,hpj,hg⟩
 dsimp only at hj hpj hg ⊢
 by_cases hjl:j<X.length
 ·have hcx:(nodes X)[0+((j:Int)).toNat*1]?=some (I X[j]!):=yM hjl
  have hx1:=hxi _ (mm_bang hjl)
  have hcv:(L.map sV)[0+(X[j]!).toNat*1]?=some (S L[(X[j]!).toNat]!):=cell_map (by omega)
  have t1:GG.take (j+1)=GG.take j++[ctg X j]:=by rw[tk_bang (by omega),hG1 j hjl]
  have t2:VV.take (j+1)=VV.take j++[L[(X[j]!).toNat]!]:=by rw[tk_bang (by omega),hV1 j hjl]
  have l1:(GG.take j).length=j:=by rw[List.length_take];omega
  have l2:(VV.take j).length=j:=by rw[List.length_take];omega
  have hpn:X[j]! = ctP X (j+1):=(if_neg (Nat.succ_ne_zero j)).symm
  have hpl:-1000000≤p:=by
   rw[hpj];unfold ctP
   by_cases h0:j=0
   ·rw[if_pos h0];decide
   ·have:=hxi _ (mm_bang (l:=X) (i:=j-1) (by omega))
    rw[if_neg h0];omega
  have hgj:(ctP X j<0∧ctg X j=X[j]!)∨(0≤ctP X j∧ctP X j<L.length∧ctg X j=X[j]!-ctP X j-1):=by
   unfold ctP ctg
   by_cases h0:j=0
   ·rw[if_pos h0,if_pos h0];exact .inl ⟨by decide,rfl⟩
   ·have:=hxi _ (mm_bang (l:=X) (i:=j-1) (by omega))
    rw[if_neg h0,if_neg h0];exact .inr ⟨this.1,this.2,rfl⟩
  generalize GG.take j=X1 at *
  generalize VV.take j=C1 at *
  have b1:(nodes X1).length=j:=by rw[List.length_map,l1]
  have b2:(C1.map sV).length=j:=by rw[List.length_map,l2]
  rw[←hpj]at hgj
  clear hpj
  generalize ctg X j=g at *
  generalize X[j]! = x at *
  generalize L[x.toNat]! = y at *
  have hpb:-1000000≤p∧p≤1000000:=⟨hpl,by omega⟩
  have t1p:p<0→GG.take (j+1)=X1++[x]:=fun g0=>by rw[t1,show g=x by omega]
  have t1n:¬p<0→GG.take (j+1)=X1++[x-p-1]:=fun g0=>by rw[t1,show g=x-p-1 by omega]
  clear t1 hgj
  cases hg with
  |nil =>
   repeat'(first|apply zF|apply zB|apply zE|refine jr ?_|refine jg ?_ ?_|(apply o_ar zC;exact rfl;exact rfl)|(apply zM zC;(iterate 3 exact rfl);exact pk)|refine jb ?_|(apply o_append_nil zC;(iterate 5 exact rfl);exact⟨by decide⟩;exact pk)|refine jd ?_|(apply w_if;exact rfl;all_goals intro hc)|apply zA|apply zG|apply zI|apply zH|exact jV|((with_reducible apply Ln.mk);first|rfl|omega|(simp[hlb,hxb,b1,b2,l1,l2];first|done|omega))|exact jW|((with_reducible apply Ce.mk);first|exact hcx|exact hcv)|exact jU|exact True.intro|refine Rc.mk ⟨_,_,pk,?_⟩|exact Or.inl rfl|refine Or.inr (And.intro ?_ ?_)|apply And.intro|apply Or.inr|intro A|exact rfl)
   all_goals try exact jX
   all_goals rename_i Q0 Q1 Q2
   all_goals first
    |exact⟨(j+1,x,gsl Q1 0 (1*1) 1 1,gsl A 0 (1*1) 1 1,(A,⟨[S y],false⟩)::(Q1,⟨[I x],false⟩)::h),⟨hjl,hpn,by show Gr3 h (GG.take (j+1)) (VV.take (j+1)) _ _ _;rw[t1p hc,t2];exact .ofc (n:=1) (k:=1*1) (n2:=1) (k2:=1*1) rfl rfl rfl rfl rfl rfl⟩,by show X.length-(j+1)<X.length-j;omega,jB,(by repeat(first|with_reducible exact Take.nil|with_reducible apply yL|with_reducible apply Take.c|with_reducible apply Take.drop))⟩
    |exact⟨(j+1,x,gsl Q1 0 (1*1) 1 1,gsl A 0 (1*1) 1 1,(A,⟨[S y],false⟩)::(Q1,⟨[I (x-p-1)],false⟩)::h),⟨hjl,hpn,by show Gr3 h (GG.take (j+1)) (VV.take (j+1)) _ _ _;rw[t1n hc,t2];exact .ofc (n:=1) (k:=1*1) (n2:=1) (k2:=1*1) rfl rfl rfl rfl rfl rfl⟩,by show X.length-(j+1)<X.length-j;omega,jB,(by repeat(first|with_reducible exact Take.nil|with_reducible apply yL|with_reducible apply Take.c|with_reducible apply Take.drop))⟩
  |some P1 P2 _ _ =>
   repeat'(first|apply zF|apply zB|apply zE|refine jr ?_|refine jg ?_ ?_|(apply o_ar zC;exact rfl;exact rfl)|(apply zM zC;(iterate 3 exact rfl);exact pk)|refine jb ?_|(apply o_append zC;(iterate 5 exact rfl);exact⟨by decide⟩;exact up;exact pk)|refine jd ?_|(apply w_if;exact rfl;all_goals intro hc)|apply zA|apply zG|apply zI|apply zH|exact jV|((with_reducible apply Ln.mk);first|rfl|omega|(simp[hlb,hxb,b1,b2,l1,l2];first|done|omega))|exact jW|((with_reducible apply Ce.mk);first|exact hcx|exact hcv)|exact jU|exact True.intro|refine Rc.mk ⟨_,_,pk,?_⟩|exact Or.inl rfl|refine Or.inr (And.intro ?_ ?_)|apply And.intro|apply Or.inr|intro A|exact rfl)
   all_goals try exact jX
   all_goals first
    |exact⟨(j+1,x,gsl P1 0 (X1.length+1*1) (X1.length+1) 1,gsl P2 0 (C1.length+1*1) (C1.length+1) 1,(P2,⟨C1.map sV++[S y],false⟩)::(P1,⟨nodes X1++[I x],false⟩)::h),⟨hjl,hpn,by show Gr3 h (GG.take (j+1)) (VV.take (j+1)) _ _ _;rw[t1p hc,t2];exact .ofc (by simp) (by simp) (by simp) (by omega) (by simp) (by omega)⟩,by show X.length-(j+1)<X.length-j;omega,jB,(by repeat(first|with_reducible exact Take.nil|with_reducible apply yL|with_reducible apply Take.c|with_reducible apply Take.drop))⟩
    |exact⟨(j+1,x,gsl P1 0 (X1.length+1*1) (X1.length+1) 1,gsl P2 0 (C1.length+1*1) (C1.length+1) 1,(P2,⟨C1.map sV++[S y],false⟩)::(P1,⟨nodes X1++[I (x-p-1)],false⟩)::h),⟨hjl,hpn,by show Gr3 h (GG.take (j+1)) (VV.take (j+1)) _ _ _;rw[t1n hc,t2];exact .ofc (by simp) (by simp) (by simp) (by omega) (by simp) (by omega)⟩,by show X.length-(j+1)<X.length-j;omega,jB,(by repeat(first|with_reducible exact Take.nil|with_reducible apply yL|with_reducible apply Take.c|with_reducible apply Take.drop))⟩
 ·obtain rfl:j=X.length:=by omega
  rw[show GG.take X.length=GG by rw[←hGl,List.take_length],show VV.take X.length=VV by rw[←hVl,List.take_length]]at hg
  clear hG1 hV1 hxi hne hpj
  cases hg with
  |nil=>exact absurd hGl (by simp;omega)
  |some P1 P2 _ _ =>
   repeat'(first|apply zF|apply zB|apply zE|refine jg ?_ ?_|(apply zM zC;(iterate 3 exact rfl);exact pk)|(refine jc ?_ (c:=by exact⟨_,hN _ _ (hasX rfl (.tail (.tail .head))),jN⟩);rintro _ _ ⟨rfl,rfl⟩)|(refine jc ?_ (c:=by exact⟨_,hSh _ _ (hasS rfl (.tail .head)),jN⟩);rintro _ _ ⟨P3,rfl,rfl⟩)|(refine jc ?_ (c:=by exact⟨_,hRl _ _ (hasS hYl .head),jN⟩);rintro _ _ ⟨rfl,rfl⟩)|(refine jc ?_ (c:=by exact⟨_,hB1 _,jN⟩);rintro _ _ ⟨rfl,rfl⟩)|(refine jc ?_ (c:=by exact⟨_,hB2 _,jN⟩);rintro _ _ ⟨rfl,rfl⟩)|(refine jc ?_ (c:=by exact⟨_,hT1 _,jN⟩);rintro _ _ ⟨rfl,rfl⟩)|(refine jc ?_ (c:=by exact⟨_,hT2 _,jN⟩);rintro _ _ ⟨rfl,rfl⟩)|(refine jc ?_ (c:=by exact⟨_,hT3 _,jN⟩);rintro _ _ ⟨rfl,rfl⟩)|refine jf ?_|apply zA|apply zK|apply zJ|apply zN|apply zV|((with_reducible apply Sd.mk);first|exact True.intro|omega|(simp only[List.length_append];omega))|((with_reducible apply Ln.mk);first|(simp[hlb];first|done|omega))|((with_reducible apply Ce.mk);first|exact hc0)|exact True.intro|exact rfl)
   all_goals first
    |exact jX
    |exact jG

abbrev fn0 (f:Nat):Value:=.func (.func f) #[] #[]
abbrev kdB :List Value:=[I 0,I 62,fn0 249,fn0 250,fn0 251,fn0 252]
abbrev kdL :List (Int × Value):=[(0,.agg ⟨kdB⟩),(1,.agg ⟨[I 0,I 0,fn0 248,fn0 254,fn0 255,fn0 257]⟩),(2,.agg ⟨[I 0,I 30,fn0 248,fn0 259,fn0 260,fn0 261]⟩),(3,.agg ⟨[I 0,I 30,fn0 262,fn0 263,fn0 264,fn0 265]⟩),(4,.agg ⟨[I 1,I 4294967296,fn0 266,fn0 267,fn0 269,fn0 270]⟩)]
theorem kinds_any (h:SH):SRun Tryz.prog 228 [] h fun r q=>∃M,r=.map (some M)∧q=(M,⟨mapC (fun n:Int=>I n) kdL,false⟩)::h:=by
 refine w_body0 Tryz.func228 rfl rfl ?_
 repeat'(first|apply zF|apply zB|apply zE|refine jg ?_ ?_|(apply yT zC;exact rfl;exact rfl;(focus first|with_reducible exact pl245);exact rfl;(focus repeat(first|exact BuildR.nil|(apply BuildR.one;exact rfl;exact rfl;(first|(focus(repeat(first|exact SetAt.zero|apply SetAt.succ));done)))));exact rfl)|(apply o_makeMap;exact rfl)|(apply o_insert0 (α:=Int);exact rfl;exact up;exact rfl;exact rfl;exact Tryz.underlying292;exact Tryz.underlying3;exact keyI)|(apply o_insert (α:=Int);exact rfl;exact up;exact rfl;exact rfl;exact Tryz.underlying292;exact Tryz.underlying3;exact keyI)|apply zA|apply zN|exact jS|intro A)
 all_goals first
  |(apply zL;(exact(show ResS _ _ _ _ [_] from⟨rfl,trivial⟩));exact⟨A,rfl,rfl⟩;(focus repeat(first|with_reducible exact Take.nil|with_reducible apply Take.c|((with_reducible apply Take.cE);first|exact rfl|(apply blkE;(focus first|exact rfl|exact yI rfl|exact yO rfl|exact congrArg (fun v=>[v]) (gslE rfl rfl (by first|rfl|exact ‹_›|omega|(simp ;first|done|omega)) (by first|rfl|exact ‹_›|omega|(simp ;first|done|omega)) rfl))))|with_reducible apply Take.drop)))
theorem find_any0 (p:Int)(h:SH)(hp:0≤p∧p≤62):SRun Tryz.prog 183 [I 0,I p] h fun r q=>r=.tuple #[.agg ⟨kdB⟩,B true]∧q=h:=by
 have hk:=kinds_any
 have hlk:(mget kdL 0).getD (.agg ⟨[.int .i64 0,.int .i64 0,.nilFunc,.nilFunc,.nilFunc,.nilFunc]⟩)=.agg ⟨kdB⟩∧(mget kdL 0).isSome=true:=⟨rfl,rfl⟩
 generalize kdL=l at *
 refine zY Tryz.func183 rfl rfl ?_
 repeat'(first|apply zF|apply zB|apply zE|refine jr ?_|refine jg ?_ ?_|(apply zM zC;(iterate 3 exact rfl);exact pk)|(apply yQ zC;(iterate 3 exact rfl);exact pk)|(apply yE zC;(iterate 4 exact rfl);exact⟨rfl⟩;exact up)|refine jy ?_|(apply o_lookupc (α:=Int) zC;exact rfl;exact pk;exact rfl;exact Tryz.underlying292;exact Tryz.underlying3;exact keyI;exact rfl;exact rfl;(focus first|exact hlk))|(refine jc ?_ (c:=by exact⟨_,hk _,jN⟩);rintro _ _ ⟨M,rfl,rfl⟩)|refine jw ?_|refine jh ?_|apply zA|apply zN|exact jS|exact jL|exact jE|exact jP|exact jU|exact True.intro|refine Rc.mk ⟨_,_,pk,?_⟩|exact Or.inl rfl|apply And.intro|apply Or.inr|intro A|exact rfl)
 all_goals first
  |exact jX
  |(apply zL;(exact(show ResS _ _ _ _ [_,_] from(res_cell zC rfl rfl rfl (by exact pk) (by first|rfl|exact ‹_›|omega|(simp ;first|done|omega)) (by first|rfl|exact ‹_›|omega|(simp ;first|done|omega)) ⟨rfl,trivial⟩)));exact⟨rfl,rfl⟩;(focus repeat with_reducible first|exact Take.nil|apply Take.c|apply Take.drop))
  |(apply zL;(exact(show ResS _ _ _ _ [_,_] from(res_cell zC rfl rfl rfl (by exact pk) (by first|rfl|exact ‹_›|omega|(simp ;first|done|omega)) (by first|rfl|exact ‹_›|omega|(simp ;first|done|omega)) ⟨rfl,trivial⟩)));exact⟨congrArg (fun z:Bool=>Value.tuple #[.agg ⟨kdB⟩,B z]) (decide_eq_true (by omega)),rfl⟩;(focus repeat with_reducible first|exact Take.nil|apply Take.c|apply Take.drop))

def orB (x y:Int):Int:=((BitVec.ofInt 8 x ||| BitVec.ofInt 8 y).toNat:Int)
theorem orB_in (x y:Int):0≤orB x y∧orB x y<256:=by
 unfold orB
 have:=(BitVec.ofInt 8 x ||| BitVec.ofInt 8 y).isLt
 omega
theorem w_orB (x y:Int):IntKind.u8.wrap ((BitVec.ofInt IntKind.u8.bits x ||| BitVec.ofInt IntKind.u8.bits y).toNat:Int)=orB x y:=by
 have:=orB_in x y
 show IntKind.u8.wrap (orB x y)=orB x y
 exact IntWalk.u8_in _ (by omega)
theorem iE {a b:Int}(h:a=b):some (I a)=some (I b):=by rw[h]
def bdat (s:List UInt8 × Nat):List UInt8:=if s.2%8=0 then s.1++[0] else s.1
def wbit (s:List UInt8 × Nat)(b:Int):List UInt8 × Nat :=
 ((bdat s).set (s.2/8) (b8 (orB (bat (bdat s) ((s.2/8:Nat):Int)) (b*2^(7-s.2%8)))),s.2+1)
def putB (s:List UInt8 × Nat)(v:Int):Nat→List UInt8 × Nat
 |0=>s
 |k+1=>putB (wbit s (v/2^k%2)) v k
abbrev wok (s:List UInt8 × Nat):Prop:=s.1.length=(s.2+7)/8
theorem bdat_len {s:List UInt8 × Nat}(h:wok s):(bdat s).length=s.2/8+1:=by
 unfold bdat
 split
 ·rw[List.length_append,h];show _+1=_;omega
 ·rw[h];omega
theorem wbit_ok {s:List UInt8 × Nat}{b:Int}(h:wok s):wok (wbit s b):=by
 have:=bdat_len h
 show((bdat s).set _ _).length=(s.2+1+7)/8
 rw[List.length_set,this];omega
theorem putB_ok {v:Int}:∀(k:Nat) {s:List UInt8 × Nat},wok s→wok (putB s v k)∧(putB s v k).2=s.2+k
 |0,s,h=>⟨h,rfl⟩
 |k+1,s,h=>by
  obtain⟨h1,h2⟩:=putB_ok (v:=v) k (wbit_ok (b:=v/2^k%2) h)
  exact⟨h1,h2.trans (by show s.2+1+k=s.2+(k+1);omega)⟩
inductive WrH (W:Nat)(h:SH):List UInt8 × Nat→SH→Prop
 |nil:WrH W h ([],0) ((W,⟨[.slice none 0 0,I 0],false⟩)::h)
 |some (B:Nat) (d:List UInt8) (n:Nat):WrH W h (d,n) ((W,⟨[gsl B 0 d.length d.length 1,I n],false⟩)::(B,⟨bytesV d,false⟩)::h)
theorem WrH.ofc {W B n k m:Nat}{h:SH}{d:List UInt8}{c:List Value}{x:Int}(hc:c=bytesV d)(hk:k=d.length)(hm:m=d.length)(hx:x=n):WrH W h (d,n) ((W,⟨[gsl B 0 k m 1,I x],false⟩)::(B,⟨c,false⟩)::h):=by
 subst hc hk hm hx;exact .some B d n
theorem w_shlB {y:Int}{n:Nat}(hy:0≤y∧y<2):IntKind.u8.wrap (y*2^(min (7-(n:Int)%8).toNat IntKind.u8.bits))=y*2^(7-n%8):=by
 have e:min (7-(n:Int)%8).toNat IntKind.u8.bits=7-n%8:=by
  rw[show IntKind.u8.bits=8 from rfl];omega
 rw[e]
 have h1:∀k:Nat,k<8→(2:Int)^k≤128∧1≤(2:Int)^k:=by decide
 have h2:=h1 (7-n%8) (by omega)
 rcases(show y=0∨y=1 by omega)with rfl|rfl
 ·rw[Int.zero_mul];rfl
 ·rw[Int.one_mul];exact IntWalk.u8_in _ (by omega)
set_option maxHeartbeats 2000000 in
theorem put_any (W:Nat)(h:SH)(s:List UInt8 × Nat)(q:SH)(v:Int)(c:Nat)(hw:WrH W h s q)(ho:wok s)(hn:s.2+c≤100000)(hc:c≤62) :
  SRun Tryz.prog 202 [gptr W 0 2,I c,I v] q fun r q'=>r=resv []∧WrH W h (putB s v c) q':=by
 obtain⟨R,hR⟩:∃R,putB s v c=R:=⟨_,rfl⟩
 rw[hR]
 refine w_body3 Tryz.func202 rfl rfl ?_
 repeat'(first|apply zF|apply zB|apply zE|refine jg ?_ ?_|(apply o_ar zC;exact rfl;exact rfl)|apply zA|apply zH|exact jS|exact jW|fail)
 all_goals first|(exfalso;omega)|skip
 refine zZ (S:=Nat × (List UInt8 × Nat) × SH) (fun x=>[(0,gptr W 0 2),(2,I v),(6,I ((x.1:Int)-1))]) (fun x=>x.2.2) (fun x=>x.1≤c∧WrH W h x.2.1 x.2.2∧wok x.2.1∧x.2.1.2+x.1≤100000∧putB x.2.1 v x.1=R) (fun x=>x.1) (c,s,q) ⟨Nat.le_refl _,hw,ho,hn,hR⟩ jB jK ?_
 clear hw ho hn hR
 rintro⟨k,⟨d,n⟩,q⟩ ⟨hk,hw,ho,hn,hr⟩
 dsimp only at hk hw ho hn hr ⊢
 cases k with
 |zero =>
  have hr:(d,n)=R:=hr
  repeat'(first|apply zF|apply zB|apply zE|refine jg ?_ ?_|(apply zS;exact rfl)|apply zA|apply zK|apply zJ|apply zV|exact jS|fail)
  all_goals first
   |(exfalso;omega)
   |(rw[hr]at hw;(apply s_finN;(exact(show ResS _ _ _ _ [] from trivial));exact⟨rfl,hw⟩;(focus repeat with_reducible first|exact Take.nil|apply Take.c|apply Take.drop)))
 |succ m =>
  replace hr:putB (wbit (d,n) (v/2^m%2)) v m=R:=hr
  have hbo:=wbit_ok (b:=v/2^m%2) ho
  have hdl:=bdat_len ho
  have ho:d.length=(n+7)/8:=ho
  have hq:(n:Int).tdiv 8=((n/8:Nat):Int):=Int.tdiv_eq_ediv_of_nonneg (by omega)
  have hsh:v/2^(min (((m+1:Nat):Int)-1).toNat IntKind.i64.bits)=v/2^m:=by
   rw[show(((m+1:Nat):Int)-1).toNat=m by omega,show IntKind.i64.bits=64 from rfl,show min m 64=m by omega]
  have hbs:wbit (d,n) (v/2^m%2)=((bdat (d,n)).set (n/8) (b8 (orB (bat (bdat (d,n)) ((n/8:Nat):Int)) (v/2^m%2*2^(7-n%8)))),n+1):=rfl
  generalize v/2^m=y at *
  have hsl:=w_shlB (y:=y%2) (n:=n) (by omega)
  have hor:=orB_in (bat (bdat (d,n)) ((n/8:Nat):Int)) (y%2*2^(7-n%8))
  have hcl:(bytesV (bdat (d,n)))[0+((n:Int).tdiv 8).toNat*1]?=some (.int .u8 (bat (bdat (d,n)) ((n/8:Nat):Int))):=by
   rw[hq];exact cell_bytes (by omega)
  have hset:SetAt (bytesV (bdat (d,n))) (0+((n:Int).tdiv 8).toNat*1) (.int .u8 (orB (bat (bdat (d,n)) ((n/8:Nat):Int)) (y%2*2^(7-n%8)))) (bytesV (wbit (d,n) (y%2)).1):=by
   rw[hq,hbs]
   have:=setAt_bytes (l:=bdat (d,n)) (i:=((n/8:Nat):Int)) (by omega) hor
   rwa [Int.toNat_natCast]at this
  have hbl:(bytesV (bdat (d,n))).length=n/8+1:=by rw[show(bytesV (bdat (d,n))).length=(bdat (d,n)).length from by simp[bytesV],hdl]
  have hbn:(wbit (d,n) (y%2)).2=n+1:=rfl
  have hob:n=0→d=[]→bat (bdat (d,n)) ((n/8:Nat):Int)=0:=by rintro rfl rfl;rfl
  generalize y%2*2^(7-n%8)=z at *
  generalize bat (bdat (d,n)) ((n/8:Nat):Int)=o at *
  have hw1:=w_and1i y
  have hgl:((wbit (d,n) (y%2)).1).length=n/8+1:=by have:_=_:=hbo;rw[this];show(n+1+7)/8=_;omega
  obtain⟨d2,hd2⟩:∃d2,(wbit (d,n) (y%2)).1=d2:=⟨_,rfl⟩
  have he:wbit (d,n) (y%2)=(d2,n+1):=by rw[←hd2];rfl
  rw[hd2]at hset hgl
  rw[he]at hr hbo
  clear hbs hd2 he hbn
  by_cases hm:n%8=0
  ·have hbd:bdat (d,n)=d++[0]:=if_pos hm
   rw[hbd]at hcl hset hbl hdl
   rw[show bytesV (d++[0])=bytesV d++[Value.int .u8 0] by simp[bytesV]]at hcl hset hbl
   cases hw with
   |nil =>
    obtain rfl:=hob rfl rfl
    have hw0:IntKind.i64.wrap (Int.tdiv 0 8)=0:=by decide
    repeat'(first|apply zF|apply zB|apply zE|refine jr ?_|refine jg ?_ ?_|(apply o_ar zC;exact rfl;exact rfl)|(apply o_ex;exact rfl;exact rfl)|(apply zM zC;(iterate 3 exact rfl);exact pk)|(apply zX zC;(iterate 4 exact rfl);exact up)|refine jb ?_|(apply o_append_nil zC;(iterate 5 exact rfl);exact⟨by decide⟩;exact pk)|(apply yB;exact rfl)|refine jd ?_|apply zA|apply zG|apply zI|apply zH|exact jV|exact jL|((with_reducible apply Wr.mk);first|exact hw1|exact hsl|exact w_orB _ _|exact hw0|exact IntWalk.i64_in _ (by omega)|exact IntWalk.u8_in _ (by omega))|((with_reducible apply Ex.mk);first|exact Int.tmod_eq_emod_of_nonneg (by omega)|exact hsh)|exact jE|exact jZ|exact jU|exact True.intro|exact Or.inl rfl|apply And.intro|intro A|exact rfl)
    all_goals first
     |(exfalso;omega)
     |exact⟨(m,(d2,1),(W,⟨[gsl A 0 (1*1) 1 1,.int .i64 (0+1)],false⟩)::(A,⟨[.int .u8 (orB 0 z)],false⟩)::h),⟨by show m≤c;omega,.ofc hset.ok.2.symm hgl.symm hgl.symm rfl,hbo,by show 0+1+m≤100000;omega,hr⟩,by show m<m+1;omega,⟨rfl,rfl,iE (by omega),trivial⟩,jK⟩
   |some B _ _ =>
    repeat'(first|apply zF|apply zB|apply zE|refine jr ?_|refine jg ?_ ?_|(apply o_ar zC;exact rfl;exact rfl)|(apply o_ex;exact rfl;exact rfl)|(apply zM zC;(iterate 3 exact rfl);exact pk)|(apply zX zC;(iterate 4 exact rfl);exact up)|refine jb ?_|(apply o_append zC;(iterate 5 exact rfl);exact⟨by decide⟩;exact up;exact pk)|refine jd ?_|apply zA|apply zG|apply zI|apply zH|exact jV|((with_reducible apply Ln.mk);first|rfl|omega|(simp[hbl];first|done|omega))|((with_reducible apply Wr.mk);first|exact hw1|exact hsl|exact w_orB _ _|exact IntWalk.i64_in _ (by omega)|exact IntWalk.u8_in _ (by omega))|((with_reducible apply Ex.mk);first|exact Int.tmod_eq_emod_of_nonneg (by omega)|exact hsh)|((with_reducible apply Ce.mk);first|rfl|exact hcl)|((with_reducible apply Se.mk);first|(focus(repeat(first|exact SetAt.zero|apply SetAt.succ));done)|exact hset)|exact jU|exact True.intro|exact Or.inl rfl|apply And.intro|intro A|exact rfl)
    all_goals first
     |(exfalso;omega)
     |exact⟨(m,(d2,n+1),(W,⟨[gsl B 0 (d.length+1*1) (d.length+1) 1,I ((n:Int)+1)],false⟩)::(B,⟨bytesV d2,false⟩)::h),⟨by show m≤c;omega,.ofc rfl (by omega) (by omega) (by omega),hbo,by show n+1+m≤100000;omega,hr⟩,by show m<m+1;omega,⟨rfl,rfl,iE (by omega),trivial⟩,jK⟩
  ·have hbd:bdat (d,n)=d:=if_neg hm
   rw[hbd]at hcl hset hbl hdl
   cases hw with
   |nil=>exact absurd rfl hm
   |some B _ _ =>
    repeat'(first|apply zF|apply zB|apply zE|refine jr ?_|refine jg ?_ ?_|(apply o_ar zC;exact rfl;exact rfl)|(apply o_ex;exact rfl;exact rfl)|(apply zM zC;(iterate 3 exact rfl);exact pk)|(apply zX zC;(iterate 4 exact rfl);exact up)|refine jd ?_|refine jf ?_|apply zA|apply zG|apply zI|apply zH|exact jO|((with_reducible apply Ln.mk);first|rfl|omega|(simp[hbl];first|done|omega))|((with_reducible apply Wr.mk);first|exact hw1|exact hsl|exact w_orB _ _|exact IntWalk.i64_in _ (by omega)|exact IntWalk.u8_in _ (by omega))|((with_reducible apply Ex.mk);first|exact Int.tmod_eq_emod_of_nonneg (by omega)|exact hsh)|((with_reducible apply Ce.mk);first|rfl|exact hcl)|((with_reducible apply Se.mk);first|(focus(repeat(first|exact SetAt.zero|apply SetAt.succ));done)|exact hset)|exact True.intro|exact Or.inl rfl|apply And.intro|exact rfl)
    all_goals first
     |(exfalso;omega)
     |exact⟨(m,(d2,n+1),(W,⟨[gsl B 0 d.length d.length 1,I ((n:Int)+1)],false⟩)::(B,⟨bytesV d2,false⟩)::h),⟨by show m≤c;omega,.ofc rfl (by omega) (by omega) (by omega),hbo,by show n+1+m≤100000;omega,hr⟩,by show m<m+1;omega,⟨rfl,rfl,iE (by omega),trivial⟩,jK⟩

theorem WrH.take {W:Nat}{h q:SH}{s:List UInt8 × Nat}(k:WrH W h s q):Take q h:=by
 cases k with
 |nil=>exact .drop .nil
 |some B d n=>exact .drop (.drop .nil)
theorem kd2_any (p v:Int)(h:SH)(hv:0≤v∧v<4)(hp:p=2):SRun Tryz.prog 249 [I p,I v] h fun r q=>r=B true∧q=h:=by
 subst hp
 have hsh:v/2^(min (2:Int).toNat IntKind.i64.bits)=0:=by
  rw[show min (2:Int).toNat IntKind.i64.bits=2 from rfl];omega
 refine zY Tryz.func249 rfl rfl ?_
 repeat'(first|apply zF|apply zB|apply zE|refine jg ?_ ?_|(apply o_ex;exact rfl;exact rfl)|refine jw ?_|refine jh ?_|apply zA|apply zN|exact jO|((with_reducible apply Ex.mk);first|exact hsh))
 all_goals first
  |(exfalso;omega)
  |exact jG
theorem kd3_any (p v:Int)(h:SH):SRun Tryz.prog 250 [I p,I v] h fun r q=>r=I p∧q=h:=by
 refine zY Tryz.func250 rfl rfl ?_
 repeat'(first|apply zF|apply zB|apply zE|refine jg ?_ ?_|apply zA|apply zN|exact jS|fail)
 all_goals first
  |exact jG
theorem kd4_any (W:Nat)(h:SH)(s:List UInt8 × Nat)(q:SH)(v:Int)(hw:WrH W h s q)(ho:wok s)(hn:s.2≤99000) :
  SRun Tryz.prog 251 [gptr W 0 2,I 2,I v] q fun r q'=>r=resv []∧WrH W h (putB s v 2) q':=by
 have hP:∀q,WrH W h s q→SRun Tryz.prog 202 [gptr W 0 2,I 2,I v] q fun r q'=>r=resv []∧WrH W h (putB s v 2) q':=fun q hw=>put_any W h s q v 2 hw ho (by omega) (by decide)
 refine w_body3 Tryz.func251 rfl rfl ?_
 repeat'(first|apply zB|apply zE|refine jg ?_ ?_|(refine jc ?_ (c:=by exact⟨_,hP _ hw,jN⟩);rintro _ _ ⟨rfl,hw2⟩)|exact jS|fail)
 all_goals first
  |(apply s_finN;(exact(show ResS _ _ _ _ [] from trivial));exact⟨rfl,hw2⟩;(focus repeat with_reducible first|exact Take.nil|apply Take.c|apply Take.drop))
set_option maxHeartbeats 2000000 in
theorem Put_any (W:Nat)(h:SH)(s:List UInt8 × Nat)(q:SH)(v:Int)(hw:WrH W h s q)(ho:wok s)(hn:s.2≤60000)(hv:0≤v∧v<4) :
  SRun Tryz.prog 161 [gptr W 0 2,.agg ⟨[I 0,I 2,I v]⟩] q fun r q'=>r=I 0∧WrH W h (putB s v 2) q':=by
 have k1:=fun h=>find_any0 2 h (by decide)
 have k2:=fun h=>kd2_any 2 v h hv rfl
 have k3:=fun h=>kd3_any 2 v h
 have k4:=fun h q hw=>kd4_any W h s q v hw ho (by omega)
 generalize putB s v 2=R at *
 cases hw with
 |nil =>
  refine zY Tryz.func161 rfl rfl ?_
  repeat'(first|apply zF|apply zB|apply zE|refine jr ?_|refine jg ?_ ?_|(apply o_ar zC;exact rfl;exact rfl)|(apply yR;exact rfl;exact rfl)|(apply zM zC;(iterate 3 exact rfl);exact pk)|(apply yE zC;(iterate 4 exact rfl);exact⟨rfl⟩;exact up)|refine jy ?_|refine jx ?_|refine jq ?_ (c:=by exact⟨_,k1 _,jN⟩)|refine jq ?_ (c:=by exact⟨_,k2 _,jN⟩)|(apply yS;(iterate 4 exact rfl);exact⟨_,k3 (lockS h),by repeat(first|with_reducible exact Take.nil|with_reducible apply yL|with_reducible apply Take.drop)⟩;exact fun _ _ h=>h.1;(focus(repeat(first|exact Flat.c rfl))))|(refine jc ?_ (c:=by exact⟨_,k4 h _ .nil,jK⟩);rintro _ _ ⟨rfl,hw2⟩)|refine jw ?_|(apply zS;exact rfl)|apply zA|apply zI|apply zN|exact jS|exact jL|exact jW|exact jE|exact jP|exact True.intro|intro A|exact rfl)
  all_goals first
   |exact jX
   |(apply zL;(exact(show ResS _ _ _ _ [_] from⟨rfl,trivial⟩));exact⟨rfl,hw2⟩;(focus repeat(first|with_reducible exact Take.nil|with_reducible apply yL|with_reducible apply Take.c|with_reducible apply Take.drop)))
 |some B d n =>
  have hn:n≤60000:=hn
  refine zY Tryz.func161 rfl rfl ?_
  repeat'(first|apply zF|apply zB|apply zE|refine jr ?_|refine jg ?_ ?_|(apply o_ar zC;exact rfl;exact rfl)|(apply yR;exact rfl;exact rfl)|(apply zM zC;(iterate 3 exact rfl);exact pk)|(apply yE zC;(iterate 4 exact rfl);exact⟨rfl⟩;exact up)|refine jy ?_|refine jx ?_|refine jq ?_ (c:=by exact⟨_,k1 _,jN⟩)|refine jq ?_ (c:=by exact⟨_,k2 _,jN⟩)|(apply yS;(iterate 4 exact rfl);exact⟨_,k3 (lockS h),by repeat(first|with_reducible exact Take.nil|with_reducible apply yL|with_reducible apply Take.drop)⟩;exact fun _ _ h=>h.1;(focus(repeat(first|exact Flat.c rfl))))|(refine jc ?_ (c:=by exact⟨_,k4 h _ (.some B d n),jK⟩);rintro _ _ ⟨rfl,hw2⟩)|refine jw ?_|(apply zS;exact rfl)|refine jf ?_|apply zA|apply zI|apply zN|exact jS|exact jL|exact jW|exact jE|exact jP|exact True.intro|intro A|exact rfl)
  all_goals first
   |exact jX
   |(apply zL;(exact(show ResS _ _ _ _ [_] from⟨rfl,trivial⟩));exact⟨rfl,hw2⟩;(focus repeat(first|with_reducible exact Take.nil|with_reducible apply yL|with_reducible apply Take.c|with_reducible apply Take.drop)))
theorem NewWriter_any (h:SH):SRun Tryz.prog 160 [] h fun r q=>∃W,r=gptr W 0 2∧WrH W h ([],0) q:=by
 refine w_body0 Tryz.func160 rfl rfl ?_
 repeat'(first|apply zF|apply zB|apply zE|refine jg ?_ ?_|refine jx ?_|(apply yT zC;exact rfl;exact rfl;(focus first|with_reducible exact pl269);exact rfl;(focus repeat(first|exact BuildR.nil));exact rfl)|apply zA|apply zN|exact jS|intro A)
 all_goals first
  |exact jF (k:=by exact⟨A,rfl,.nil⟩)
set_option maxHeartbeats 2000000 in
theorem Bytes_any (W B:Nat)(h:SH)(d:List UInt8)(n:Nat)(ho:wok (d,n))(hn:n≤60000) :
  SRun Tryz.prog 162 [gptr W 0 2] ((W,⟨[gsl B 0 d.length d.length 1,I n],false⟩)::(B,⟨bytesV d,false⟩)::h) fun r q=>r=S (putB (d,n) 1 1).1∧q=(W,⟨[gsl B 0 d.length d.length 1,I n],false⟩)::(B,⟨bytesV d,false⟩)::h:=by
 have ho2:d.length=(n+7)/8:=ho
 have hP:∀W h q,WrH W h (d,n) q→SRun Tryz.prog 202 [gptr W 0 2,I 1,I 1] q fun r q'=>r=resv []∧WrH W h (putB (d,n) 1 1) q':=fun W h q hw=>put_any W h (d,n) q 1 1 hw ho (by show n+1≤100000;omega) (by decide)
 have hk:=(putB_ok (v:=1) 1 ho).2
 have hkl:=(putB_ok (v:=1) 1 ho).1
 have hbl:(bytesV d).length=d.length:=by simp[bytesV]
 obtain⟨R,hR⟩:∃R,putB (d,n) 1 1=R:=⟨_,rfl⟩
 rw[hR]at hk hkl hP ⊢
 obtain⟨d2,n2⟩:=R
 have hk:n2=n+1:=hk
 have hkl:d2.length=(n2+7)/8:=hkl
 have hb2:(bytesV d2).length=d2.length:=by simp[bytesV]
 refine zR Tryz.func162 rfl rfl ?_
 repeat'((fail_if_success (show SWp _ _ (Code.seq (Code.region 2 _ _) _) _ _ _));(fail_if_success (show SWp _ _ (Code.region 2 _ _) _ _ _));first|apply zF|apply zB|apply zE|refine jr ?_|refine jg ?_ ?_|(apply zM zC;(iterate 3 exact rfl);exact pk)|refine jx ?_|(apply yT zC;exact rfl;exact rfl;(focus first|with_reducible exact pl269);exact rfl;(focus repeat(first|exact BuildR.nil|(apply BuildR.one;exact rfl;exact rfl;(first|(focus(repeat(first|exact SetAt.zero|apply SetAt.succ));done)))));exact rfl)|(apply zT zC;(iterate 5 exact rfl);decide;exact rfl;decide;(focus repeat(first|exact CatR.nil));exact rfl)|(apply o_append zC;(iterate 5 exact rfl);exact⟨by decide⟩;exact up;exact pk)|apply zA|((with_reducible apply Sd.mk);first|exact True.intro|(constructor <;> first|omega|(unfold maxLen;omega)))|((with_reducible apply Ln.mk);first|rfl|omega|(simp[hbl,hb2];first|done|omega))|exact jE|exact jU|exact bytesV_all _|exact True.intro|refine Rc.mk ⟨_,_,pk,?_⟩|exact Or.inl rfl|refine Or.inr (And.intro ?_ ?_)|apply And.intro|apply Or.inr|intro A|exact rfl)
 all_goals try exact jX
 rename_i D1
 have hW2:WrH A ((W,⟨[gsl B 0 d.length d.length 1,I n],false⟩)::(B,⟨bytesV d,false⟩)::h) (d,n) ((A,⟨[gsl D1 0 (0*1+d.length*1) (0+d.length) 1,I n],false⟩)::(D1,⟨[]++bytesV d,false⟩)::(W,⟨[gsl B 0 d.length d.length 1,I n],false⟩)::(B,⟨bytesV d,false⟩)::h):=.ofc rfl (by omega) (by omega) rfl
 repeat'((fail_if_success (show SWp _ _ (Code.seq (Code.region 3 _ _) _) _ _ _));(fail_if_success (show SWp _ _ (Code.region 3 _ _) _ _ _));first|apply zF|apply zB|apply zE|refine jg ?_ ?_|(refine jc ?_ (c:=by exact⟨_,hP _ _ _ hW2,jN⟩);rintro _ _ ⟨rfl,hw2⟩)|apply zA|exact jS|fail)
 all_goals try exact jX
 clear hP hW2
 cases hw2 with
 |nil=>exact absurd hk (by omega)
 |some B3 _ _ =>
  repeat'(first|apply zF|apply zB|apply zE|refine jg ?_ ?_|(apply zM zC;(iterate 3 exact rfl);exact pk)|(apply o_toString zC;(iterate 6 exact rfl);exact pk)|apply zA|apply zN|exact jS|((with_reducible apply Ln.mk);first|rfl|omega)|exact jE|exact jU|exact True.intro|exact rfl)
  all_goals first
   |exact jX
   |exact jG
def wrC (s:List UInt8 × Nat):List UInt8→List UInt8 × Nat
 |[]=>s
 |c::r=>wrC (putB s (cd (c.toNat:Int)) 2) r
def wrV (s:List UInt8 × Nat):List (List UInt8)→List UInt8 × Nat
 |[]=>s
 |v::r=>wrV (wrC s v) r
theorem wrC_ok :∀(v:List UInt8) {s:List UInt8 × Nat},wok s→wok (wrC s v)∧(wrC s v).2=s.2+2*v.length
 |[],s,h=>⟨h,rfl⟩
 |c::r,s,h=>by
  obtain⟨h1,h2⟩:=putB_ok (v:=cd (c.toNat:Int)) 2 h
  obtain⟨h3,h4⟩:=wrC_ok r h1
  exact⟨h3,h4.trans (by rw[h2,List.length_cons];omega)⟩
def plnE (L:List (List UInt8)):List UInt8:=vnum L.length++(putB (wrV ([],0) L) 1 1).1
set_option maxHeartbeats 4000000 in
theorem plain_any (w:Int)(L:List (List UInt8))(v:Value)(h:SH)(hv:Has h (L.map sV) 1 L.length v)(hl:L.length≤200)(hs:∀s∈L,1≤s.length∧s.length≤128)(h0:L≠[])(hc:∀s∈L,∀c∈s,0≤cd (c.toNat:Int)∧cd (c.toNat:Int)<4)(hb:(putB (wrV ([],0) L) 1 1).1.length≤100000) :
  SRun Tryz.prog 105 [.agg ⟨[I w]⟩,v] h fun r q=>r=.tuple #[S (plnE L),B true]∧q=h:=by
 obtain⟨ad,fl,rfl,hh⟩:=id hv
 have hlb:(L.map sV).length=L.length:=by simp
 have hL0:0<L.length:=List.length_pos_iff.2 h0
 obtain⟨R,hR⟩:∃R,wrV ([],0) L=R:=⟨_,rfl⟩
 unfold plnE
 rw[hR]at hb ⊢
 have k1:=fun h=>Number_any (L.length:Int) h (by omega)
 have z1:=vnumT_le L.length
 generalize vnum (L.length:Int)=Z at *
 refine zY Tryz.func105 rfl rfl ?_
 repeat'(first|apply zF|apply zB|apply zE|refine jg ?_ ?_|refine jx ?_|(refine jc ?_ (c:=by exact⟨_,NewWriter_any _,jN⟩);rintro _ _ ⟨W,rfl,hw⟩)|apply zA|apply zH|exact jS|intro A)
 rename SH=>q0
 obtain⟨A',ro,h1,rfl,hp⟩:=hh (by omega)
 have hpk:∀q,Take q ((A,⟨[I w],false⟩)::h)→∃h2,Pick q A' ⟨L.map sV,ro⟩ h2:=fun q t=>let ⟨h2,p,_⟩:=(t.trans (.drop .nil)).pick hp;⟨h2,p⟩
 revert A;intro A2 hw hpk
 refine zZ (S:=Nat × (List UInt8 × Nat) × SH) (fun s=>[(1,.slice (some ⟨A',0,some (1*L.length)⟩) L.length fl),(6,gptr W 0 2),(11,.slice (some ⟨A',0,some (1*L.length)⟩) L.length fl),(12,I L.length),(13,I s.1)])
  (fun s=>s.2.2) (fun s=>s.1≤L.length∧WrH W ((A2,⟨[I w],false⟩)::h) s.2.1 s.2.2∧wok s.2.1∧s.2.1.2≤256*s.1∧wrV s.2.1 (L.drop s.1)=R∧(0<s.1→0<s.2.1.2)) (fun s=>L.length-s.1) (0,([],0),q0) ⟨Nat.zero_le _,hw,(by show 0=(0+7)/8;decide),Nat.zero_le _,hR,fun k=>absurd k (Nat.lt_irrefl 0)⟩ jB jK ?_
 clear hw hR q0
 rintro⟨i,s,q⟩ ⟨hi,hw,ho,hn,hr,hpos⟩
 dsimp only at hi hw ho hn hr hpos ⊢
 by_cases hil:i<L.length
 ·obtain⟨h2,hp2⟩:=hpk q hw.take
  have hc1:(L.map sV)[0+((i:Int)).toNat*1]?=some (S L[i]!):=yM hil
  have hsi:=hs _ (mm_bang hil)
  have hci:=hc _ (mm_bang hil)
  rw[drop_bang hil]at hr
  generalize L[i]! = u at *
  replace hr:wrV (wrC s u) (L.drop (i+1))=R:=hr
  obtain⟨X,hX⟩:∃X,wrC s u=X:=⟨_,rfl⟩
  have hXo:=wrC_ok u ho
  rw[hX]at hr hXo
  repeat'(first|apply zF|apply zB|apply zE|refine jg ?_ ?_|(apply zM zC;(iterate 3 exact rfl);exact pk)|refine jd ?_|apply zA|apply zI|apply zH|exact jO|((with_reducible apply Ln.mk);first|(simp[hlb];first|done|omega))|((with_reducible apply Ce.mk);first|exact hc1)|exact True.intro|exact rfl)
  all_goals try exact jX
  refine zZ (S:=Nat × (List UInt8 × Nat) × SH) (fun x=>[(1,.slice (some ⟨A',0,some (1*L.length)⟩) L.length fl),(6,gptr W 0 2),(8,S u),(11,.slice (some ⟨A',0,some (1*L.length)⟩) L.length fl),(12,I L.length),(13,I i),(18,I u.length),(19,I x.1)])
   (fun x=>x.2.2) (fun x=>x.1≤u.length∧WrH W ((A2,⟨[I w],false⟩)::h) x.2.1 x.2.2∧wok x.2.1∧x.2.1.2≤256*i+2*x.1∧wrC x.2.1 (u.drop x.1)=X) (fun x=>u.length-x.1) (0,s,q) ⟨Nat.zero_le _,hw,ho,hn,hX⟩ jB jK ?_
  clear hw ho hn hX hpos
  rintro⟨j,s',q'⟩ ⟨hj,hw,ho,hn,hx⟩
  dsimp only at hj hw ho hn hx ⊢
  by_cases hjl:j<u.length
  ·rw[drop_bang hjl]at hx
   have hcj:=hci _ (mm_bang hjl)
   have hbt:bat u (j:Int)=(u[j]!.toNat:Int):=by
    unfold bat;rw[Int.toNat_natCast,List.getD_eq_getElem?_getD,List.getElem?_eq_getElem hjl,getElem!_pos u j hjl];rfl
   replace hx:wrC (putB s' (cd (u[j]!.toNat:Int)) 2) (u.drop (j+1))=X:=hx
   rw[←hbt]at hx hcj
   have hC:=fun h=>Code_any (bat u (j:Int)) h
   generalize cd (bat u (j:Int))=z at *
   have hP:=Put_any W _ s' q' z hw ho (by omega) hcj
   have hpo:=putB_ok (v:=z) 2 ho
   generalize putB s' z 2=s2 at *
   repeat'(first|apply zF|apply zB|apply zE|refine jg ?_ ?_|(apply o_ar zC;exact rfl;exact rfl)|(apply yT zC;exact rfl;exact rfl;(focus first|with_reducible exact pl215);exact rfl;(focus repeat(first|exact BuildR.nil|(apply BuildR.one;exact rfl;exact rfl;(first|(focus(repeat(first|exact SetAt.zero|apply SetAt.succ));done)))));exact rfl)|(refine jc ?_ (c:=by exact⟨_,hC _,jN⟩);rintro _ _ ⟨rfl,rfl⟩)|(refine jc ?_ (c:=by exact⟨_,hP,jN⟩);rintro _ _ ⟨rfl,hw2⟩)|(apply zS;exact rfl)|refine jd ?_|apply zA|apply zG|apply zI|apply zH|exact jO|exact jW|fail)
   all_goals first
    |exact jX
    |exact⟨(j+1,s2,_),⟨hjl,hw2,hpo.1,by show s2.2≤256*i+2*(j+1);omega,hx⟩,by show u.length-(j+1)<u.length-j;omega,jB,jK⟩
  ·have e:j=u.length:=by omega
   subst e
   rw[List.drop_length]at hx
   replace hx:s'=X:=hx
   subst hx
   repeat'(first|apply zF|apply zB|apply zE|refine jg ?_ ?_|(apply o_ar zC;exact rfl;exact rfl)|refine jf ?_|apply zA|apply zK|apply zG|apply zJ|apply zV|exact jS|exact jW|fail)
   all_goals first
    |exact jX
    |exact⟨(i+1,s',q'),⟨hil,hw,ho,by show s'.2≤256*(i+1);omega,hr,fun _=>by show 0<s'.2;omega⟩,by show L.length-(i+1)<L.length-i;omega,jB,jK⟩
 ·have e:i=L.length:=by omega
  subst e
  rw[List.drop_length]at hr
  replace hr:s=R:=hr
  subst hr
  have hp0:=hpos (by omega)
  cases hw with
  |nil=>exact absurd hp0 (by decide)
  |some B d n =>
   have hB:=Bytes_any W B ((A2,⟨[I w],false⟩)::h) d n ho (by show n≤60000;have:n≤256*L.length:=hn;omega)
   repeat'(first|apply zF|apply zB|apply zE|refine jg ?_ ?_|(refine jc ?_ (c:=by exact⟨_,k1 _,jN⟩);rintro _ _ ⟨rfl,rfl⟩)|(refine jc ?_ (c:=by exact⟨_,hB,jN⟩);rintro _ _ ⟨rfl,rfl⟩)|refine jf ?_|apply zA|apply zK|apply zJ|apply zN|apply zV|exact jO|fail)
   all_goals first
    |exact jX
    |exact jG

abbrev wrL :List (Int × Value):=[(0,fn0 105),(1,fn0 106),(2,fn0 107),(3,fn0 108)]
abbrev rdL :List (Int × Value):=[(0,fn0 77),(1,fn0 78),(2,fn0 79),(3,fn0 80)]
theorem writers_any (h:SH):SRun Tryz.prog 64 [] h fun r q=>∃M,r=.map (some M)∧q=(M,⟨mapC (fun n:Int=>I n) wrL,false⟩)::h:=by
 refine w_body0 Tryz.func64 rfl rfl ?_
 repeat'(first|apply zF|apply zB|apply zE|refine jg ?_ ?_|(apply o_makeMap;exact rfl)|(apply o_insert0 (α:=Int);exact rfl;exact up;exact rfl;exact rfl;exact Tryz.underlying106;exact Tryz.underlying3;exact keyI)|(apply o_insert (α:=Int);exact rfl;exact up;exact rfl;exact rfl;exact Tryz.underlying106;exact Tryz.underlying3;exact keyI)|apply zA|apply zN|exact jS|intro A)
 all_goals first
  |(apply zL;(exact(show ResS _ _ _ _ [_] from⟨rfl,trivial⟩));exact⟨A,rfl,rfl⟩;(focus repeat(first|with_reducible exact Take.nil|with_reducible apply Take.c|((with_reducible apply Take.cE);first|exact rfl|(apply blkE;(focus first|exact rfl|exact yI rfl|exact yO rfl|exact congrArg (fun v=>[v]) (gslE rfl rfl (by first|rfl|exact ‹_›|omega|(simp ;first|done|omega)) (by first|rfl|exact ‹_›|omega|(simp ;first|done|omega)) rfl))))|with_reducible apply Take.drop)))
theorem readers_any (h:SH):SRun Tryz.prog 38 [] h fun r q=>∃M,r=.map (some M)∧q=(M,⟨mapC (fun n:Int=>I n) rdL,false⟩)::h:=by
 refine w_body0 Tryz.func38 rfl rfl ?_
 repeat'(first|apply zF|apply zB|apply zE|refine jg ?_ ?_|(apply o_makeMap;exact rfl)|(apply o_insert0 (α:=Int);exact rfl;exact up;exact rfl;exact rfl;exact Tryz.underlying76;exact Tryz.underlying3;exact keyI)|(apply o_insert (α:=Int);exact rfl;exact up;exact rfl;exact rfl;exact Tryz.underlying76;exact Tryz.underlying3;exact keyI)|apply zA|apply zN|exact jS|intro A)
 all_goals first
  |(apply zL;(exact(show ResS _ _ _ _ [_] from⟨rfl,trivial⟩));exact⟨A,rfl,rfl⟩;(focus repeat(first|with_reducible exact Take.nil|with_reducible apply Take.c|((with_reducible apply Take.cE);first|exact rfl|(apply blkE;(focus first|exact rfl|exact yI rfl|exact yO rfl|exact congrArg (fun v=>[v]) (gslE rfl rfl (by first|rfl|exact ‹_›|omega|(simp ;first|done|omega)) (by first|rfl|exact ‹_›|omega|(simp ;first|done|omega)) rfl))))|with_reducible apply Take.drop)))
theorem BEncodeAs_any (c w:Int)(f:Nat)(e:List UInt8)(L:List (List UInt8))(v:Value)(h:SH)(hv:Has h (L.map sV) 1 L.length v)(hcf:(c=0∧f=105)∨(c=1∧f=106)∨(c=2∧f=107)∨(c=3∧f=108))(hl:L.length≤4096)(hw:1≤w∧w≤128)(hs:∀s∈L,isV s∧(s.length:Int)=w)
  (hF:∀h,Has h (L.map sV) 1 L.length v→SRun Tryz.prog f [.agg ⟨[I w]⟩,v] h fun r q=>r=.tuple #[S e,B true]∧q=h) (he:e.length≤4000000) :
  SRun Tryz.prog 31 [I c,I w,v] h fun r q=>r=.tuple #[S (vnum c++e),I 0]∧q=h:=by
 have hV:=fun h hv=>BValid_any w L v h hv hl hw hs
 obtain⟨ad,fl,rfl,_⟩:=id hv
 have hc:0≤c∧c<4:=by omega
 have hf:(mget wrL c).getD .nilFunc=fn0 f:=by rcases hcf with⟨rfl,rfl⟩|⟨rfl,rfl⟩|⟨rfl,rfl⟩|⟨rfl,rfl⟩ <;> rfl
 have k1:=fun h=>Number_any c h (by omega)
 have z1:=vnumT_le c
 have hW:=fun h=>writers_any h
 generalize wrL=W at *
 generalize vnum c=vc at *
 rcases hcf with⟨rfl,rfl⟩|⟨rfl,rfl⟩|⟨rfl,rfl⟩|⟨rfl,rfl⟩
 all_goals
  refine w_body3 Tryz.func31 rfl rfl ?_
  repeat'(first|apply zF|apply zB|apply zE|refine jg ?_ ?_|(apply yR;exact rfl;exact rfl)|(apply yT zC;exact rfl;exact rfl;(focus first|with_reducible exact pl79);exact rfl;(focus repeat(first|exact BuildR.nil|(apply BuildR.one;exact rfl;exact rfl;(first|(focus(repeat(first|exact SetAt.zero));done)))));exact rfl)|(apply o_lookup (α:=Int) zC;exact rfl;exact pk;exact rfl;exact Tryz.underlying106;exact Tryz.underlying3;exact keyI;exact rfl;exact rfl;(focus first|exact hf))|refine jq ?_ (c:=by exact⟨_,hV _ hv,jN⟩)|(refine jc ?_ (c:=by exact⟨_,hW _,jN⟩);rintro _ _ ⟨M,rfl,rfl⟩)|refine jq ?_ (c:=by exact⟨_,hF _ (hv.re (.drop .nil)),jN⟩)|refine jq ?_ (c:=by exact⟨_,k1 _,jN⟩)|refine jw ?_|(apply zS;exact rfl)|apply zA|apply zI|apply zN|exact jO|exact rfl)
  all_goals first
   |exact jX
   |exact jG
theorem BEncode_any (w:Int)(a0 a1 a2 a3:List UInt8)(L:List (List UInt8))(v:Value)(h:SH)(hv:Has h (L.map sV) 1 L.length v)(hl:L.length≤4096)(hw:1≤w∧w≤128)(hs:∀s∈L,isV s∧(s.length:Int)=w)
  (h0:∀h,Has h (L.map sV) 1 L.length v→SRun Tryz.prog 105 [.agg ⟨[I w]⟩,v] h fun r q=>r=.tuple #[S a0,B true]∧q=h)
  (h1:∀h,Has h (L.map sV) 1 L.length v→SRun Tryz.prog 106 [.agg ⟨[I w]⟩,v] h fun r q=>r=.tuple #[S a1,B true]∧q=h)
  (h2:∀h,Has h (L.map sV) 1 L.length v→SRun Tryz.prog 107 [.agg ⟨[I w]⟩,v] h fun r q=>r=.tuple #[S a2,B true]∧q=h)
  (h3:∀h,Has h (L.map sV) 1 L.length v→SRun Tryz.prog 108 [.agg ⟨[I w]⟩,v] h fun r q=>r=.tuple #[S a3,B true]∧q=h)
  (l0:a0.length≤4000000∧a0≠[]) (l1:a1.length≤4000000∧a0.length≤a1.length) (l2:a2.length≤4000000∧a0.length≤a2.length) (l3:a3.length≤4000000∧a0.length≤a3.length) :
  SRun Tryz.prog 12 [I w,v] h fun r q=>r=.tuple #[S (vnum 0++a0),I 0]∧q=h:=by
 have hV:=fun h hv=>BValid_any w L v h hv hl hw hs
 have c0:=fun h hv=>BEncodeAs_any 0 w _ a0 L v h hv (.inl ⟨rfl,rfl⟩) hl hw hs h0 l0.1
 have c1:=fun h hv=>BEncodeAs_any 1 w _ a1 L v h hv (.inr (.inl ⟨rfl,rfl⟩)) hl hw hs h1 l1.1
 have c2:=fun h hv=>BEncodeAs_any 2 w _ a2 L v h hv (.inr (.inr (.inl ⟨rfl,rfl⟩))) hl hw hs h2 l2.1
 have c3:=fun h hv=>BEncodeAs_any 3 w _ a3 L v h hv (.inr (.inr (.inr ⟨rfl,rfl⟩))) hl hw hs h3 l3.1
 obtain⟨ad,fl,rfl,_⟩:=id hv
 have m0:(vnum 0++a0).length=1+a0.length:=List.length_append
 have m1:(vnum 1++a1).length=1+a1.length:=List.length_append
 have m2:(vnum 2++a2).length=1+a2.length:=List.length_append
 have m3:(vnum 3++a3).length=1+a3.length:=List.length_append
 have n0:vnum 0++a0≠[]:=by simp[l0.2]
 replace l1:=l1.2;replace l2:=l2.2;replace l3:=l3.2;replace l0:=l0.1
 clear h0 h1 h2 h3
 generalize vnum 0++a0=b0 at *
 generalize vnum 1++a1=b1 at *
 generalize vnum 2++a2=b2 at *
 generalize vnum 3++a3=b3 at *
 have g1:¬(b1.length:Int)<b0.length:=by omega
 have g2:¬(b2.length:Int)<b0.length:=by omega
 have g3:¬(b3.length:Int)<b0.length:=by omega
 clear m0 m1 m2 m3 l0 l1 l2 l3
 refine zY Tryz.func12 rfl rfl ?_
 repeat'(first|apply zF|apply zB|apply zE|refine jg ?_ ?_|(apply yR;exact rfl;exact rfl)|(refine jc ?_ (c:=by exact⟨_,hV _ hv,jN⟩);rintro _ _ ⟨rfl,rfl⟩)|(apply zS;exact rfl)|apply zA|apply zI|apply zH|exact jS|fail)
 all_goals try exact jX
 rename SH=>h
 refine zZ (S:=Nat × List UInt8) (fun s=>[(0,I w),(1,.slice ad L.length fl),(6,S s.2),(14,I s.1)])
  (fun _=>h) (fun s=>s.1≤4∧(0=s.1→s.2=[])∧(0<s.1→s.2=b0)) (fun s=>4-s.1) (0,[]) ⟨Nat.zero_le _,fun _=>rfl,fun k=>absurd k (by decide)⟩ jB jK ?_
 rintro⟨i,o⟩ ⟨hi,hz,ho⟩
 dsimp only at hi hz ho ⊢
 have hii:i=0∨i=1∨i=2∨i=3∨i=4:=by omega
 rcases hii with rfl|rfl|rfl|rfl|rfl
 ·obtain rfl:=hz rfl
  repeat'(first|apply zF|apply zB|apply zE|refine jg ?_ ?_|(apply o_ar zC;exact rfl;exact rfl)|(refine jc ?_ (c:=by exact⟨_,c0 _ hv,jN⟩);rintro _ _ ⟨rfl,rfl⟩)|refine jw ?_|refine jk ?_|(apply yB;exact rfl)|apply zA|apply zG|apply zI|apply zH|exact jS|exact jW|fail)
  all_goals first
   |exact jX
   |exact⟨(1,b0),⟨by show 1≤4;decide,fun k=>absurd k (by show ¬0=1;decide),fun _=>rfl⟩,by show 4-1<4-0;decide,jB,jK⟩
 ·obtain rfl:=ho (by decide)
  repeat'(first|apply zF|apply zB|apply zE|refine jg ?_ ?_|(apply o_ar zC;exact rfl;exact rfl)|(refine jc ?_ (c:=by exact⟨_,c1 _ hv,jN⟩);rintro _ _ ⟨rfl,rfl⟩)|refine jw ?_|refine ji ?_|(apply yB;exact rfl)|refine jf ?_|apply zA|apply zG|apply zI|apply zH|exact jS|exact jW|fail)
  all_goals first
   |exact jX
   |exact⟨(2,o),⟨by show 2≤4;decide,fun k=>absurd k (by show ¬0=2;decide),fun _=>rfl⟩,by show 4-2<4-1;decide,jB,jK⟩
 ·obtain rfl:=ho (by decide)
  repeat'(first|apply zF|apply zB|apply zE|refine jg ?_ ?_|(apply o_ar zC;exact rfl;exact rfl)|(refine jc ?_ (c:=by exact⟨_,c2 _ hv,jN⟩);rintro _ _ ⟨rfl,rfl⟩)|refine jw ?_|refine ji ?_|(apply yB;exact rfl)|refine jf ?_|apply zA|apply zG|apply zI|apply zH|exact jS|exact jW|fail)
  all_goals first
   |exact jX
   |exact⟨(3,o),⟨by show 3≤4;decide,fun k=>absurd k (by show ¬0=3;decide),fun _=>rfl⟩,by show 4-3<4-2;decide,jB,jK⟩
 ·obtain rfl:=ho (by decide)
  repeat'(first|apply zF|apply zB|apply zE|refine jg ?_ ?_|(apply o_ar zC;exact rfl;exact rfl)|(refine jc ?_ (c:=by exact⟨_,c3 _ hv,jN⟩);rintro _ _ ⟨rfl,rfl⟩)|refine jw ?_|refine ji ?_|(apply yB;exact rfl)|refine jf ?_|apply zA|apply zG|apply zI|apply zH|exact jS|exact jW|fail)
  all_goals first
   |exact jX
   |exact⟨(4,o),⟨by show 4≤4;decide,fun k=>absurd k (by show ¬0=4;decide),fun _=>rfl⟩,by show 4-4<4-3;decide,jB,jK⟩
 ·obtain rfl:=ho (by decide)
  repeat'(first|apply zF|apply zB|apply zE|refine jg ?_ ?_|(apply zS;exact rfl)|apply zA|apply zK|apply zJ|apply zN|apply zV|exact jS|fail)
  all_goals first
   |exact jX
   |exact jG

def tzB :List UInt8:=(List.append (List.append [8,0,1,0,2,0,1,0,3,0,1,0,2,0,1,0,4,0,1,0,2,0,1,0,3,0,1,0,2,0,1,0,5,0,1,0,2,0,1,0,3,0,1,0,2,0,1,0,4,0,1,0,2,0,1,0,3,0,1,0,2,0,1,0] [6,0,1,0,2,0,1,0,3,0,1,0,2,0,1,0,4,0,1,0,2,0,1,0,3,0,1,0,2,0,1,0,5,0,1,0,2,0,1,0,3,0,1,0,2,0,1,0,4,0,1,0,2,0,1,0,3,0,1,0,2,0,1,0]) (List.append [7,0,1,0,2,0,1,0,3,0,1,0,2,0,1,0,4,0,1,0,2,0,1,0,3,0,1,0,2,0,1,0,5,0,1,0,2,0,1,0,3,0,1,0,2,0,1,0,4,0,1,0,2,0,1,0,3,0,1,0,2,0,1,0] [6,0,1,0,2,0,1,0,3,0,1,0,2,0,1,0,4,0,1,0,2,0,1,0,3,0,1,0,2,0,1,0,5,0,1,0,2,0,1,0,3,0,1,0,2,0,1,0,4,0,1,0,2,0,1,0,3,0,1,0,2,0,1,0]))
theorem tzB_len :tzB.length=256:=by decide +kernel
def tzV (c:Int):Int:=IntKind.i64.wrap (bat tzB c)
theorem tz_any (c:Int)(h:SH)(hc:0≤c∧c<256):SRun Tryz.prog 182 [.int .u8 c] h fun r q=>r=I (tzV c)∧q=h:=by
 have hl:0≤c∧c<(tzB.length:Int):=by rw[tzB_len];exact hc
 refine zR Tryz.func182 rfl rfl ?_
 repeat'(first|apply zF|apply zB|apply zE|refine jg ?_ ?_|(apply o_ar zC;exact rfl;exact rfl)|apply zA|apply zN|exact jS|((with_reducible apply Wr.mk);first|rfl))
 all_goals first
  |exact⟨hl⟩
  |exact jG
abbrev rdH (R:Nat)(h:SH)(d:List UInt8)(p n:Nat):SH:=(R,⟨[S d,I p,I n],false⟩)::h
theorem bLeft_any (R:Nat)(h:SH)(d:List UInt8)(p n:Nat)(hp:p≤n)(hn:n≤100000):SRun Tryz.prog 128 [gptr R 0 3] (rdH R h d p n) fun r q=>r=I ((n:Int)-p)∧q=rdH R h d p n:=by
 refine zR Tryz.func128 rfl rfl ?_
 repeat'(first|apply zF|apply zB|apply zE|refine jr ?_|refine jg ?_ ?_|(apply o_ar zC;exact rfl;exact rfl)|(apply zM zC;(iterate 3 exact rfl);exact pk)|apply zA|apply zN|exact jS|exact jL|exact jW|exact jE|exact True.intro|exact rfl)
 all_goals first
  |exact jG
theorem bNewReader_any (d:List UInt8)(n:Nat)(h:SH)(h0:d≠[])(hd:d.length≤5000)(hz:bat d ((d.length:Int)-1)≠0)(hn:(n:Int)=8*(d.length:Int)-1-tzV (bat d ((d.length:Int)-1)))(hn1:n≤60000)(ht:0≤tzV (bat d ((d.length:Int)-1))∧tzV (bat d ((d.length:Int)-1))<100) :
  SRun Tryz.prog 127 [S d] h fun r q=>∃R,r=.tuple #[gptr R 0 3,I 0]∧q=rdH R h d 0 n:=by
 have hdl:0<d.length:=List.length_pos_iff.2 h0
 have hbi:0≤bat d ((d.length:Int)-1)∧bat d ((d.length:Int)-1)<256:=⟨bat_lo _ _,bat_hi _ _⟩
 have hT:=fun h=>tz_any (bat d ((d.length:Int)-1)) h hbi
 generalize tzV (bat d ((d.length:Int)-1))=t at *
 have hnn:8*(d.length:Int)-1-t=n:=hn.symm
 refine zR Tryz.func127 rfl rfl ?_
 repeat'(first|apply zF|apply zB|apply zE|refine jg ?_ ?_|(apply o_ar zC;exact rfl;exact rfl)|refine jx ?_|(apply yT zC;exact rfl;exact rfl;(focus first|with_reducible exact pl241);exact rfl;(focus repeat(first|exact BuildR.nil|(apply BuildR.one;exact rfl;exact rfl;(first|(focus(repeat(first|exact SetAt.zero|apply SetAt.succ));done)))));exact rfl)|refine jq ?_ (c:=by exact⟨_,hT _,jN⟩)|refine jw ?_|refine ji ?_|refine jf ?_|apply zA|apply zI|apply zN|exact jO|exact jW|intro A)
 all_goals first
  |exact jX
  |(rw[hnn];exact jF (k:=by exact⟨A,rfl,rfl⟩))
def rstp (d:List UInt8)(p:Nat)(a:Int):Int :=
 IntKind.i64.wrap ((BitVec.ofInt IntKind.i64.bits (IntKind.i64.wrap (a*2^min (Int.toNat 1) IntKind.i64.bits)) ||| BitVec.ofInt IntKind.i64.bits (((BitVec.ofInt IntKind.u8.bits (bat d (IntKind.i64.wrap ((p:Int).tdiv 8))/2^min (7-(p:Int)%8).toNat IntKind.u8.bits)&&&BitVec.ofInt IntKind.u8.bits 1).toNat:Int)%256)).toNat:Int)
def tkv (d:List UInt8)(p:Nat)(a:Int):Nat→Int
 |0=>a
 |k+1=>tkv d (p+1) (rstp d p a) k
theorem take_any (R:Nat)(h:SH)(d:List UInt8)(p n k:Nat)(hp:p+k≤n)(hn:n≤60000)(hd:n≤8*d.length)(hk:k≤62):SRun Tryz.prog 253 [gptr R 0 3,I k] (rdH R h d p n) fun r q=>r=.tuple #[I (tkv d p 0 k),I 0]∧q=rdH R h d (p+k) n:=by
 have hL:=bLeft_any R h d p n (by omega) (by omega)
 obtain⟨T,hT⟩:∃T,tkv d p 0 k=T:=⟨_,rfl⟩
 rw[hT]
 refine zY Tryz.func253 rfl rfl ?_
 repeat'(first|apply zF|apply zB|apply zE|refine jg ?_ ?_|refine jq ?_ (c:=by exact⟨_,hL,jN⟩)|refine jf ?_|apply zA|apply zI|apply zH|exact jS|fail)
 all_goals try exact jX
 refine zZ (S:=Nat × Int) (fun s=>[(0,gptr R 0 3),(6,I s.2),(11,I k),(12,I s.1)]) (fun s=>(R,⟨[S d,I ((p+s.1:Nat):Int),I n],false⟩)::h) (fun s=>s.1≤k∧tkv d (p+s.1) s.2 (k-s.1)=T) (fun s=>k-s.1) (0,0) ⟨Nat.zero_le _,hT⟩ jB jK ?_
 clear hT
 rintro⟨j,a⟩ ⟨hj,hT⟩
 dsimp only at hj hT ⊢
 by_cases hjl:j<k
 ·rw[show k-j=(k-(j+1))+1 by omega]at hT
  replace hT:tkv d (p+(j+1)) (rstp d (p+j) a) (k-(j+1))=T:=hT
  have hq:IntKind.i64.wrap (((p+j:Nat):Int).tdiv 8)=(((p+j)/8:Nat):Int):=by
   rw[Int.tdiv_eq_ediv_of_nonneg (by omega)];exact IntWalk.i64_in _ (by omega)
  repeat'(first|apply zF|apply zB|apply zE|refine jr ?_|refine jg ?_ ?_|(apply o_ar zC;exact rfl;exact rfl)|(apply o_ex;exact rfl;exact rfl)|(apply zM zC;(iterate 3 exact rfl);exact pk)|(apply zX zC;(iterate 4 exact rfl);exact up)|refine jd ?_|apply zA|apply zG|apply zI|apply zH|exact jO|exact jL|((with_reducible apply Wr.mk);first|exact IntWalk.i64_in _ (by omega)|exact IntKind.wrap_u8 _|rfl)|((with_reducible apply Ex.mk);first|exact Int.tmod_eq_emod_of_nonneg (by omega)|rfl)|exact jE|exact jZ|exact True.intro|exact rfl)
  all_goals first
   |exact⟨by rw[hq];omega⟩
   |(refine⟨(j+1,_),?_,by show k-(j+1)<k-j;omega,⟨rfl,rfl,rfl,rfl,trivial⟩,jK⟩
     exact⟨hjl,hT⟩)
 ·obtain rfl:j=k:=by omega
  rw[Nat.sub_self]at hT
  replace hT:a=T:=hT
  subst hT
  repeat'(first|apply zF|apply zB|apply zE|refine jg ?_ ?_|refine jf ?_|apply zA|apply zK|apply zJ|apply zN|apply zV|exact jS|fail)
  all_goals first
   |exact jX
   |exact jG
theorem kd5_any (R:Nat)(h:SH)(d:List UInt8)(p n k:Nat)(hp:p+k≤n)(hn:n≤60000)(hd:n≤8*d.length)(hk:k≤62):SRun Tryz.prog 252 [gptr R 0 3,I k] (rdH R h d p n) fun r q=>r=.tuple #[I (tkv d p 0 k),I 0]∧q=rdH R h d (p+k) n:=by
 have hT:=take_any R h d p n k hp hn hd hk
 refine zY Tryz.func252 rfl rfl ?_
 repeat'(first|apply zF|apply zB|apply zE|refine jg ?_ ?_|refine jq ?_ (c:=by exact⟨_,hT,jN⟩)|apply zA|apply zN|exact jS|fail)
 all_goals first
  |exact jG
theorem Get_any (R:Nat)(h:SH)(d:List UInt8)(p n:Nat)(hp:p+2≤n)(hn:n≤60000)(hd:n≤8*d.length)(hv:¬3<tkv d p 0 2):SRun Tryz.prog 129 [gptr R 0 3,I 0,I 2,I 3] (rdH R h d p n) fun r q=>r=.tuple #[I (tkv d p 0 2),I 0]∧q=rdH R h d (p+2) n:=by
 have k1:=fun h=>find_any0 2 h (by decide)
 have k2:=kd5_any R h d p n 2 hp hn hd (by decide)
 generalize tkv d p 0 2=v at *
 refine w_body4 Tryz.func129 rfl rfl ?_
 repeat'(first|apply zF|apply zB|apply zE|refine jg ?_ ?_|(apply yR;exact rfl;exact rfl)|(apply zM zC;(iterate 3 exact rfl);exact pk)|(apply yE zC;(iterate 4 exact rfl);exact⟨rfl⟩;exact up)|refine jy ?_|refine jq ?_ (c:=by exact⟨_,k1 _,jN⟩)|refine jq ?_ (c:=by exact⟨_,k2,jK⟩)|refine jw ?_|(apply zS;exact rfl)|refine jf ?_|apply zA|apply zI|apply zN|exact jS|exact jL|exact jE|exact jP|exact True.intro|intro A|exact rfl)
 all_goals first
  |exact jX
  |exact jG

theorem rErrO_any (n:Nat)(l:List UInt8)(e:Int)(ro:Bool)(h:SH):SRun Tryz.prog 37 [gptr n 0 2] ((n,⟨[S l,I e],ro⟩)::h) fun r q=>r=I e∧q=(n,⟨[S l,I e],ro⟩)::h:=by
 refine zR Tryz.func37 rfl rfl ?_
 repeat'(first|apply zF|apply zB|apply zE|refine jg ?_ ?_|(apply zM zC;(iterate 3 exact rfl);exact pk)|apply zA|apply zN|exact jS|exact jL|exact jE|exact True.intro|exact rfl)
 all_goals first
  |exact jG
theorem bLeftO_any (R:Nat)(h:SH)(d:List UInt8)(p n:Nat)(ro:Bool)(hp:p≤n)(hn:n≤100000):SRun Tryz.prog 128 [gptr R 0 3] ((R,⟨[S d,I p,I n],ro⟩)::h) fun r q=>r=I ((n:Int)-p)∧q=(R,⟨[S d,I p,I n],ro⟩)::h:=by
 refine zR Tryz.func128 rfl rfl ?_
 repeat'(first|apply zF|apply zB|apply zE|refine jr ?_|refine jg ?_ ?_|(apply o_ar zC;exact rfl;exact rfl)|(apply zM zC;(iterate 3 exact rfl);exact pk)|apply zA|apply zN|exact jS|exact jL|exact jW|exact jE|exact True.intro|exact rfl)
 all_goals first
  |exact jG
def rowR (E:List UInt8)(w i:Nat):List UInt8:=(List.range w).map fun j=>b8 (ch (tkv E (2*(w*i+j)) 0 2))
set_option maxHeartbeats 4000000 in
theorem readPlain_any (w c n:Nat)(D E:List UInt8)(L:List (List UInt8))(nr:Nat)(h:SH)(hD:D.length≤1000000)(hr:rdN D 4096=((c:Int),E,0))(hE:E≠[])(hE2:E.length≤5000)(hw:1≤w∧w≤128)(hc:1≤c∧c≤100)
  (hz:bat E ((E.length:Int)-1)≠0) (hn:(n:Int)=8*(E.length:Int)-1-tzV (bat E ((E.length:Int)-1))) (hn1:n≤60000) (ht:0≤tzV (bat E ((E.length:Int)-1))∧tzV (bat E ((E.length:Int)-1))<100)
  (hm:2*(c:Int)*(w:Int)=n) (hL:L.length=c) (hrow:∀i,i<c→L[i]! = rowR E w i) (hv:∀k,k<c*w→¬3<tkv E (2*k) 0 2) :
  SRun Tryz.prog 77 [.agg ⟨[I w]⟩,gptr nr 0 2] (rdB nr D 0::h) fun r q=>∃A,r=.tuple #[gsl A 0 c c 1,B true]∧q=(A,⟨L.map sV,false⟩)::rdB nr [] 0::h:=by
 have k1:=fun n h=>rNumber_any n D 4096 h hD
 rw[hr]at k1
 replace k1:∀n h,SRun Tryz.prog 36 [gptr n 0 2,I 4096] (rdB n D 0::h) fun r q=>r=I c∧q=rdB n E 0::h:=k1
 have k3:=fun n h=>rLeft_any n E 0 h
 have k4:=fun n h=>rTake_any n E E.length h (by omega) (by omega)
 rw[Int.toNat_natCast,List.take_length,List.drop_length]at k4
 have k5:=fun h=>bNewReader_any E n h hE hE2 hz hn hn1 ht
 have hn8:n≤8*E.length:=by omega
 clear hr hz hn ht
 refine zY Tryz.func77 rfl rfl ?_
 repeat'((fail_if_success (show SWp _ _ (Code.seq (Code.region 3 _ _) _) _ _ _));(fail_if_success (show SWp _ _ (Code.region 3 _ _) _ _ _));first|apply zF|apply zB|apply zE|refine jg ?_ ?_|refine jx ?_|refine jq ?_ (c:=by exact⟨_,k1 _ _,jC⟩)|refine jq ?_ (c:=by exact⟨_,k3 _ _,jN⟩)|refine jq ?_ (c:=by exact⟨_,k4 _ _,jN⟩)|(refine jc ?_ (c:=by exact⟨_,k5 _,jN⟩);rintro _ _ ⟨R,rfl,rfl⟩)|apply zA|exact jS|intro A)
 have e1:SRun Tryz.prog 37 [gptr nr 0 2] (lockS (rdB nr [] 0::h)) fun r q=>r=I 0∧q=lockS (rdB nr [] 0::h):=rErrO_any nr [] 0 true (lockS h)
 have e2:SRun Tryz.prog 128 [gptr R 0 3] (lockS (rdH R h E 0 n)) fun r q=>r=I n∧q=lockS (rdH R h E 0 n):=by
  have:=bLeftO_any R (lockS h) E 0 n true (Nat.zero_le _) (by omega)
  rw[show(n:Int)-((0:Nat):Int)=n by omega]at this
  exact this
 revert A;intro B0
 have hzS:zrow (S []) (((c:Nat):Int).toNat*1)=(L.take 0++List.replicate (L.length-0) []).map sV:=by
  rw[List.take_zero,List.nil_append,Nat.sub_zero,hL];exact map_zrow (f:=sV) [] rfl rfl _
 repeat'(first|apply zF|apply zB|apply zE|refine jr ?_|refine jg ?_ ?_|(apply o_ar zC;exact rfl;exact rfl)|(apply zM zC;(iterate 3 exact rfl);exact pk)|(apply o_makeSlice zC;(iterate 6 exact rfl);decide;omega;(focus first|exact hzS);exact rfl)|(apply yS;(iterate 4 exact rfl);exact⟨_,e1,by repeat(first|with_reducible exact Take.nil|with_reducible apply yL|with_reducible apply Take.c|with_reducible apply Take.drop)⟩;exact fun _ _ h=>h.1;(focus(repeat(first|exact Flat.c rfl))))|(apply yS;(iterate 4 exact rfl);exact⟨_,e2,by repeat(first|with_reducible exact Take.nil|with_reducible apply yL|with_reducible apply Take.c|with_reducible apply Take.drop)⟩;exact fun _ _ h=>h.1;(focus(repeat(first|exact Flat.c rfl))))|refine jw ?_|refine jf ?_|apply zA|apply zI|apply zH|exact jS|exact jL|exact jW|exact jE|exact True.intro|intro A|exact rfl)
 all_goals try exact jX
 revert A;intro A9
 clear e1 e2 k1 k3 k4 k5 hzS
 have hmN:n=2*(w*c):=by
  have e:((w*c:Nat):Int)=(w:Int)*(c:Int):=Int.natCast_mul _ _
  rw[Int.mul_assoc,Int.mul_comm (c:Int)]at hm
  omega
 refine zZ (S:=Nat × Nat) (fun s=>[(2,gptr B0 0 1),(7,gptr R 0 3),(9,gsl A9 0 (c*1) c 1),(45,I c),(46,I s.1)])
  (fun s=>(A9,⟨(L.take s.1++List.replicate (L.length-s.1) []).map sV,false⟩)::rdH R (rdB nr [] 0::(B0,⟨[I w],false⟩)::h) E s.2 n) (fun s=>s.1≤c∧s.2=2*(w*s.1)) (fun s=>c-s.1) (0,0) ⟨Nat.zero_le _,rfl⟩ jB jK ?_
 rintro⟨i,p⟩ ⟨hi,hp⟩
 dsimp only at hi hp ⊢
 by_cases hil:i<c
 ·have hst:=set_prog (X:=L) (z:=([]:List UInt8)) (i:=i) (by omega)
  have hri:=hrow i hil
  rw[hri]at hst
  have hrl:(rowR E w i).length=w:=by simp[rowR]
  have hrj:∀j,j<w→(rowR E w i)[j]! = b8 (ch (tkv E (2*(w*i+j)) 0 2)):=fun j hj=>by unfold rowR;rw[map_bang (by rw[List.length_range];exact hj),range_bang hj]
  generalize rowR E w i=row at *
  have hml:(L.take i++List.replicate (L.length-i) []).length=c:=by simp;omega
  have hlen:((L.take i++List.replicate (L.length-i) []).map sV).length=c*1:=by rw[List.length_map,hml,Nat.mul_one]
  have hset2:SetAt ((L.take i++List.replicate (L.length-i) []).map sV) (0+((i:Int)).toNat*1) (S row) ((L.take (i+1)++List.replicate (L.length-(i+1)) []).map sV):=by
   rw[←hst];exact setAt_mapZ (by omega)
  have hzB:zrow (.int .u8 0) (((w:Nat):Int).toNat*1)=bytesV (row.take 0++List.replicate (row.length-0) 0):=by
   rw[List.take_zero,List.nil_append,Nat.sub_zero,hrl];exact map_zrow (f:=byteV) 0 rfl rfl _
  generalize L.take i++List.replicate (L.length-i) []=Y at *
  repeat'(first|apply zF|apply zB|apply zE|refine jg ?_ ?_|(apply zM zC;(iterate 3 exact rfl);exact pk)|(apply o_makeSlice zC;(iterate 6 exact rfl);decide;omega;(focus first|exact hzB);exact rfl)|refine jd ?_|apply zA|apply zI|apply zH|exact jS|exact jL|exact jE|exact True.intro|intro A|exact rfl)
  all_goals try exact jX
  revert A;intro A11
  refine zZ (S:=Nat × Nat) (fun s=>[(2,gptr B0 0 1),(7,gptr R 0 3),(9,gsl A9 0 (c*1) c 1),(10,I i),(11,gsl A11 0 (w*1) w 1),(45,I c),(46,I i),(53,I w),(54,I s.1)])
   (fun s=>(A11,⟨bytesV (row.take s.1++List.replicate (row.length-s.1) 0),false⟩)::(A9,⟨Y.map sV,false⟩)::rdH R (rdB nr [] 0::(B0,⟨[I w],false⟩)::h) E s.2 n) (fun s=>s.1≤w∧s.2=2*(w*i+s.1)) (fun s=>w-s.1) (0,p) ⟨Nat.zero_le _,hp⟩ jB jK ?_
  clear hp
  rintro⟨j,p⟩ ⟨hj,hp⟩
  dsimp only at hj hp ⊢
  subst hp
  have hbig:w*(i+1)≤w*c:=Nat.mul_le_mul_left w hil
  rw[Nat.mul_succ]at hbig
  by_cases hjl:j<w
  ·have hvk:=hv (w*i+j) (by rw[Nat.mul_comm c w];omega)
   have hG:=fun h=>Get_any R h E (2*(w*i+j)) n (by omega) hn1 hn8 hvk
   have hstj:=set_prog (X:=row) (z:=(0:UInt8)) (i:=j) (by omega)
   rw[hrj j hjl]at hstj
   generalize tkv E (2*(w*i+j)) 0 2=t at *
   have hci:=ch_in t
   have hC:=fun h=>Char_any t h
   have hmj:(row.take j++List.replicate (row.length-j) 0).length=w:=by simp;omega
   have hset:SetAt (bytesV (row.take j++List.replicate (row.length-j) 0)) (0+((j:Int)).toNat*1) (.int .u8 (ch t)) (bytesV (row.take (j+1)++List.replicate (row.length-(j+1)) 0)):=by
    have:=setAt_bytes (l:=row.take j++List.replicate (row.length-j) 0) (i:=(j:Int)) (by omega) hci
    rw[Int.toNat_natCast,hstj]at this
    rwa [Int.toNat_natCast]
   generalize row.take j++List.replicate (row.length-j) 0=Z at *
   have hbl:(bytesV Z).length=w*1:=by rw[show(bytesV Z).length=Z.length from by simp[bytesV],hmj,Nat.mul_one]
   generalize ch t=ct at *
   repeat'(first|apply zF|apply zB|apply zE|refine jg ?_ ?_|(apply o_ar zC;exact rfl;exact rfl)|(apply zX zC;(iterate 4 exact rfl);exact up)|refine jq ?_ (c:=by exact⟨_,hG _,jC⟩)|refine jq ?_ (c:=by exact⟨_,hC _,jN⟩)|refine jd ?_|apply zA|apply zG|apply zI|apply zH|exact jO|((with_reducible apply Ln.mk);first|omega)|exact jW|((with_reducible apply Se.mk);first|exact hset)|exact True.intro)
   all_goals first
    |exact jX
    |exact⟨(j+1,2*(w*i+j)+2),⟨hjl,by show 2*(w*i+j)+2=2*(w*i+(j+1));omega⟩,by show w-(j+1)<w-j;omega,jB,jK⟩
  ·obtain rfl:j=w:=by omega
   have hfin:row.take j++List.replicate (row.length-j) 0=row:=by rw[←hrl,List.take_length,Nat.sub_self];simp
   rw[hfin]
   have hbl:(bytesV row).length=j*1:=by rw[show(bytesV row).length=row.length from by simp[bytesV],hrl,Nat.mul_one]
   repeat'(first|apply zF|apply zB|apply zE|refine jg ?_ ?_|(apply o_ar zC;exact rfl;exact rfl)|(apply zX zC;(iterate 4 exact rfl);exact up)|(apply o_toString zC;(iterate 6 exact rfl);exact pk)|refine jf ?_|apply zA|apply zK|apply zG|apply zJ|apply zV|exact jO|((with_reducible apply Ln.mk);first|exact ‹_›|omega)|exact jW|((with_reducible apply Se.mk);first|exact hset2)|exact jU|exact True.intro|exact rfl)
   all_goals first
    |exact jX
    |exact⟨(i+1,2*(j*i+j)),⟨hil,by show 2*(j*i+j)=2*(j*(i+1));rw[Nat.mul_succ]⟩,by show c-(i+1)<c-i;omega,jB,jK⟩
 ·obtain rfl:i=c:=by omega
  have hfin:L.take i++List.replicate (L.length-i) []=L:=by rw[←hL,List.take_length,Nat.sub_self];simp
  rw[hfin]
  repeat'(first|apply zF|apply zB|apply zE|refine jg ?_ ?_|refine jf ?_|apply zA|apply zK|apply zJ|apply zN|apply zV|exact jS|fail)
  all_goals first
   |exact jX
   |exact jF (k:=by exact⟨A9,congrArg (fun z=>Value.tuple #[gsl A9 0 z i 1,B true]) (Nat.mul_one _),rfl⟩)

def ndecN :Nat→List Int→Dec→List Int × Dec
 |0,_,d=>([],d)
 |k+1,t,d=>((ndec t d).2.2::(ndecN k (ndec t d).1 (ndec t d).2.1).1,(ndecN k (ndec t d).1 (ndec t d).2.1).2)
theorem ndec_ok {t:List Int}{d:Dec}(h:DecOk d)(ht:t.length=64):DecOk (ndec t d).2.1∧(ndec t d).1.length=64:=by
 obtain⟨h1,h2,h3⟩:=tdec_ok (k:=6) (t:=t) (j:=1) h
 refine⟨?_,h2.trans ht⟩
 show DecOk (if _ then _ else _)
 split
 ·exact h1
 ·exact ddir_ok h1 _
def rdecN (l:List UInt8)(most:Int)(t:List Int):List Int × Int :=
 if(rdN l 4096).2.2≠0 then([],12)else if most<(rdN l 4096).1 then([],2)else if(rdN l 4096).1=0 then([],rend (rdN l 4096).2.1 0)
 else if dend (ndecN (rdN l 4096).1.toNat t (dnew (rdN l 4096).2.1)).2≠0 then([],dend (ndecN (rdN l 4096).1.toNat t (dnew (rdN l 4096).2.1)).2)
 else((ndecN (rdN l 4096).1.toNat t (dnew (rdN l 4096).2.1)).1,0)
def IsN (h:SH)(x:List Int × Int)(r:Value)(q:SH):Prop:=(x.1=[]∧r=.tuple #[.slice none 0 0,Er x.2]∧q=h) ∨
 (x.2=0∧∃A,r=.tuple #[gsl A 0 x.1.length x.1.length 1,Er 0]∧q=(A,⟨nodes x.1,false⟩)::h)
theorem decodeI_any (M N:Nat)(t:List Int)(l:List UInt8)(most:Int)(h:SH)(hl:l.length≤1000000)(ht:t.length=64) :
  SRun Tryz.prog 122 [.iface 136 (gptr M 0 2),S l,I 4096,I most] ((M,⟨numC N,false⟩)::(N,⟨nodes t,false⟩)::h) (IsN h (rdecN l most t)):=by
 have hR:=fun n h=>rNumber_any n l 4096 h hl
 have hok:=rdN_ok l 4096
 obtain⟨x,hx⟩:∃x,rdecN l most t=x:=⟨_,rfl⟩
 rw[hx]
 unfold rdecN at hx
 generalize rdN l 4096=V at *
 obtain⟨k,d,e⟩:=V
 dsimp only at *
 have hT:=fun n h=>rTake_any n d (d.length:Int) h (by omega) (by omega)
 rw[show((d.length:Int)).toNat=d.length from rfl,List.take_length,List.drop_length]at hT
 by_cases he:e=0
 case neg =>
  rw[if_pos he]at hx
  refine w_body4 Tryz.func122 rfl rfl ?_
  repeat'(first|apply zF|apply zB|apply zE|refine jg ?_ ?_|(refine jc ?_ (c:=by exact⟨_,yN _ _,jN⟩);rintro _ _ ⟨n,rfl,rfl⟩)|refine jq ?_ (c:=by exact⟨_,hR _ _,jN⟩)|refine jq ?_ (c:=by exact⟨_,rErr_any _ _ _ _,jN⟩)|refine jd ?_|apply zA|apply zP|apply zN|exact jS|fail)
  all_goals first
   |contradiction
   |exact jF (k:=by exact .inl ⟨by rw[←hx],by rw[←hx];rfl,rfl⟩)
 subst he
 rw[if_neg (by decide)]at hx
 have hk:=hok.2 rfl
 by_cases h1:most<k
 case pos =>
  rw[if_pos h1]at hx
  refine w_body4 Tryz.func122 rfl rfl ?_
  repeat'(first|apply zF|apply zB|apply zE|refine jg ?_ ?_|(refine jc ?_ (c:=by exact⟨_,yN _ _,jN⟩);rintro _ _ ⟨n,rfl,rfl⟩)|refine jq ?_ (c:=by exact⟨_,hR _ _,jN⟩)|refine jq ?_ (c:=by exact⟨_,rErr_any _ _ _ _,jN⟩)|(apply zS;exact rfl)|refine jd ?_|apply zA|apply zP|apply zI|apply zN|exact jS|fail)
  all_goals first
   |contradiction
   |exact jF (k:=by exact .inl ⟨by rw[←hx],by rw[←hx];rfl,rfl⟩)
 rw[if_neg h1]at hx
 by_cases h2:k=0
 case pos =>
  rw[if_pos h2]at hx
  refine w_body4 Tryz.func122 rfl rfl ?_
  repeat'(first|apply zF|apply zB|apply zE|refine jg ?_ ?_|(refine jc ?_ (c:=by exact⟨_,yN _ _,jN⟩);rintro _ _ ⟨n,rfl,rfl⟩)|refine jq ?_ (c:=by exact⟨_,hR _ _,jN⟩)|refine jq ?_ (c:=by exact⟨_,rErr_any _ _ _ _,jN⟩)|refine jq ?_ (c:=by exact⟨_,vEnd_any _ _ _ _,jN⟩)|(apply zS;exact rfl)|refine jd ?_|refine jf ?_|apply zA|apply zP|apply zI|apply zN|exact jS|fail)
  all_goals first
   |contradiction
   |exact jF (k:=by exact .inl ⟨by rw[←hx],by rw[←hx];rfl,rfl⟩)
 rw[if_neg h2]at hx
 obtain⟨m,rfl⟩:=Int.eq_ofNat_of_zero_le hk.1
 rw[Int.toNat_natCast]at hx
 have hzr:zrow (Value.int IntKind.i64 0) (((m:Int)).toNat*1)=nodes (List.replicate m 0):=by
  rw[Int.toNat_natCast];exact map_zrow (f:=iV) 0 rfl rfl _
 refine w_body4 Tryz.func122 rfl rfl ?_
 repeat'(first|apply zF|apply zB|apply zE|refine jg ?_ ?_|(apply o_makeSlice zC;(iterate 6 exact rfl);decide;omega;(focus first|rfl);exact rfl)|(refine jc ?_ (c:=by exact⟨_,yN _ _,jN⟩);rintro _ _ ⟨n,rfl,rfl⟩)|refine jq ?_ (c:=by exact⟨_,hR _ _,jN⟩)|refine jq ?_ (c:=by exact⟨_,rErr_any _ _ _ _,jN⟩)|refine jq ?_ (c:=by exact⟨_,rLeft_any _ _ _ _,jN⟩)|refine jq ?_ (c:=by exact⟨_,hT _ _,jN⟩)|(refine jc ?_ (c:=by exact⟨_,NewDecoder_any _ _ (by omega),jN⟩);rintro _ _ ⟨n2,rfl,rfl⟩)|(apply zS;exact rfl)|refine jf ?_|apply zA|apply zI|apply zH|exact jS|intro A)
 rw[hzr,Int.toNat_natCast]
 refine zZ (S:=Nat × List Int × List Int × Dec) (fun x=>[(0,.iface 136 (gptr M 0 2)),(12,gptr n2 0 5),(13,gsl A 0 (m*1) m 1),(39,I m),(40,I x.1)])
  (fun x=>(A,⟨nodes x.2.1,false⟩)::decB n2 x.2.2.2::(M,⟨numC N,false⟩)::(N,⟨nodes x.2.2.1,false⟩)::h)
  (fun x=>x.1≤m∧x.2.1.length=m∧x.2.2.1.length=64∧DecOk x.2.2.2∧(x.2.1.take x.1++(ndecN (m-x.1) x.2.2.1 x.2.2.2).1,(ndecN (m-x.1) x.2.2.1 x.2.2.2).2)=ndecN m t (dnew d))
  (fun x=>m-x.1) (0,List.replicate m 0,t,dnew d) ⟨Nat.zero_le _,List.length_replicate,ht,dnew_ok (by omega),rfl⟩ jB jK ?_
 rintro⟨i,L,t1,d1⟩ ⟨hi,hL,ht1,hok1,he⟩
 dsimp only at hi hL ht1 hok1 he ⊢
 by_cases him:i<m
 ·have hb:=ndec_ok (t:=t1) hok1 ht1
  have hD:=NumDecode_any n2 M N t1 d1 ((A,⟨nodes L,false⟩)::h) ht1 hok1
  rw[show m-i=(m-(i+1))+1 by omega]at he
  rw[show ∀k,ndecN (k+1) t1 d1=((ndec t1 d1).2.2::(ndecN k (ndec t1 d1).1 (ndec t1 d1).2.1).1,(ndecN k (ndec t1 d1).1 (ndec t1 d1).2.1).2)from fun _=>rfl]at he
  generalize ndec t1 d1=B at *
  obtain⟨t2,d2,c2⟩:=B
  dsimp only at he hD hb
  repeat'(first|apply zF|apply zB|apply zE|refine jg ?_ ?_|(apply o_ar zC;exact rfl;exact rfl)|(apply zX zC;(iterate 4 exact rfl);exact up)|(apply o_invoke;(iterate 3 exact rfl);exact⟨_,hD,jC⟩;kernel_rfl;exact rfl;rintro _ _ ⟨rfl,rfl⟩)|refine jd ?_|apply zA|apply zG|apply zI|apply zH|exact jO|((with_reducible apply Ln.mk);first|(simp ;first|done|omega))|exact jW|((with_reducible apply Se.mk);first|exact setAt_mapZ (by omega))|exact True.intro)
  all_goals first
   |(exfalso;omega)
   |(refine⟨(i+1,L.set i c2,t2,d2),⟨him,by simp[hL],hb.2,hb.1,?_⟩,by show m-(i+1)<m-i;omega,jB,jK⟩
     dsimp only
     rw[take_set (by omega),List.append_assoc]
     exact he)
 ·obtain rfl:i=m:=by omega
  rw[Nat.sub_self,List.take_of_length_le (by omega)]at he
  have he:(L++[],d1)=ndecN i t (dnew d):=he
  rw[List.append_nil]at he
  rw[←he]at hx
  dsimp only at hx
  by_cases h3:dend d1=0
  ·rw[if_neg (fun g=>g h3)]at hx
   repeat'(first|apply zF|apply zB|apply zE|refine jg ?_ ?_|refine jq ?_ (c:=by exact⟨_,End_any _ _ _,jC⟩)|refine jf ?_|apply zA|apply zK|apply zJ|apply zI|apply zN|apply zV|exact jS|fail)
   all_goals try contradiction
   subst hx hL
   exact jF (k:=by exact .inr ⟨rfl,A,by rw[Nat.mul_one];rfl,rfl⟩)
  ·rw[if_pos h3]at hx
   repeat'(first|apply zF|apply zB|apply zE|refine jg ?_ ?_|refine jq ?_ (c:=by exact⟨_,End_any _ _ _,jC⟩)|(apply yC;exact rfl;exact ‹_›)|refine jf ?_|apply zA|apply zP|apply zK|apply zJ|apply zN|apply zV|exact jS|fail)
   all_goals first
    |contradiction
    |exact jF (k:=by exact .inl ⟨by rw[←hx],by rw[←hx];rfl,rfl⟩)
theorem ndecN_len :∀(k:Nat) (t:List Int) (d:Dec),(ndecN k t d).1.length=k
 |0,_,_=>rfl
 |k+1,t,d=>by
  show((ndec t d).2.2::(ndecN k (ndec t d).1 (ndec t d).2.1).1).length=k+1
  rw[List.length_cons,ndecN_len k]
theorem rdecN_len (l:List UInt8)(most:Int)(t:List Int):(rdecN l most t).1.length≤4096:=by
 have:=(rdN_ok l 4096).2
 unfold rdecN
 split
 ·exact Nat.zero_le _
 ·rename_i h
  split
  ·exact Nat.zero_le _
  ·split
   ·exact Nat.zero_le _
   ·split
    ·exact Nat.zero_le _
    ·show(ndecN _ _ _).1.length≤4096
     rw[ndecN_len]
     have:=this (Classical.not_not.1 h)
     omega
def mDecN (l:List UInt8)(most:Int):List Int × Int :=
 if ∀z∈(rdecN l most (List.replicate 64 1024)).1,0≤z then rdecN l most (List.replicate 64 1024)else([],12)
theorem DecodeNumbers_any (l:List UInt8)(most:Int)(h:SH)(hl:l.length≤1000000):SRun Tryz.prog 68 [S l,I most] h (IsN h (mDecN l most)):=by
 have hB:∀h,SRun Tryz.prog 100 [] h fun r q=>∃M N,r=gptr M 0 2∧q=(M,⟨numC N,false⟩)::(N,⟨nodes (List.replicate 64 1024),false⟩)::h:=NewNumbers_any
 have hE:=fun M N h=>decodeI_any M N (List.replicate 64 1024) l most h hl List.length_replicate
 obtain⟨x,hx⟩:∃x,mDecN l most=x:=⟨_,rfl⟩
 rw[hx]
 unfold mDecN at hx
 have hlen:=rdecN_len l most (List.replicate 64 1024)
 generalize rdecN l most (List.replicate 64 1024)=R at *
 generalize (List.replicate 64 1024:List Int)=X at *
 refine zY Tryz.func68 rfl rfl ?_
 repeat'(first|apply zF|apply zB|apply zE|refine jg ?_ ?_|(refine jc ?_ (c:=by exact⟨_,hB _,jN⟩);rintro _ _ ⟨M,N,rfl,rfl⟩)|apply zA|exact jS|fail)
 all_goals first|(exfalso;omega)|skip
 refine o_iface (d:=.pointer 201) rfl (by kernel_rfl) rfl rfl ?_
 repeat'(first|refine jg ?_ ?_|(refine jc ?_ (c:=by exact⟨_,hE M N _,jN⟩);rintro _ _ hh)|exact jS|fail)
 obtain⟨e1,rfl,rfl⟩|⟨e1,A,rfl,rfl⟩:=hh
 ·rename_i q0
  rw[e1,if_pos (fun _ g=>absurd g List.not_mem_nil)]at hx
  repeat'(first|apply zF|apply zB|apply zE|refine jg ?_ ?_|apply zA|apply zH|exact jS|fail)
  refine zZ (S:=Unit) (fun _=>[(6,.slice none 0 0),(7,Er R.2),(18,.slice none 0 0),(19,I 0),(20,I 0)]) (fun _=>q0) (fun _=>True) (fun _=>0) () trivial jB jK ?_
  rintro - -
  repeat'(first|apply zF|apply zB|apply zE|refine jg ?_ ?_|(apply zS;exact rfl)|apply zA|apply zK|apply zJ|apply zN|apply zV|exact jS|fail)
  all_goals first
   |(exfalso;omega)
   |exact jF (k:=by exact .inl ⟨by rw[←hx];exact e1,by rw[←hx];rfl,rfl⟩)
 ·obtain⟨L,e⟩:=R
  dsimp only at e1 hx hlen ⊢
  subst e1
  have hlb:(nodes L).length=L.length:=by simp
  repeat'(first|apply zF|apply zB|apply zE|refine jg ?_ ?_|apply zA|apply zH|exact jS|fail)
  refine zZ (S:=Nat) (fun i=>[(6,gsl A 0 L.length L.length 1),(7,Er 0),(18,gsl A 0 L.length L.length 1),(19,I L.length),(20,I i)]) (fun _=>(A,⟨nodes L,false⟩)::h)
   (fun i=>i≤L.length∧∀j,j<i→0≤L[j]!) (fun i=>L.length-i) 0 ⟨Nat.zero_le _,fun j hj=>absurd hj (Nat.not_lt_zero _)⟩ jB jK ?_
  rintro i ⟨hi,hall⟩
  by_cases hil:i<L.length
  ·obtain⟨z,hz⟩:∃z,z=L[i]!:=⟨_,rfl⟩
   have hcl:(nodes L)[0+((i:Int)).toNat*1]?=some (I z):=by rw[hz];exact yM hil
   by_cases hz0:z<0
   ·rw[if_neg (fun g=>by have:=g z (by rw[hz];exact ibang_mem hil);omega)]at hx
    repeat'(first|apply zF|apply zB|apply zE|refine jg ?_ ?_|(apply zM zC;(iterate 3 exact rfl);exact pk)|(apply yC;exact rfl;(focus first|exact ‹_›|omega))|apply zA|apply zP|apply yP|apply zI|apply zN|apply zH|exact jO|((with_reducible apply Ln.mk);first|omega)|((with_reducible apply Ce.mk);first|exact hcl)|exact True.intro|exact rfl)
    all_goals first
     |(exfalso;omega)
     |exact jF (k:=by exact .inl ⟨by rw[←hx],by rw[←hx];rfl,rfl⟩)
   ·repeat'(first|apply zF|apply zB|apply zE|refine jg ?_ ?_|(apply o_ar zC;exact rfl;exact rfl)|(apply zM zC;(iterate 3 exact rfl);exact pk)|refine jd ?_|(apply yD;exact rfl;exact ‹_›)|apply zA|apply zG|apply zI|apply zH|exact jO|((with_reducible apply Ln.mk);first|omega)|exact jW|((with_reducible apply Ce.mk);first|exact hcl)|exact True.intro|exact rfl)
    all_goals first
     |(exfalso;omega)
     |exact⟨i+1,⟨hil,fun j hj=>by
       by_cases e:j=i
       ·rw[e,←hz];omega
       ·exact hall j (by omega)⟩,by show L.length-(i+1)<L.length-i;omega,jB,jK⟩
  ·obtain rfl:i=L.length:=by omega
   rw[if_pos (fun z hz=>by
    obtain⟨j,hj,e⟩:=List.mem_iff_getElem.1 hz
    have:=hall j hj
    rwa [getElem!_pos L j hj,e]at this)]at hx
   subst hx
   repeat'(first|apply zF|apply zB|apply zE|refine jg ?_ ?_|refine jf ?_|apply zA|apply zK|apply zJ|apply zN|apply zV|exact jS|fail)
   all_goals first
    |(exfalso;omega)
    |exact jF (k:=by exact .inr ⟨rfl,A,rfl,rfl⟩)

theorem BDecode_any (w:Int)(D E:List UInt8)(L:List (List UInt8))(m:Int)(h:SH)(hD:D.length≤1000000)(hr:rdN D 3=(0,E,0))(hw:1≤w∧w≤128)
  (hP:∀nr h,SRun Tryz.prog 77 [.agg ⟨[I w]⟩,gptr nr 0 2] (rdB nr E 0::h) fun r q=>∃A,r=.tuple #[gsl A 0 L.length L.length 1,B true]∧q=(A,⟨L.map sV,false⟩)::rdB nr [] 0::h)
  (hEnc:∀v h,Has h (L.map sV) 1 L.length v→SRun Tryz.prog 12 [I w,v] h fun r q=>r=.tuple #[S D,I 0]∧q=h) (hm:(L.length:Int)≤m) :
  SRun Tryz.prog 16 [I w,S D,I m] h fun r q=>∃A,r=.tuple #[gsl A 0 L.length L.length 1,I 0]∧q=(A,⟨L.map sV,false⟩)::h:=by
 have k1:=fun n h=>rNumber_any n D 3 h hD
 rw[hr]at k1
 replace k1:∀n h,SRun Tryz.prog 36 [gptr n 0 2,I 3] (rdB n D 0::h) fun r q=>r=I 0∧q=rdB n E 0::h:=k1
 have k2:=fun n h=>rErr_any n E 0 h
 have hf:(mget rdL 0).getD .nilFunc=fn0 77:=rfl
 have hW:=fun h=>readers_any h
 generalize rdL=W at *
 refine w_body3 Tryz.func16 rfl rfl ?_
 repeat'(first|apply zF|apply zB|apply zE|refine jg ?_ ?_|(apply yR;exact rfl;exact rfl)|(apply yT zC;exact rfl;exact rfl;(focus first|with_reducible exact pl79);exact rfl;(focus repeat(first|exact BuildR.nil|(apply BuildR.one;exact rfl;exact rfl;(first|(focus(repeat(first|exact SetAt.zero));done)))));exact rfl)|(apply o_lookup (α:=Int) zC;exact rfl;exact pk;exact rfl;exact Tryz.underlying76;exact Tryz.underlying3;exact keyI;exact rfl;exact rfl;(focus first|exact hf))|(refine jc ?_ (c:=by exact⟨_,yN _ _,jN⟩);rintro _ _ ⟨nr,rfl,rfl⟩)|refine jq ?_ (c:=by exact⟨_,k1 _ _,jN⟩)|refine jq ?_ (c:=by exact⟨_,k2 _ _,jN⟩)|(refine jc ?_ (c:=by exact⟨_,hW _,jN⟩);rintro _ _ ⟨M,rfl,rfl⟩)|(refine jc ?_ (c:=by exact⟨_,hP _ _,jC⟩);rintro _ _ ⟨A1,rfl,rfl⟩)|refine jq ?_ (c:=by exact⟨_,hEnc _ _ (hasS rfl .head),jN⟩)|refine jw ?_|refine ji ?_|(apply zS;exact rfl)|refine jf ?_|(apply w_ifN;exact rfl;all_goals intro hc)|apply zA|apply zP|apply zI|apply zN|exact jS|exact rfl)
 all_goals first
  |exact jX
  |exact jF (k:=by exact⟨A1,rfl,rfl⟩)
theorem rTexts_any (L:List (List UInt8))(v u:Value)(h:SH)(hv:Has h (L.map sV) 1 L.length v)(hu:Has h (L.map sV) 1 L.length u)(hl:L.length≤4096)(h0:0<L.length) :
  SRun Tryz.prog 17 [v,u] h fun r q=>r=B true∧q=h:=by
 obtain⟨ad,fl,rfl,hh⟩:=hv
 obtain⟨bd,gl,rfl,hg⟩:=hu
 obtain⟨A,ro,h1,rfl,hp⟩:=hh (by omega)
 obtain⟨B,rp,h2,rfl,hq⟩:=hg (by omega)
 have hlb:(L.map sV).length=L.length:=by simp
 refine zY Tryz.func17 rfl rfl ?_
 repeat'(first|apply zF|apply zB|apply zE|refine jg ?_ ?_|refine jf ?_|apply zA|apply zI|apply zH|exact jS|fail)
 all_goals try exact jX
 refine zZ (S:=Nat) (fun i=>[(0,.slice (some ⟨A,0,some (1*L.length)⟩) L.length fl),(1,.slice (some ⟨B,0,some (1*L.length)⟩) L.length gl),(5,I i)]) (fun _=>h) (fun i=>i≤L.length) (fun i=>L.length-i) 0 (Nat.zero_le _) jB jK ?_
 rintro i hi
 by_cases hil:i<L.length
 ·have hc1:(L.map sV)[0+((i:Int)).toNat*1]?=some (S L[i]!):=yM hil
  repeat'(first|apply zF|apply zB|apply zE|refine jr ?_|refine jg ?_ ?_|(apply o_ar zC;exact rfl;exact rfl)|(apply zM zC;(iterate 3 exact rfl);exact pk)|refine jd ?_|(apply w_ifN;exact rfl;all_goals intro hc)|apply zA|apply zP|apply zG|apply yP|apply zI|apply zN|apply zH|exact jO|((with_reducible apply Ln.mk);first|(simp[hlb];first|done|omega))|exact jW|((with_reducible apply Ce.mk);first|exact ‹_›)|exact True.intro|exact rfl)
  all_goals first
   |exact jX
   |exact⟨i+1,hil,by show L.length-(i+1)<L.length-i;omega,jB,jK⟩
 ·obtain rfl:i=L.length:=by omega
  repeat'(first|apply zF|apply zB|apply zE|refine jg ?_ ?_|refine jf ?_|apply zA|apply zK|apply zJ|apply zN|apply zV|exact jS|fail)
  all_goals first
   |exact jX
   |exact jG

set_option maxHeartbeats 2000000 in
theorem TEncode_any (a b c:Int)(r:List Int)(n:Nat)(v:Value)(h:SH)(hv:Has h (nodes (a::b::c::r)) 1 (a::b::c::r).length v)(hl:(a::b::c::r).length≤4096)(hj:inc (-1) (a::b::c::r))
  (hn:clkN a (b-a) (c-b) (a::b::c::r)[(a::b::c::r).length-1]! 4095 1=n) (hk:vck a (b-a) (c-b) n)
  (hm:misN (a::b::c::r) (tms a (b-a) (c-b) n) n≠[]) (ha:addN (a::b::c::r) (tms a (b-a) (c-b) n)≠[])
  (e1:(mEncN (gps (-1) (misN (a::b::c::r) (tms a (b-a) (c-b) n) n))).1.length≤100000) (e2:(mEncN (gps (-1) (addN (a::b::c::r) (tms a (b-a) (c-b) n)))).1.length≤100000)
  (e0:(mEncN (gps (-1) (a::b::c::r))).1.length≤100000) (hg:∀x∈gps (-1) (a::b::c::r),x≤9223372036854775807) (k:RlOk ((gps (-1) (a::b::c::r)).map vnum))
  (q1:¬(cod1 a (b-a) (c-b) n (a::b::c::r)).length<(cod0 (a::b::c::r)).length) (q2:¬(cod2 (a::b::c::r)).length<(cod0 (a::b::c::r)).length) :
  SRun Tryz.prog 11 [v] h fun y q=>y=.tuple #[S (cod0 (a::b::c::r)),I 0]∧q=h:=by
 obtain⟨ad,fl,rfl,_⟩:=id hv
 have hV:=fun h hv=>TValid_any (a::b::c::r) (.slice ad (a::b::c::r).length fl) h hv hl hj
 have htk:=inc_tok (by omega) hj
 have c0:=fun N T h hv=>cod0_any (a::b::c::r) (.slice ad (a::b::c::r).length fl) N T h hv hl htk e0
 have c1:=fun N T h hv=>cod1_any a b c r n (.slice ad (a::b::c::r).length fl) N T h hv hl hj hn hk hm ha e1 e2
 have c2:=fun T h hv=>cod2_any (a::b::c::r) (.slice ad (a::b::c::r).length fl) T h hv hl htk (by simp) hg k
 have hC:=fun h=>codings_any ad (a::b::c::r).length fl h
 clear hn hm ha k e1 e2 e0 hg
 have hl3:3≤(a::b::c::r).length:=by simp
 generalize cod1 a (b-a) (c-b) n (a::b::c::r)=s1 at *
 generalize cod0 (a::b::c::r)=s0 at *
 generalize cod2 (a::b::c::r)=s2 at *
 generalize a::b::c::r=L at *
 refine zR Tryz.func11 rfl rfl ?_
 repeat'(first|apply zF|apply zB|apply zE|refine jg ?_ ?_|(apply yR;exact rfl;exact rfl)|(refine jc ?_ (c:=by exact⟨_,hV _ hv,jN⟩);rintro _ _ ⟨rfl,rfl⟩)|(refine jc ?_ (c:=by exact⟨_,hC _,jN⟩);rintro _ _ ⟨T,N,A12,rfl,rfl⟩)|(apply zS;exact rfl)|apply zA|apply zI|apply zH|exact jS|fail)
 all_goals try exact jX
 rename SH=>h
 have e0:(fCod T N)[0+(0:Int).toNat*1]?=some (.func (.func 55) #[] #[gptr N 0 1,gptr T 0 1]):=rfl
 have e1:(fCod T N)[0+(1:Int).toNat*1]?=some (.func (.func 57) #[] #[gptr T 0 1,gptr N 0 1]):=rfl
 have e2:(fCod T N)[0+(2:Int).toNat*1]?=some (.func (.func 61) #[] #[gptr T 0 1]):=rfl
 refine zZ (S:=Nat × List UInt8) (fun s=>[(0,.slice ad L.length fl),(4,S s.2),(12,gsl A12 0 3 3 1),(13,I 3),(14,I s.1)])
  (fun s=>(A12,⟨fCod T N,false⟩)::(N,⟨[fNum],false⟩)::(T,⟨[.slice ad L.length fl],false⟩)::h) (fun s=>s.1≤3∧(0<s.1→s.2=s0)) (fun s=>3-s.1) (0,[]) ⟨Nat.zero_le _,fun k=>absurd k (by decide)⟩ jB jK ?_
 rintro⟨i,o⟩ ⟨hi,ho⟩
 dsimp only at hi ho ⊢
 have hii:i=0∨i=1∨i=2∨i=3:=by omega
 rcases hii with rfl|rfl|rfl|rfl
 ·skip
  repeat'(first|apply zF|apply zB|apply zE|refine jg ?_ ?_|(apply o_ar zC;exact rfl;exact rfl)|(apply zM zC;(iterate 3 exact rfl);exact pk)|(refine jc ?_ (c:=by exact⟨_,c0 N T ((A12,⟨fCod T N,false⟩)::h) (hv.re (.drop .nil)),jC⟩);rintro _ _ ⟨rfl,rfl⟩)|refine jk ?_|(apply yB;exact rfl)|(apply zS;exact rfl)|apply zA|apply zG|apply zI|apply zH|exact jO|exact jL|exact jW|exact jE|exact True.intro|exact rfl)
  all_goals first
   |exact jX
   |exact⟨(1,s0),⟨by show 1≤3;decide,fun _=>rfl⟩,by show 3-1<3-0;decide,jB,jK⟩
 ·obtain rfl:=ho (by decide)
  repeat'(first|apply zF|apply zB|apply zE|refine jg ?_ ?_|(apply o_ar zC;exact rfl;exact rfl)|(apply zM zC;(iterate 3 exact rfl);exact pk)|(refine jc ?_ (c:=by exact⟨_,c1 N T ((A12,⟨fCod T N,false⟩)::h) (hv.re (.drop .nil)),jC⟩);rintro _ _ ⟨rfl,rfl⟩)|refine jw ?_|(apply yB;exact rfl)|refine jf ?_|apply zA|apply zG|apply zI|apply zH|exact jO|exact jL|exact jW|exact jE|exact True.intro|exact rfl)
  all_goals first
   |exact jX
   |exact⟨(2,o),⟨by show 2≤3;decide,fun _=>rfl⟩,by show 3-2<3-1;decide,jB,jK⟩
 ·obtain rfl:=ho (by decide)
  repeat'(first|apply zF|apply zB|apply zE|refine jg ?_ ?_|(apply o_ar zC;exact rfl;exact rfl)|(apply zM zC;(iterate 3 exact rfl);exact pk)|(refine jc ?_ (c:=by exact⟨_,c2 T ((A12,⟨fCod T N,false⟩)::(N,⟨[fNum],false⟩)::h) (hv.re (.drop (.drop .nil))),jC⟩);rintro _ _ ⟨rfl,rfl⟩)|refine jw ?_|refine jk ?_|(apply yB;exact rfl)|(apply zS;exact rfl)|refine jf ?_|apply zA|apply zG|apply zI|apply zH|exact jO|exact jL|exact jW|exact jE|exact True.intro|exact rfl)
  all_goals first
   |exact jX
   |exact⟨(3,o),⟨by show 3≤3;decide,fun _=>rfl⟩,by show 3-3<3-2;decide,jB,jK⟩
 ·obtain rfl:=ho (by decide)
  repeat'(first|apply zF|apply zB|apply zE|refine jg ?_ ?_|(apply zS;exact rfl)|apply zA|apply zK|apply zJ|apply zN|apply zV|exact jS|fail)
  all_goals first
   |exact jX
   |exact jG

theorem Tread_any (D E:List UInt8)(G:List Int)(h:SH)(hD:D.length≤1000000)(hr:rdN D 2=(0,E,0))(hE:E.length≤1000000)(hd:mDecN E 4096=(G,0))(hg:G≠[])(hl:G.length≤4096)(hj:jok (-1) G) :
  SRun Tryz.prog 34 [S D] h fun r q=>∃A,r=.tuple #[gsl A 0 G.length G.length 1,B true]∧q=(A,⟨nodes (jns (-1) G),false⟩)::h:=by
 have k1:=fun n h=>rNumber_any n D 2 h hD
 rw[hr]at k1
 have k1:∀n h,SRun Tryz.prog 36 [gptr n 0 2,I 2] (rdB n D 0::h) fun r q=>r=I 0∧q=rdB n E 0::h:=k1
 have k2:=fun n h=>rErr_any n E 0 h
 have k3:=fun n h=>rLeft_any n E 0 h
 have k4:=fun n h=>rTake_any n E E.length h (by omega) (by omega)
 rw[Int.toNat_natCast,List.take_length,List.drop_length]at k4
 have k5:∀h,SRun Tryz.prog 68 [S E,I 4096] h fun r q=>∃A,r=.tuple #[gsl A 0 G.length G.length 1,I 0]∧q=(A,⟨nodes G,false⟩)::h:=fun h=>(DecodeNumbers_any E 4096 h hE).mono fun r q k=>by
  rw[hd]at k
  rcases k with⟨k,_⟩|⟨_,k⟩
  ·exact absurd k hg
  ·exact k
 have k6:=fun v h hv=>join_any G v h hv hl hj
 generalize jns (-1) G=L at *
 refine zR Tryz.func34 rfl rfl ?_
 repeat'(first|apply zF|apply zB|apply zE|refine jg ?_ ?_|(refine jc ?_ (c:=by exact⟨_,yN _ _,jN⟩);rintro _ _ ⟨nr,rfl,rfl⟩)|refine jq ?_ (c:=by exact⟨_,k1 _ _,jN⟩)|refine jq ?_ (c:=by exact⟨_,k2 _ _,jN⟩)|refine jq ?_ (c:=by exact⟨_,k3 _ _,jN⟩)|refine jq ?_ (c:=by exact⟨_,k4 _ _,jN⟩)|(refine jc ?_ (c:=by exact⟨_,k5 _,jN⟩);rintro _ _ ⟨A1,rfl,rfl⟩)|(refine jc ?_ (c:=by exact⟨_,k6 _ _ (hasX rfl .head),jN⟩);rintro _ _ ⟨A2,rfl,rfl⟩)|(apply yB;exact rfl)|(apply zS;exact rfl)|apply zA|apply zG|apply zI|apply zN|apply zH|exact jS|fail)
 all_goals first
  |exact jX
  |exact jF (k:=by exact⟨A2,rfl,rfl⟩)
theorem TDecode_any (D E:List UInt8)(G L:List Int)(m:Int)(h:SH)(hD:D.length≤1000000)(hr:rdN D 2=(0,E,0))(hE:E.length≤1000000)(hd:mDecN E 4096=(G,0))(hg:G≠[])(hl:G.length≤4096)(hj:jok (-1) G)
  (hL:jns (-1) G=L) (hEnc:∀v h,Has h (nodes L) 1 L.length v→SRun Tryz.prog 11 [v] h fun r q=>r=.tuple #[S D,I 0]∧q=h) (hm:(L.length:Int)≤m) :
  SRun Tryz.prog 15 [S D,I m] h fun r q=>∃A,r=.tuple #[gsl A 0 L.length L.length 1,I 0]∧q=(A,⟨nodes L,false⟩)::h:=by
 have k1:=fun h=>Tread_any D E G h hD hr hE hd hg hl hj
 have hn:=jns_len G (-1)
 rw[hL]at k1 hn
 rw[←hn]at k1
 refine zY Tryz.func15 rfl rfl ?_
 repeat'(first|apply zF|apply zB|apply zE|refine jg ?_ ?_|(apply yR;exact rfl;exact rfl)|(refine jc ?_ (c:=by exact⟨_,k1 _,jN⟩);rintro _ _ ⟨A1,rfl,rfl⟩)|refine jq ?_ (c:=by exact⟨_,hEnc _ _ (hasX rfl .head),jN⟩)|refine jw ?_|(apply zS;exact rfl)|refine jf ?_|(apply w_ifN;exact rfl;all_goals intro hc)|apply zA|apply zP|apply zI|apply zN|exact jS|fail)
 all_goals first
  |exact jX
  |exact jF (k:=by exact⟨A1,rfl,rfl⟩)
end Go.Proofs.YteddogfolceahaaGreatDoor
end
section
set_option maxRecDepth 4000
namespace Go.Gh
open Go.RowKit

abbrev UB (x:BitVec 32):Value:=.int .u32 x.toNat
theorem ofInt_toNat (x:BitVec 32):BitVec.ofInt 32 (x.toNat:Int)=x:=by
 apply BitVec.eq_of_toNat_eq
 rw[BitVec.toNat_ofInt]
 have:=x.isLt
 omega
theorem a_compl {P:Program}{N:Fr}{o:Oper}{a:AF}{H:Heap}(T:TypeId)(x:Operand){b:BitVec 32}(ho:o.op=.unOp .xor T x)(hx:ev a x=some (UB b)):APure P N o a H (UB (~~~ b)):=by
 refine⟨fun _ _ φ w ac _ hf=>?_⟩
 have h1:=(zW hf hx).scalar rfl
 have hv:IntKind.u32.wrap ((BitVec.ofInt 32 4294967295^^^BitVec.ofInt 32 (b.toNat:Int)).toNat:Int)=((~~~ b).toNat:Int):=by
  rw[ofInt_toNat,show BitVec.ofInt 32 4294967295=BitVec.allOnes 32 from rfl,BitVec.allOnes_xor]
  exact IntWalk.u32_in _ (by have:=(~~~ b).isLt;omega)
 exact⟨_,.int _ _,fun w _=>by
  unfold execOp
  simp only[ho,h1,Op.unary,Op.intBits,Sem.run_bind,Sem.run_pure,Result.andThen_ok]
  exact congrArg (fun v=>Result.ok (Next.value (Value.int .u32 v)) w) hv⟩
theorem o_compl {m:Mode}{P:Program}{sz:Nat}{ops:Array Oper}{Q:SPost}{rest:List Oper}{a:AF}{h:SH}{t:Nat}{ty:TypeId}{pos:String}{aft:Array Edge}{T:Nat}{x:Operand}{b:BitVec 32}
  (hx:ev a x=some (UB b)) (hN:Nat.blt t sz=true) (k:GO m.next P sz ops Q rest ((t,UB (~~~ b))::a) h):GO m P sz ops Q (⟨some t,.unOp .xor T x,ty,pos,aft,none⟩::rest) a h :=
 o_pure (fun _ _ _ hag=>a_compl _ _ rfl ((hag.ev (by simp[Op.operands,Call.operands])).trans hx)) hN k
end Go.Gh
end
