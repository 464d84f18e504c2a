/- Part 5 of the proof of the law TopCheapest: texts merged. No condition. -/
import Derived.Test.YteddogfolceahaaGreatZTopCheapestD
import Derived.MapKept
import Derived.ProofKit
set_option linter.unusedSimpArgs false
set_option linter.unusedVariables false
section
set_option maxRecDepth 4000
namespace Go.Proofs.YteddogfolceahaaGreat
open Go.Gh Go.RowKit

theorem tryS_at {c:Cst}{l:List UInt8}{i:Nat}{s:Bool × List St}{t:Pc}(hl:s.2.length=l.length+1)(hi:i<l.length)(ht:fits l i t)(h:s.1=true→fits l i s.2[i]!.2.2):(tryS c i s t).1=true∧fits l i (tryS c i s t).2[i]!.2.2:=by
 unfold tryS
 split
 ·refine⟨rfl,?_⟩
  dsimp only
  rw[lzset_bang (by omega),if_pos rfl];exact ht
 ·rename_i hn
  have:s.1=true:=by cases hs:s.1 <;> simp_all
  exact⟨this,h this⟩
theorem runT_at {c:Cst}{l:List UInt8}{i:Nat}(hi:i<l.length):∀{ts:List Pc} {s:Bool × List St},s.2.length=l.length+1→(∀t∈ts,fits l i t)→(s.1=true→fits l i s.2[i]!.2.2)→(s.1=true∨ts≠[])→fits l i (runT c i ts s).2[i]!.2.2
 |[],s,_,_,h,h2=>by rcases h2 with h2|h2;exact h h2;exact absurd rfl h2
 |t::ts,s,hl,ht,h,_=>by
  have h1:=tryS_at (c:=c) hl hi (ht t (by simp)) h
  exact runT_at hi (ts:=ts) (s:=tryS c i s t) (by rw[tryS_len];exact hl) (fun x hx=>ht x (by simp[hx])) (fun _=>h1.2) (.inl h1.1)
theorem tryS_else {c:Cst}{i j:Nat}{s:Bool × List St}{t:Pc}(h:j≠i)(hi:i<s.2.length):(tryS c i s t).2[j]! = s.2[j]!:=by
 unfold tryS;split
 ·rw[lzset_bang hi,if_neg h]
 ·rfl
theorem runT_else {c:Cst}{i j:Nat}(h:j≠i):∀{ts:List Pc} {s:Bool × List St},i<s.2.length→(runT c i ts s).2[j]! = s.2[j]!
 |[],_,_=>rfl
 |t::ts,s,hi=>by
  rw[←tryS_else (c:=c) (t:=t) h hi]
  exact runT_else h (ts:=ts) (s:=tryS c i s t) (by rw[tryS_len];exact hi)
theorem triesL_fits {l:List UInt8}{i:Nat}{w:Int}(hi:i<l.length):∀t∈triesL l i w,fits l i t:=fun t ht=>by
 rcases List.mem_append.1 ht with ht|ht
 ·exact trK_fits (Nat.le_refl _) t ht
 ·obtain rfl:=List.mem_singleton.1 ht;exact lit_fits hi
theorem parT_ok {c:Cst}{l:List UInt8}{w:Int}(hc:vC c):∀{j:Nat},j≤l.length→TOk l.length (parT c l w j)∧∀i,l.length-j≤i→i<l.length→fits l i (parT c l w j)[i]!.2.2
 |0,_=>⟨⟨by simp[parT],fun j hj=>by
   rw[show(parT c l w 0)[j]! = st0 by unfold parT;rw[getElem!_pos _ j (by simp;omega),List.getElem_replicate]]
   show 0≤(0:Int)∧(0:Int)≤_∧0≤(0:Int)∧(0:Int)≤_;omega⟩,fun i h1 h2=>by omega⟩
 |j+1,hj=>by
  obtain⟨h1,h2⟩:=parT_ok hc (w:=w) (show j≤l.length by omega)
  have hi:l.length-(j+1)<l.length:=by omega
  refine⟨runT_ok hc (s:=(false,_)) h1 (triesL_fits hi),fun i g1 g2=>?_⟩
  by_cases e:i=l.length-(j+1)
  ·subst e
   exact runT_at hi (s:=(false,_)) h1.1 (triesL_fits hi) (fun h=>absurd h Bool.false_ne_true) (.inr (by unfold triesL;simp))
  ·show fits l i (runT c (l.length-(j+1)) _ (false,parT c l w j)).2[i]!.2.2
   rw[runT_else e (by show _<(parT c l w j).length;have:=h1.1;omega)]
   exact h2 i (by omega) g2
theorem validWindow_any (w:Int)(h:SH):SRun Tryz.prog 36 [I w] h fun r q=>r=B (decide (1≤w∧w≤4096))∧q=h:=by
 refine zR Tryz.func36 rfl rfl ?_
 repeat'(first|apply zF|apply zB|apply zE|(apply o_g zC;exact rfl;exact rfl)|(apply zU;exact rfl;exact rfl)|(apply yF;iterate 4 exact rfl)|(apply o_guardT;(iterate 3 exact rfl);all_goals intro hc)|apply zA|apply zN|((with_reducible apply Sd.mk);first|exact True.intro))
 all_goals (apply zL;(exact(show ResS _ _ _ _ [_] from⟨rfl,trivial⟩));(focus refine⟨?_,rfl⟩;show B _=B _;congr 1;first|(rw[decide_eq_decide];omega)|(symm;rw[decide_eq_false_iff_not];omega)|(symm;rw[decide_eq_true_eq];omega));(focus repeat with_reducible first|exact Take.nil|apply Take.c|apply Take.drop))
theorem sub_pc {T:List St}{i:Nat}(hi:i<T.length):SubAt (recs stC T) (0+((i:Int)).toNat*5+2) (pcC T[i]!.2.2):=fun k v hk=>by
 rw[Int.toNat_natCast,Nat.zero_add,Nat.add_assoc]
 have hk3:k<3:=(List.getElem?_eq_some_iff.1 hk).1
 rw[recs_get stcW hi (show 2+k<5 by omega)]
 match k,hk3 with
 |0,_=>exact hk
 |1,_=>exact hk
 |2,_=>exact hk
theorem TOk.st {n j:Nat}{T:List St}(h:TOk n T)(hn:n≤4096)(hj:j≤n):stOk T[j]!:=by
 have:=h.2 j hj
 unfold stOk;omega
theorem parT_succ (c:Cst)(l:List UInt8)(w:Int)(j i:Nat)(hi:i=l.length-(j+1)):parT c l w (j+1)=(tryS c i (runT c i (trK (cands l i w 273) (cands l i w 273).length) (false,parT c l w j)) (litP l i)).2:=by
 subst hi
 show(runT c _ (triesL l _ w) _).2=_
 unfold triesL
 rw[runT_app];rfl
abbrev PF (n3 n8 n9 n10:Nat):Value:=.func (.func 66) ⟨[]⟩ ⟨[gptr n8 0 1,gptr n9 0 1,gptr n3 0 4,gptr n10 0 1]⟩
def IsPs (h:SH)(ps:List Pc)(r:Value)(q:SH):Prop:=(ps=[]∧r=.slice none 0 0∧q=h)∨ps≠[]∧∃A,r=gsl A 0 (3*ps.length) ps.length 3∧q=(A,⟨recs pcC ps,false⟩)::h
theorem Parse_any (c:Cst)(l:List UInt8)(w:Int)(h:SH)(hl:l.length≤9223372036854775807) :
  SRun Tryz.prog 35 [csV c,S l,I w] h fun r q=>∃v,r=.tuple #[v,I (parse c l w).2]∧IsPs h (parse c l w).1 v q:=by
 by_cases hc0:vC c
 ·by_cases hw:1≤w∧w≤4096
  ·by_cases hn:l.length≤4096
   ·have hpz:(parT c l w 0).length=l.length+1:=by simp[parT]
    have hzr:zrow (.agg ⟨[I 0,I 0,I 0,I 0,.int .u8 0]⟩) (((l.length:Int)+1).toNat*5)=recs stC (parT c l w 0):=by
     rw[show((l.length:Int)+1).toNat=l.length+1 by omega]
     exact recs_zrow (f:=stC) (w:=5) stcW (show 0<5 by omega) st0 rfl _
    refine w_body3 Tryz.func35 rfl rfl ?_
    repeat'(first|apply zF|apply zB|apply zE|(apply o_g zC;exact rfl;exact rfl)|(apply o_ar zC;exact rfl;exact rfl)|(apply o_not;exact rfl;exact rfl)|(apply yQ zC;(iterate 3 exact rfl);(focus exact pk))|(apply zX zC;(iterate 4 exact rfl);(focus exact up))|(apply yG zC;iterate 5 exact rfl)|(apply o_box (tt:=tyT);iterate 5 exact rfl)|(apply o_makeSlice zC;(iterate 6 exact rfl);(focus decide);(focus first|omega);(focus first|exact hzr);exact rfl)|(apply zD;exact rfl;exact rfl;(focus first|exact rfl);exact rfl;(focus exact⟨_,validC_any c _,by repeat with_reducible exact Take.nil⟩);rintro _ _ ⟨rfl,rfl⟩)|(apply zD;exact rfl;exact rfl;(focus first|exact rfl);exact rfl;(focus exact⟨_,validWindow_any w _,by repeat with_reducible exact Take.nil⟩);rintro _ _ ⟨rfl,rfl⟩)|(apply zU;exact rfl;exact rfl)|(apply o_gF;(iterate 3 exact rfl);(focus first|omega))|(apply yD;exact rfl;(focus first|omega))|apply zA|apply zI|apply zH|((with_reducible apply Sd.mk);first|exact True.intro)|((with_reducible apply Ln.mk);first|rfl)|((with_reducible apply Wr.mk);first|exact IntWalk.i64_in _ (by omega))|((with_reducible apply Se.mk);first|(focus(repeat(first|exact SetAt.zero));done))|((with_reducible apply Su.mk);first|exact zQ)|exact True.intro|intro A|exact rfl)
    rename_i n3 A0 n8
    obtain⟨n9,rfl⟩:∃n9,n9=A:=⟨_,rfl⟩
    have hgl:gsl A0 0 (((l.length:Int)+1).toNat*5) ((l.length:Int)+1).toNat 5=gsl A0 0 ((parT c l w 0).length*5) (parT c l w 0).length 5:=gslE rfl rfl (by omega) (by omega) rfl
    rw[hgl]
    refine zZ (S:=Nat × Nat) (fun x=>[(1,S l),(2,I w),(3,gptr n3 0 4),(8,gptr n8 0 1),(9,gptr x.2 0 1)])
     (fun x=>(x.2,⟨[I ((l.length:Int)-x.1-1)],false⟩)::(n8,⟨[gsl A0 0 ((parT c l w x.1).length*5) (parT c l w x.1).length 5],false⟩)::(A0,⟨recs stC (parT c l w x.1),false⟩)::(n3,⟨csC c,false⟩)::h)
     (fun x=>x.1≤l.length) (fun x=>l.length-x.1) (0,n9) (by simp) (by repeat'(first|exact trivial|refine⟨rfl,?_⟩|refine⟨congrArg some ?_,?_⟩)) (by show Take ((n9,⟨[I ((l.length:Int)-((0:Nat):Int)-1)],false⟩)::_) _;rw[show(l.length:Int)-((0:Nat):Int)-1=(l.length:Int)-1 by omega];exact(by repeat with_reducible first|exact Take.nil|apply Take.c|apply Take.drop)) ?_
    rintro⟨j,n9⟩ hj
    dsimp only at hj ⊢
    obtain⟨⟨hTl,hT⟩,hF⟩:=parT_ok hc0 (w:=w) hj
    by_cases hjl:j<l.length
    ·obtain⟨i,hi⟩:∃i,i=l.length-(j+1):=⟨_,rfl⟩
     rw[show(l.length:Int)-j-1=(i:Int)by omega]
     have hil:i<l.length:=by omega
     have hsu:=parT_succ c l w j i hi
     have hfl:=lit_fits hil
     repeat'(first|apply zF|apply zB|apply zE|(apply o_g zC;exact rfl;exact rfl)|(apply zM zC;(iterate 3 exact rfl);(focus exact pk))|(apply zX zC;(iterate 4 exact rfl);(focus exact up))|(apply yG zC;iterate 5 exact rfl)|(apply o_makeFunc;iterate 3 exact rfl)|(apply zD;exact rfl;exact rfl;(focus first|exact rfl);exact rfl;(focus exact⟨_,Candidates_any l i w 273 _ (by omega),by repeat with_reducible exact Take.nil⟩);rintro _ _ hq)|(apply yB;exact rfl)|apply zA|apply zI|apply zH|((with_reducible apply Sd.mk);first|exact True.intro)|((with_reducible apply Ln.mk);first|rfl)|((with_reducible apply Ce.mk);first|rfl)|((with_reducible apply Se.mk);first|(focus(repeat(first|exact SetAt.zero));done))|exact True.intro|intro A|exact rfl)
     obtain⟨n10,rfl⟩:∃n10,n10=A:=⟨_,rfl⟩
     rename_i r0 q0
     have hq2:∃h2,Take h2 h∧Has h2 (recs cpF (cands l i w 273)) 2 (cands l i w 273).length r0∧Take q0 (TB n3 n8 n9 n10 A0 c i (false,parT c l w j) h2):=by
      rcases hq with⟨e,rfl,rfl⟩|⟨A',rfl,rfl⟩
      ·exact⟨h,(by repeat with_reducible first|exact Take.nil|apply Take.c|apply Take.drop),⟨none,0,by rw[e];rfl,fun g=>absurd (by rw[e];rfl) g⟩,(by repeat with_reducible first|exact Take.nil|apply Take.c|apply Take.drop)⟩
      ·exact⟨(A',cpB (cands l i w 273) false)::h,(by repeat with_reducible first|exact Take.nil|apply Take.c|apply Take.drop),⟨_,_,rfl,fun _=>⟨A',false,_,rfl,.head⟩⟩,(by repeat with_reducible first|exact Take.nil|apply Take.c|apply Take.drop)⟩
     clear hq
     obtain⟨h2,ht2,⟨ad,fl,rfl,hcs⟩,ht3⟩:=hq2
     have hcl:=cands_le l i w 273
     repeat'(first|apply zE|(apply o_g zC;exact rfl;exact rfl)|(apply o_ar zC;exact rfl;exact rfl)|apply zA|apply zH|((with_reducible apply Sd.mk);first|exact True.intro)|((with_reducible apply Wr.mk);first|exact IntWalk.i64_in _ (by omega)))
     refine zZ (S:=Nat × (Bool × List St)) (fun x=>[(1,S l),(2,I w),(3,gptr n3 0 4),(8,gptr n8 0 1),(9,gptr n9 0 1),(11,PF n3 n8 n9 n10),(12,.slice ad (cands l i w 273).length fl),(13,I ((x.1:Int)-1))]) (fun x=>TB n3 n8 n9 n10 A0 c i x.2 h2)
      (fun x=>x.1≤(cands l i w 273).length∧TOk l.length x.2.2∧runT c i (trK (cands l i w 273) x.1) x.2=runT c i (trK (cands l i w 273) (cands l i w 273).length) (false,parT c l w j)) (fun x=>x.1)
      ((cands l i w 273).length,(false,parT c l w j)) ⟨Nat.le_refl _,⟨hTl,hT⟩,rfl⟩ (by repeat'(first|exact trivial|refine⟨rfl,?_⟩|refine⟨congrArg some ?_,?_⟩)) ht3 ?_
     rintro⟨k,f,T⟩ ⟨hk,hTk,hrun⟩
     dsimp only at hk hTk hrun ⊢
     by_cases hk0:0<k
     ·obtain⟨k,rfl⟩:∃m,k=m+1:=⟨k-1,by omega⟩
      rw[show(((k+1:Nat):Int))-1=(k:Int)by omega]
      obtain⟨A',ro,h4,rfl,hp⟩:=hcs (by omega)
      have hci:=cands_in (bang_mem (show k<(cands l i w 273).length by omega))
      repeat'((fail_if_success (show SWp _ _ (Code.cond (Operand.tmp 53) _ _) _ _ _));first|apply zF|apply zB|apply zE|(apply o_g zC;exact rfl;exact rfl)|(apply yB;exact rfl)|apply zA|apply zI|apply zH|((with_reducible apply Sd.mk);first|exact True.intro))
      refine w_meet (S:=Unit) (fun _=>[(1,S l),(2,I w),(3,gptr n3 0 4),(8,gptr n8 0 1),(9,gptr n9 0 1),(11,PF n3 n8 n9 n10),(12,.slice (some ⟨A',0,some (2*(cands l i w 273).length)⟩) (cands l i w 273).length fl),(13,I k),(14,I (shr (cands l i w 273) k))])
       (fun _=>TB n3 n8 n9 n10 A0 c i (f,T) h2) (fun _=>True) ?_ ?_
      ·by_cases hk1:0<k
       ·have hs:(shr (cands l i w 273) k:Int)=(cands l i w 273)[k-1]!.1:=by
         have:=cands_in (bang_mem (show k-1<(cands l i w 273).length by omega))
         unfold shr;rw[if_pos hk1];omega
        obtain⟨m,rfl⟩:∃m,k=m+1:=⟨k-1,by omega⟩
        rw[Nat.add_sub_cancel]at hs
        repeat'(first|apply zB|apply zE|(apply o_g zC;exact rfl;exact rfl)|(apply o_ar zC;exact rfl;exact rfl)|(apply zM zC;(iterate 3 exact rfl);(focus exact pk))|(apply yC;exact rfl;(focus first|omega))|apply zA|((with_reducible apply Sd.mk);first|exact True.intro|omega)|((with_reducible apply Ln.mk);first|(simp ;first|done|omega))|((with_reducible apply Wr.mk);first|exact IntWalk.i64_in _ (by omega))|((with_reducible apply Ce.mk);first|exact cell_rec (fun _=>rfl) (by omega) (by decide) rfl)|exact True.intro|exact rfl)
        rw[show(((m+1:Nat):Int)-1).toNat=m by omega,hs]
        exact⟨(),trivial,(by repeat'(first|exact trivial|refine⟨rfl,?_⟩|refine⟨congrArg some ?_,?_⟩)),(by repeat with_reducible first|exact Take.nil|apply Take.c|apply Take.drop)⟩
       ·have hs:(shr (cands l i w 273) k:Int)=1:=by unfold shr;rw[if_neg hk1];rfl
        repeat'(first|(apply yD;exact rfl;(focus first|omega))|apply zA|apply zI)
        rw[hs]
        exact⟨(),trivial,(by repeat'(first|exact trivial|refine⟨rfl,?_⟩|refine⟨congrArg some ?_,?_⟩)),(by repeat with_reducible first|exact Take.nil|apply Take.c|apply Take.drop)⟩
      ·rintro _ _
       repeat'(first|apply zF|apply zB|apply zE|(apply o_g zC;exact rfl;exact rfl)|(apply zM zC;(iterate 3 exact rfl);(focus exact pk))|apply zA|apply zH|((with_reducible apply Sd.mk);first|exact True.intro|omega)|((with_reducible apply Ln.mk);first|(simp ;first|done|omega))|((with_reducible apply Ce.mk);first|exact cell_recZ (fun _=>rfl) (by omega) (by decide) rfl)|exact True.intro|exact rfl)
       obtain⟨N,hN⟩:∃N:Nat,(cands l i w 273)[k]!.1=(N:Int):=⟨_,(Int.toNat_of_nonneg (by omega)).symm⟩
       have hrun2:runT c i (trN (cands l i w 273)[k]!.2 (shr (cands l i w 273) k) N++trK (cands l i w 273) k) (f,T)=runT c i (trK (cands l i w 273) (cands l i w 273).length) (false,parT c l w j):=by
        rw[←hrun,trK,hN,Int.toNat_natCast]
       rw[hN]at hci ⊢
       refine zZ (S:=Nat × (Bool × List St)) (fun x=>[(1,S l),(2,I w),(3,gptr n3 0 4),(8,gptr n8 0 1),(9,gptr n9 0 1),(11,PF n3 n8 n9 n10),(12,.slice (some ⟨A',0,some (2*(cands l i w 273).length)⟩) (cands l i w 273).length fl),(13,I k),(14,I (shr (cands l i w 273) k)),(15,I x.1)]) (fun x=>TB n3 n8 n9 n10 A0 c i x.2 h2)
        (fun x=>x.1≤N∧TOk l.length x.2.2∧runT c i (trN (cands l i w 273)[k]!.2 (shr (cands l i w 273) k) x.1++trK (cands l i w 273) k) x.2=runT c i (trK (cands l i w 273) (cands l i w 273).length) (false,parT c l w j)) (fun x=>x.1)
        (N,(f,T)) ⟨Nat.le_refl _,hTk,hrun2⟩ (by repeat'(first|exact trivial|refine⟨rfl,?_⟩|refine⟨congrArg some ?_,?_⟩)) (by repeat with_reducible first|exact Take.nil|apply Take.c|apply Take.drop) ?_
       clear hrun2 hrun hTk
       rintro⟨n,f,T⟩ ⟨hnN,hTk,hrun⟩
       dsimp only at hnN hTk hrun ⊢
       have hsp:=shr_pos (l:=l) (i:=i) (w:=w) (show k<(cands l i w 273).length by omega)
       by_cases hlo:shr (cands l i w 273) k<n
       ·obtain⟨n,rfl⟩:∃m,n=m+1:=⟨n-1,by omega⟩
        rw[trN,if_pos hlo,List.cons_append]at hrun
        have hft:fits l i (((n+1:Nat):Int),(cands l i w 273)[k]!.2,0):=⟨.inr ⟨by dsimp only;omega,by dsimp only;omega,by dsimp only;omega,by dsimp only;omega,rfl⟩,by dsimp only;omega,by dsimp only;omega⟩
        have hst:=hTk.st hn (show i+(n+1)≤l.length by omega)
        have htl:=hTk.1
        repeat'(first|apply zF|apply zB|apply zE|(apply o_g zC;exact rfl;exact rfl)|(apply o_ar zC;exact rfl;exact rfl)|(apply zM zC;(iterate 3 exact rfl);(focus exact pk))|(apply yT zC;exact rfl;exact rfl;(focus first|with_reducible exact pl81);exact rfl;(focus repeat(first|exact BuildR.nil|(apply BuildR.one;exact rfl;exact rfl;(first|(focus(repeat(first|exact SetAt.zero|apply SetAt.succ));done)))));exact rfl)|(apply zD;exact rfl;exact rfl;(focus first|exact rfl);exact rfl;(focus exact⟨_,try_any c (((n+1:Nat):Int),(cands l i w 273)[k]!.2,0) n3 n8 n9 n10 A0 i (f,T) h2 hc0 hft.1 (by show i+(n+1)<T.length;omega) (by show T.length≤4097;omega) hst,by repeat with_reducible exact Take.nil⟩);rintro _ _ ⟨rfl,rfl⟩)|(apply yC;exact rfl;(focus first|omega))|apply zA|apply zG|apply zI|apply zH|((with_reducible apply Sd.mk);first|exact True.intro|omega)|((with_reducible apply Ln.mk);first|(simp ;first|done|omega))|((with_reducible apply Wr.mk);first|exact IntWalk.i64_in _ (by omega))|((with_reducible apply Ce.mk);first|exact cell_recZ (fun _=>rfl) (by omega) (by decide) rfl)|exact True.intro|exact rfl)
        rw[show(((n+1:Nat):Int))-1=(n:Int)by omega]
        exact⟨(n,tryS c i (f,T) (((n+1:Nat):Int),(cands l i w 273)[k]!.2,0)),⟨by show n≤N;omega,tryS_ok (s:=(f,T)) hc0 hTk hft,hrun⟩,Nat.lt_succ_self n,(by repeat'(first|exact trivial|refine⟨rfl,?_⟩|refine⟨congrArg some ?_,?_⟩)),(by repeat with_reducible first|exact Take.nil|apply Take.c|apply Take.drop)⟩
       ·have hnil:trN (cands l i w 273)[k]!.2 (shr (cands l i w 273) k) n=[]:=by
         cases n with
         |zero=>rfl
         |succ n=>rw[trN,if_neg hlo]
        rw[hnil,List.nil_append]at hrun
        repeat'(first|apply zF|apply zB|apply zE|(apply o_g zC;exact rfl;exact rfl)|(apply o_ar zC;exact rfl;exact rfl)|(apply yD;exact rfl;(focus first|omega))|apply zA|apply zK|apply zG|apply zJ|apply zV|((with_reducible apply Sd.mk);first|exact True.intro)|((with_reducible apply Wr.mk);first|exact IntWalk.i64_in _ (by omega)))
        exact⟨(k,(f,T)),⟨by show k≤_;omega,hTk,hrun⟩,Nat.lt_succ_self k,(by repeat'(first|exact trivial|refine⟨rfl,?_⟩|refine⟨congrArg some ?_,?_⟩)),(by repeat with_reducible first|exact Take.nil|apply Take.c|apply Take.drop)⟩
     ·obtain rfl:k=0:=by omega
      have hrun2:(f,T)=runT c i (trK (cands l i w 273) (cands l i w 273).length) (false,parT c l w j):=hrun
      rw[←hrun2]at hsu
      have htl:=hTk.1
      have hst:=hTk.st hn (show i+1≤l.length by omega)
      repeat'(first|apply zF|apply zB|apply zE|(apply o_g zC;exact rfl;exact rfl)|(apply o_ar zC;exact rfl;exact rfl)|(apply zM zC;(iterate 3 exact rfl);(focus exact pk))|(apply zX zC;(iterate 4 exact rfl);(focus exact up))|(apply yG zC;iterate 5 exact rfl)|(apply yT zC;exact rfl;exact rfl;(focus first|with_reducible exact pl81);exact rfl;(focus repeat(first|exact BuildR.nil|(apply BuildR.one;exact rfl;exact rfl;(first|(focus(repeat(first|exact SetAt.zero|apply SetAt.succ));done)))));exact rfl)|(apply zD;exact rfl;exact rfl;(focus first|exact rfl);exact rfl;(focus exact⟨_,try_any c (litP l i) n3 n8 n9 n10 A0 i (f,T) h2 hc0 hfl.1 (by show i+1<T.length;omega) (by show T.length≤4097;omega) hst,by repeat with_reducible exact Take.nil⟩);rintro _ _ ⟨rfl,rfl⟩)|(apply zS;exact rfl)|apply zA|apply zK|apply zG|apply zJ|apply zV|((with_reducible apply Sd.mk);first|exact True.intro|omega)|((with_reducible apply Ln.mk);first|rfl)|((with_reducible apply Wr.mk);first|exact IntWalk.i64_in _ (by omega))|((with_reducible apply Ce.mk);first|rfl)|((with_reducible apply Se.mk);first|(focus(repeat(first|exact SetAt.zero));done))|exact True.intro|intro A|exact rfl)
      refine⟨(j+1,A),by show j+1≤_;omega,by show l.length-(j+1)<_;omega,(by repeat'(first|exact trivial|refine⟨rfl,?_⟩|refine⟨congrArg some ?_,?_⟩)),?_⟩
      dsimp only
      rw[hsu,show(l.length:Int)-((j+1:Nat):Int)-1=(i:Int)-1 by omega]
      exact(by repeat(first|with_reducible exact Take.nil|exact ht2|with_reducible apply Take.c|with_reducible apply Take.drop))
    ·obtain rfl:j=l.length:=by omega
     repeat'(first|apply zF|apply zB|apply zE|(apply o_g zC;exact rfl;exact rfl)|(apply zM zC;(iterate 3 exact rfl);(focus exact pk))|(apply yD;exact rfl;(focus first|omega))|apply zA|apply zK|apply zJ|apply zV|apply zH|((with_reducible apply Sd.mk);first|exact True.intro)|((with_reducible apply Ln.mk);first|rfl)|((with_reducible apply Ce.mk);first|rfl)|exact True.intro|exact rfl)
     have hPF:∀i,i<l.length→fits l i (parT c l w l.length)[i]!.2.2:=fun i hi=>hF i (by omega) hi
     have hTl2:(parT c l w l.length).length=l.length+1:=hTl
     have hpr:parse c l w=(walkT (parT c l w l.length) l.length l.length 0,0):=by unfold parse;rw[if_pos ⟨hc0,hw⟩,if_neg (by omega)]
     rw[hpr]
     obtain⟨T,hTe⟩:∃T,T=parT c l w l.length:=⟨_,rfl⟩
     rw[←hTe]at hPF hTl2 ⊢
     obtain⟨hB,hBe⟩:∃hB,hB=(n8,(⟨[gsl A0 0 (T.length*5) T.length 5],false⟩:Blk))::(A0,⟨recs stC T,false⟩)::(n3,⟨csC c,false⟩)::h:=⟨_,rfl⟩
     refine zZ (S:=Nat × Nat × List Pc × Value × SH) (fun x=>[(1,S l),(8,gptr n8 0 1),(16,x.2.2.2.1),(17,I x.1)]) (fun x=>x.2.2.2.2)
      (fun x=>x.1≤l.length∧l.length≤x.2.1+x.1∧x.2.2.1++walkT T l.length x.2.1 x.1=walkT T l.length l.length 0∧x.2.2.1.length≤x.1∧IsPs hB x.2.2.1 x.2.2.2.1 x.2.2.2.2) (fun x=>l.length-x.1)
      (0,l.length,[],_,_) ⟨by simp,by simp,rfl,by simp,.inl ⟨rfl,rfl,rfl⟩⟩ (by repeat'(first|exact trivial|refine⟨rfl,?_⟩|refine⟨congrArg some ?_,?_⟩)) (by rw[hBe];exact(by repeat with_reducible first|exact Take.nil|apply Take.c|apply Take.drop)) ?_
     rintro⟨i,f,ps,v,q⟩ ⟨hi,hif,hwk,hpl,hps⟩
     dsimp only at hi hif hwk hpl hps ⊢
     by_cases hil:i<l.length
     ·obtain⟨f,rfl⟩:∃m,f=m+1:=⟨f-1,by omega⟩
      rw[walkT,if_pos hil]at hwk
      have hft:=hPF i hil
      have hsub:=sub_pc (T:=T) (i:=i) (by omega)
      obtain⟨m,hm⟩:∃m:Nat,T[i]!.2.2.1=(m:Int):=⟨_,(Int.toNat_of_nonneg (by omega)).symm⟩
      rw[show T[i]!.2.2.1.toNat=m by omega]at hwk
      rcases hps with⟨rfl,rfl,rfl⟩|⟨hne,A2,rfl,rfl⟩
      ·subst hBe
       repeat'(first|apply zF|apply zB|apply zE|(apply o_g zC;exact rfl;exact rfl)|(apply o_ar zC;exact rfl;exact rfl)|(apply zM zC;(iterate 3 exact rfl);(focus exact pk))|(apply yQ zC;(iterate 3 exact rfl);(focus exact pk))|(apply zT zC;(iterate 5 exact rfl);(focus decide);exact rfl;(focus decide);(focus repeat(first|exact CatR.last rfl));exact rfl)|(apply o_append_nil zC;(iterate 5 exact rfl);(focus exact⟨by decide⟩);(focus exact pk))|(apply yC;exact rfl;(focus first|omega))|apply zA|apply zG|apply zI|apply zH|((with_reducible apply Sd.mk);first|exact True.intro|omega|(constructor <;> first|omega|(unfold maxLen;omega)))|((with_reducible apply Ln.mk);first|rfl|(simp ;first|done|omega))|((with_reducible apply Wr.mk);first|exact IntWalk.i64_in _ (by omega))|((with_reducible apply Ce.mk);first|rfl|exact cell_recZ (fun _=>rfl) (by omega) (by decide) rfl)|((with_reducible apply Su.mk);first|exact hsub|exact zQ)|exact True.intro|intro A|exact rfl)
       rw[show(i:Int)+T[i]!.2.2.1=((i+m:Nat):Int)by omega]
       exact⟨(i+m,f,[T[i]!.2.2],gsl A 0 (3*1) 1 3,(A,⟨recs pcC [T[i]!.2.2],false⟩)::(n8,⟨[gsl A0 0 (T.length*5) T.length 5],false⟩)::(A0,⟨recs stC T,false⟩)::(n3,⟨csC c,false⟩)::h),⟨by show i+m≤l.length;omega,by show l.length≤f+(i+m);omega,hwk,by show 1≤i+m;omega,.inr ⟨by simp,A,rfl,rfl⟩⟩,by show l.length-(i+m)<l.length-i;omega,(by repeat'(first|exact trivial|refine⟨rfl,?_⟩|refine⟨congrArg some ?_,?_⟩)),(by repeat(first|with_reducible exact Take.nil|with_reducible apply Take.c|((with_reducible apply Take.cE);first|exact rfl|(apply blkE;(focus first|exact rfl|exact yI rfl|exact yO rfl|exact congrArg (fun v=>[v]) (gslE rfl rfl (by first|rfl|exact ‹_›|omega|(simp ;first|done|omega)) (by first|rfl|exact ‹_›|omega|(simp ;first|done|omega)) rfl))))|with_reducible apply Take.drop))⟩
      ·subst hBe
       repeat'(first|apply zF|apply zB|apply zE|(apply o_g zC;exact rfl;exact rfl)|(apply o_ar zC;exact rfl;exact rfl)|(apply zM zC;(iterate 3 exact rfl);(focus exact pk))|(apply yQ zC;(iterate 3 exact rfl);(focus exact pk))|(apply zT zC;(iterate 5 exact rfl);(focus decide);exact rfl;(focus decide);(focus repeat(first|exact CatR.last rfl));exact rfl)|(apply o_append zC;(iterate 5 exact rfl);(focus exact⟨by decide⟩);(focus exact up);(focus exact pk))|(apply yC;exact rfl;(focus first|omega))|apply zA|apply zG|apply zI|apply zH|((with_reducible apply Sd.mk);first|exact True.intro|omega|(constructor <;> first|omega|(unfold maxLen;omega)))|((with_reducible apply Ln.mk);first|rfl|omega|(simp ;first|done|omega))|((with_reducible apply Wr.mk);first|exact IntWalk.i64_in _ (by omega))|((with_reducible apply Ce.mk);first|rfl|exact cell_recZ (fun _=>rfl) (by omega) (by decide) rfl)|((with_reducible apply Su.mk);first|exact hsub|exact zQ)|exact True.intro|intro A|exact rfl)
       rw[show(i:Int)+T[i]!.2.2.1=((i+m:Nat):Int)by omega]
       exact⟨(i+m,f,ps++[T[i]!.2.2],gsl A2 0 (3*(ps++[T[i]!.2.2]).length) (ps++[T[i]!.2.2]).length 3,(A2,⟨recs pcC (ps++[T[i]!.2.2]),false⟩)::(n8,⟨[gsl A0 0 (T.length*5) T.length 5],false⟩)::(A0,⟨recs stC T,false⟩)::(n3,⟨csC c,false⟩)::h),⟨by show i+m≤l.length;omega,by show l.length≤f+(i+m);omega,by rw[List.append_assoc];exact hwk,by show(ps++[_]).length≤i+m;rw[List.length_append,List.length_singleton];omega,.inr ⟨by first|exact hne|simp,A2,rfl,rfl⟩⟩,by show l.length-(i+m)<l.length-i;omega,⟨rfl,rfl,congrArg some (gslE rfl rfl (by simp;try omega) (by simp) rfl),rfl,trivial⟩,(by repeat(first|with_reducible exact Take.nil|with_reducible apply Take.c|((with_reducible apply Take.cE);first|exact rfl|(apply blkE;(focus first|exact rfl|exact yI rfl|exact yO rfl|exact congrArg (fun v=>[v]) (gslE rfl rfl (by first|rfl|exact ‹_›|omega|(simp ;first|done|omega)) (by first|rfl|exact ‹_›|omega|(simp ;first|done|omega)) rfl))))|with_reducible apply Take.drop))⟩
     ·obtain rfl:i=l.length:=by omega
      have hw0:walkT T l.length f l.length=[]:=by
       cases f with
       |zero=>rfl
       |succ f=>rw[walkT,if_neg (Nat.lt_irrefl _)]
      rw[hw0,List.append_nil]at hwk
      subst hwk
      rcases hps with⟨e,rfl,rfl⟩|⟨hne,A2,rfl,rfl⟩
      ·subst hBe
       repeat'(first|apply zF|apply zB|apply zE|(apply o_g zC;exact rfl;exact rfl)|(apply yD;exact rfl;(focus first|omega))|apply zA|apply zK|apply zJ|apply zN|apply zV|((with_reducible apply Sd.mk);first|exact True.intro))
       (apply zL;(exact(show ResS _ _ _ _ [_,_] from⟨rfl,⟨rfl,trivial⟩⟩));(focus exact⟨_,rfl,.inl ⟨e,rfl,rfl⟩⟩);(focus repeat with_reducible first|exact Take.nil|apply Take.c|apply Take.drop))
      ·subst hBe
       repeat'(first|apply zF|apply zB|apply zE|(apply o_g zC;exact rfl;exact rfl)|(apply yD;exact rfl;(focus first|omega))|apply zA|apply zK|apply zJ|apply zN|apply zV|((with_reducible apply Sd.mk);first|exact True.intro))
       (apply zL;(exact(show ResS _ _ _ _ [_,_] from⟨rfl,⟨rfl,trivial⟩⟩));(focus exact⟨_,rfl,.inr ⟨by first|exact hne|simp,A2,rfl,rfl⟩⟩);(focus repeat with_reducible first|exact Take.nil|apply Take.c|apply Take.drop))
   ·refine w_body3 Tryz.func35 rfl rfl ?_
    repeat'(first|apply zF|apply zB|apply zE|(apply o_g zC;exact rfl;exact rfl)|(apply o_not;exact rfl;exact rfl)|(apply yQ zC;(iterate 3 exact rfl);(focus exact pk))|(apply o_box (tt:=tyT);iterate 5 exact rfl)|(apply zD;exact rfl;exact rfl;(focus first|exact rfl);exact rfl;(focus exact⟨_,validC_any c _,by repeat with_reducible exact Take.nil⟩);rintro _ _ ⟨rfl,rfl⟩)|(apply zD;exact rfl;exact rfl;(focus first|exact rfl);exact rfl;(focus exact⟨_,validWindow_any w _,by repeat with_reducible exact Take.nil⟩);rintro _ _ ⟨rfl,rfl⟩)|(apply zU;exact rfl;exact rfl)|(apply o_gF;(iterate 3 exact rfl);(focus first|omega))|(apply yC;exact rfl;(focus first|omega))|(apply yD;exact rfl;(focus first|omega))|apply zA|apply zP|apply zI|apply zN|((with_reducible apply Sd.mk);first|exact True.intro)|((with_reducible apply Ln.mk);first|rfl)|((with_reducible apply Su.mk);first|exact zQ)|exact True.intro|intro A|exact rfl)
    all_goals first
     |(apply zL;(exact(show ResS _ _ _ _ [_,_] from⟨rfl,⟨rfl,trivial⟩⟩));(focus exact⟨_,by unfold parse;rw[if_pos ⟨hc0,hw⟩,if_pos (by omega)];rfl,.inl ⟨by unfold parse;rw[if_pos ⟨hc0,hw⟩,if_pos (by omega)],rfl,rfl⟩⟩);(focus repeat with_reducible first|exact Take.nil|apply Take.c|apply Take.drop))
     |(exfalso;omega)
     |(exfalso;simp_all;done)
  ·refine w_body3 Tryz.func35 rfl rfl ?_
   repeat'(first|apply zF|apply zB|apply zE|(apply o_g zC;exact rfl;exact rfl)|(apply o_not;exact rfl;exact rfl)|(apply yQ zC;(iterate 3 exact rfl);(focus exact pk))|(apply o_box (tt:=tyT);iterate 5 exact rfl)|(apply zD;exact rfl;exact rfl;(focus first|exact rfl);exact rfl;(focus exact⟨_,validC_any c _,by repeat with_reducible exact Take.nil⟩);rintro _ _ ⟨rfl,rfl⟩)|(apply zD;exact rfl;exact rfl;(focus first|exact rfl);exact rfl;(focus exact⟨_,validWindow_any w _,by repeat with_reducible exact Take.nil⟩);rintro _ _ ⟨rfl,rfl⟩)|(apply zU;exact rfl;exact rfl)|(apply o_gF;(iterate 3 exact rfl);(focus first|omega))|(apply yC;exact rfl;(focus first|omega))|apply zA|apply zP|apply zN|((with_reducible apply Sd.mk);first|exact True.intro)|((with_reducible apply Ln.mk);first|rfl)|((with_reducible apply Su.mk);first|exact zQ)|exact True.intro|intro A|exact rfl)
   all_goals first
    |(apply zL;(exact(show ResS _ _ _ _ [_,_] from⟨rfl,⟨rfl,trivial⟩⟩));(focus exact⟨_,by unfold parse;rw[if_neg (fun g=>hw g.2)];rfl,.inl ⟨by unfold parse;rw[if_neg (fun g=>hw g.2)],rfl,rfl⟩⟩);(focus repeat with_reducible first|exact Take.nil|apply Take.c|apply Take.drop))
    |(exfalso;simp_all;done)
 ·refine w_body3 Tryz.func35 rfl rfl ?_
  repeat'(first|apply zF|apply zB|apply zE|(apply o_g zC;exact rfl;exact rfl)|(apply o_not;exact rfl;exact rfl)|(apply yQ zC;(iterate 3 exact rfl);(focus exact pk))|(apply o_box (tt:=tyT);iterate 5 exact rfl)|(apply zD;exact rfl;exact rfl;(focus first|exact rfl);exact rfl;(focus exact⟨_,validC_any c _,by repeat with_reducible exact Take.nil⟩);rintro _ _ ⟨rfl,rfl⟩)|(apply yF;iterate 4 exact rfl)|(apply o_sT;(iterate 3 exact rfl);(focus first|omega);exact rfl)|(apply yB;exact rfl)|apply zA|apply zP|apply zN|((with_reducible apply Sd.mk);first|exact True.intro)|((with_reducible apply Ln.mk);first|rfl)|((with_reducible apply Su.mk);first|exact zQ)|exact True.intro|intro A|exact rfl)
  all_goals first
   |(apply zL;(exact(show ResS _ _ _ _ [_,_] from⟨rfl,⟨rfl,trivial⟩⟩));(focus exact⟨_,by unfold parse;rw[if_neg (fun g=>hc0 g.1)];rfl,.inl ⟨by unfold parse;rw[if_neg (fun g=>hc0 g.1)],rfl,rfl⟩⟩);(focus repeat with_reducible first|exact Take.nil|apply Take.c|apply Take.drop))
   |(exfalso;simp_all;done)

theorem rc_max (l:List UInt8)(i m:Int):∀(d e:Nat),1≤e→e≤d→atd l i e m≤(rc l i m d).2
 |0,e,h1,h2=>by omega
 |d+1,e,h1,h2=>by
  rw[rc_succ]
  by_cases h:e=d+1
  ·subst h
   have:((d+1:Nat):Int)=(d:Int)+1:=by omega
   rw[this]
   split
   ·exact Int.le_refl _
   ·omega
  ·have:=rc_max l i m d e h1 (by omega)
   split
   ·show atd l i e m≤atd l i (d+1) m;omega
   ·exact this

theorem rc_mem (l:List UInt8)(i m:Int)(hm:0≤m):∀(d:Nat) (c:Int × Int),c∈(rc l i m d).1→∃e:Nat,1≤e∧e≤d∧c=(atd l i e m,(e:Int))∧2≤c.1∧∀k,1≤k→k<e→atd l i k m<c.1
 |0,c,h=>by cases h
 |d+1,c,h=>by
  rw[rc_succ]at h
  split at h
  ·rename_i hlt
   rcases List.mem_append.1 h with h|h
   ·obtain⟨e,h1,h2,h3⟩:=rc_mem l i m hm d c h
    exact⟨e,h1,by omega,h3⟩
   ·simp only[List.mem_singleton]at h
    subst h
    have hp:=rc_pos l i m hm d
    refine⟨d+1,by omega,Nat.le_refl _,by simp,?_,fun k h1 h2=>?_⟩
    ·rcases atd_range l i ((d:Int)+1) m with h|h
     ·omega
     ·exact h
    ·have:=rc_max l i m d k h1 (by omega)
     show atd l i k m<atd l i (d+1) m;omega
  ·obtain⟨e,h1,h2,h3⟩:=rc_mem l i m hm d c h
   exact⟨e,h1,by omega,h3⟩

def rising :List (Int × Int)→Prop
 |[]=>True
 |[_]=>True
 |a::b::r=>a.1<b.1∧a.2<b.2∧rising (b::r)
theorem rising_snoc :∀{l:List (Int × Int)} {c:Int × Int},rising l→(∀x,l.getLast?=some x→x.1<c.1∧x.2<c.2)→rising (l++[c])
 |[],c,_,_=>trivial
 |[a],c,_,h=>⟨(h a rfl).1,(h a rfl).2,trivial⟩
 |a::b::r,c,h1,h2=>⟨h1.1,h1.2.1,rising_snoc (l:=b::r) h1.2.2 (fun x hx=>h2 x (by rw[List.getLast?_cons_cons];exact hx))⟩
theorem rising_get :∀{l:List (Int × Int)},rising l→∀k,k+1<l.length→l[k]!.1<l[k+1]!.1∧l[k]!.2<l[k+1]!.2
 |[],_,k,h=>by simp at h
 |[_],_,k,h=>by simp at h
 |a::b::r,h1,0,_=>⟨h1.1,h1.2.1⟩
 |a::b::r,h1,k+1,h=>rising_get (l:=b::r) h1.2.2 k (by simpa using h)

theorem rc_last (l:List UInt8)(i m:Int):∀d x,(rc l i m d).1.getLast?=some x→x.1=(rc l i m d).2∧x.2≤d
 |0,x,h=>by cases h
 |d+1,x,h=>by
  rw[rc_succ]at h ⊢
  split at h
  ·rename_i hlt
   rw[if_pos hlt]
   simp only[List.getLast?_append,List.getLast?_singleton,Option.some_or,Option.some.injEq]at h
   subst h
   exact⟨rfl,by simp⟩
  ·rename_i hlt
   rw[if_neg hlt]
   have:=rc_last l i m d x h
   exact⟨this.1,by omega⟩
theorem rc_nil (l:List UInt8)(i m:Int):∀d,(rc l i m d).1=[]→(rc l i m d).2=0
 |0,_=>rfl
 |d+1,h=>by
  rw[rc_succ]at h ⊢
  split at h
  ·simp at h
  ·rename_i hlt;rw[if_neg hlt];exact rc_nil l i m d h
theorem rc_rising (l:List UInt8)(i m:Int):∀d,rising (rc l i m d).1
 |0=>trivial
 |d+1=>by
  rw[rc_succ]
  split
  ·rename_i hlt
   refine rising_snoc (rc_rising l i m d) fun x hx=>?_
   obtain⟨h1,h2⟩:=rc_last l i m d x hx
   exact⟨by rw[h1];exact hlt,by simp only;omega⟩
  ·exact rc_rising l i m d

theorem lcp_ge (l:List UInt8):∀(m i j n:Nat),n≤lcp l i j m↔n≤m∧∀k:Nat,k<n→bat l ((i+k:Nat):Int)=bat l ((j+k:Nat):Int)
 |0,i,j,n=>by
  unfold lcp
  constructor
  ·intro h;exact⟨h,fun k hk=>by omega⟩
  ·exact fun h=>h.1
 |m+1,i,j,0=>by simp
 |m+1,i,j,n+1=>by
  unfold lcp
  split
  ·rename_i he
   rw[Nat.add_le_add_iff_right,lcp_ge l m (i+1) (j+1) n]
   constructor
   ·rintro⟨h1,h2⟩
    refine⟨by omega,fun k hk=>?_⟩
    cases k with
    |zero=>exact he
    |succ k=>have:=h2 k (by omega);rwa [show i+1+k=i+(k+1)by omega,show j+1+k=j+(k+1)by omega]at this
   ·rintro⟨h1,h2⟩
    refine⟨by omega,fun k hk=>?_⟩
    have:=h2 (k+1) (by omega)
    rwa [show i+(k+1)=i+1+k by omega,show j+(k+1)=j+1+k by omega]at this
  ·rename_i he
   constructor
   ·intro h;omega
   ·rintro⟨_,h2⟩
    exact absurd (h2 0 (by omega)) he
abbrev same (l:List UInt8)(i d n:Nat):Prop:=∀k:Nat,k<n→bat l ((i-d+k:Nat):Int)=bat l ((i+k:Nat):Int)
theorem atd_ge (l:List UInt8)(i d n:Nat)(hd:1≤d)(hdi:d≤i)(hi:i≤l.length)(hn:2≤n)(hn2:n≤273):(n:Int)≤atd l i d 273↔i+n≤l.length∧same l i d n:=by
 rw[atd_eq l i d 273 hd hdi hi (by omega)]
 have:=lcp_ge l (min (273:Int) ((l.length:Int)-i)).toNat (i-d) i n
 split
 ·constructor
  ·intro;omega
  ·rintro⟨h1,h2⟩
   have:=this.2 ⟨by omega,h2⟩
   omega
 ·rw[Int.ofNat_le,this]
  constructor
  ·rintro⟨h1,h2⟩;exact⟨by omega,h2⟩
  ·rintro⟨h1,h2⟩;exact⟨by omega,h2⟩
def occ (l:List UInt8)(w:Int)(i:Nat)(t:Pc):Prop :=
 (i<l.length∧t=litP l i)∨∃n d:Nat,t=((n:Int),(d:Int),0)∧2≤n∧n≤273∧1≤d∧(d:Int)≤w∧d≤i∧i+n≤l.length∧same l i d n
theorem occ.fits {l:List UInt8}{w:Int}{i:Nat}{t:Pc}(hw:w≤4096)(h:occ l w i t):fits l i t:=by
 rcases h with⟨h1,rfl⟩|⟨n,d,rfl,h1,h2,h3,h4,h5,h6,_⟩
 ·exact lit_fits h1
 ·exact⟨.inr ⟨by dsimp only;omega,by dsimp only;omega,by dsimp only;omega,by dsimp only;omega,rfl⟩,by dsimp only;omega,by dsimp only;omega⟩
theorem rc_first (l:List UInt8)(i m n:Int)(hm:0≤m)(hn:1≤n):∀(D d:Nat),1≤d→d≤D→n≤atd l i d m→∃k,k<(rc l i m D).1.length∧n≤(rc l i m D).1[k]!.1∧(rc l i m D).1[k]!.2≤d∧∀j,j<k→(rc l i m D).1[j]!.1<n
 |0,d,h1,h2,_=>by omega
 |D+1,d,h1,h2,h3=>by
  have low:∀j,j<(rc l i m D).1.length→(rc l i m D).1[j]!.1≤(rc l i m D).2:=fun j hj=>by
   obtain⟨e,g1,g2,g3,_⟩:=rc_mem l i m hm D _ (bang_mem hj)
   have:=rc_max l i m D e g1 g2
   rw[g3];exact this
  have old:∀d,1≤d→d≤D→n≤atd l i d m→∃k,k<(rc l i m (D+1)).1.length∧n≤(rc l i m (D+1)).1[k]!.1∧(rc l i m (D+1)).1[k]!.2≤d∧∀j,j<k→(rc l i m (D+1)).1[j]!.1<n:=fun d g1 g2 g3=>by
   obtain⟨k,k1,k2,k3,k4⟩:=rc_first l i m n hm hn D d g1 g2 g3
   rw[rc_succ]
   split
   ·have e:∀j,j<(rc l i m D).1.length→((rc l i m D).1++[(atd l i ((D:Int)+1) m,(D:Int)+1)])[j]! = (rc l i m D).1[j]!:=fun j hj=>by
     rw[getElem!_pos _ j (by rw[List.length_append];omega),List.getElem_append_left hj,getElem!_pos _ j hj]
    refine⟨k,by rw[List.length_append];omega,?_,?_,fun j hj=>?_⟩
    ·rw[e k k1];exact k2
    ·rw[e k k1];exact k3
    ·rw[e j (by omega)];exact k4 j hj
   ·exact⟨k,k1,k2,k3,k4⟩
  by_cases hd:d≤D
  ·exact old d h1 hd h3
  ·obtain rfl:d=D+1:=by omega
   rw[show((D+1:Nat):Int)=(D:Int)+1 by omega]at h3
   by_cases hlt:(rc l i m D).2<n
   ·rw[rc_succ,if_pos (by omega)]
    refine⟨(rc l i m D).1.length,by simp,?_,?_,fun j hj=>?_⟩
    ·rw[getElem!_pos _ _ (by simp),List.getElem_append_right (Nat.le_refl _)];simpa using h3
    ·rw[getElem!_pos _ _ (by simp),List.getElem_append_right (Nat.le_refl _)];simp
    ·rw[getElem!_pos _ j (by rw[List.length_append];omega),List.getElem_append_left hj]
     have:=low j hj
     rw[getElem!_pos _ j hj]at this;omega
   ·
    have hne:(rc l i m D).1≠[]:=fun hnil=>by have:=rc_nil l i m D hnil;omega
    obtain⟨x,hx⟩:∃x,(rc l i m D).1.getLast?=some x:=⟨_,List.getLast?_eq_some_getLast hne⟩
    have h5:=rc_last l i m D x hx
    obtain⟨e,g1,g2,g3,_⟩:=rc_mem l i m hm D x (List.mem_of_getLast? hx)
    obtain⟨k,k1,k2,k3,k4⟩:=old e g1 g2 (by rw[g3]at h5;dsimp only at h5;omega)
    exact⟨k,k1,k2,by omega,k4⟩
theorem cands_rc {l:List UInt8}{i:Nat}{w:Int}(hw:1≤w∧w≤4096)(hi:i≤l.length)(hn:l.length≤4096):cands l i w 273=(rc l i 273 (min w i).toNat).1:=by
 rw[cands_eq];unfold rcands;rw[if_pos ⟨⟨hw.1,hw.2,by omega,by omega⟩,by omega,by omega,hn⟩]
theorem trN_mem {d:Int}{lo:Nat}:∀{n m:Nat},lo<m→m≤n→((m:Int),d,(0:Int))∈trN d lo n
 |0,m,_,h=>by omega
 |n+1,m,h1,h2=>by
  unfold trN
  rw[if_pos (by omega)]
  by_cases e:m=n+1
  ·subst e;exact List.mem_cons_self
  ·exact List.mem_cons_of_mem _ (trN_mem h1 (by omega))
theorem trK_mem {cs:List (Int × Int)}{t:Pc}:∀{n k:Nat},k<n→t∈trN cs[k]!.2 (shr cs k) cs[k]!.1.toNat→t∈trK cs n
 |0,k,h,_=>by omega
 |n+1,k,h,ht=>by
  unfold trK
  by_cases e:k=n
  ·subst e;exact List.mem_append_left _ ht
  ·exact List.mem_append_right _ (trK_mem (by omega) ht)
theorem trN_sorted {d:Int}{lo:Nat}:∀{n:Nat},(trN d lo n).Pairwise (fun a b=>b.1<a.1)
 |0=>.nil
 |n+1=>by
  unfold trN
  split
  ·refine List.Pairwise.cons (fun t ht=>?_) trN_sorted
   have:=trN_in ht
   show t.1<((n+1:Nat):Int);omega
  ·exact .nil
theorem trK_in {cs:List (Int × Int)}:∀{k:Nat} {t:Pc},t∈trK cs k→∃j,j<k∧t∈trN cs[j]!.2 (shr cs j) cs[j]!.1.toNat
 |0,t,h=>by cases h
 |k+1,t,h=>by
  rcases List.mem_append.1 h with h|h
  ·exact⟨k,by omega,h⟩
  ·obtain⟨j,h1,h2⟩:=trK_in h;exact⟨j,by omega,h2⟩
theorem rising_lt {cs:List (Int × Int)}(h:rising cs):∀{k j:Nat},j≤k→k<cs.length→cs[j]!.1≤cs[k]!.1
 |0,j,h1,h2=>by
   obtain rfl:j=0:=by omega
   exact Int.le_refl _
 |k+1,j,h1,h2=>by
  by_cases e:j=k+1
  ·subst e;exact Int.le_refl _
  ·have g1:=rising_lt h (k:=k) (j:=j) (by omega) (by omega)
   have g2:=rising_get h k h2
   omega
theorem trK_sorted {cs:List (Int × Int)}(h:rising cs)(hp:∀c∈cs,2≤c.1):∀{k:Nat},k≤cs.length→(trK cs k).Pairwise (fun a b=>b.1<a.1)
 |0,_=>.nil
 |k+1,hk=>by
  unfold trK
  refine List.pairwise_append.2 ⟨trN_sorted,trK_sorted h hp (by omega),fun a ha b hb=>?_⟩
  obtain⟨j,h1,h2⟩:=trK_in hb
  have g1:=trN_in ha
  have g2:=trN_in h2
  have g3:=rising_lt h (k:=k-1) (j:=j) (by omega) (by omega)
  have g4:=hp _ (bang_mem (show k-1<cs.length by omega))
  have g5:=hp _ (bang_mem (show j<cs.length by omega))
  unfold shr at g1
  rw[if_pos (by omega)]at g1
  omega
section
variable {l:List UInt8} {i:Nat} {w:Int} (hw:1≤w∧w≤4096) (hi:i<l.length) (hn:l.length≤4096)
 include hw hi hn
theorem cands_occ {n d:Nat}(hn2:2≤n)(h:((n:Int),(d:Int))∈cands l i w 273):occ l w i ((n:Int),(d:Int),0):=by
 have h0:=cands_in h
 rw[cands_rc hw (by omega) hn]at h
 obtain⟨e,h1,h2,h3,_⟩:=rc_mem l i 273 (by omega) _ _ h
 have h4:=congrArg Prod.fst h3
 have h5:=congrArg Prod.snd h3
 dsimp only at h0 h4 h5
 obtain rfl:d=e:=by omega
 have:=(atd_ge l i d n h1 (by omega) (by omega) hn2 (by omega)).1 (by omega)
 exact .inr ⟨n,d,rfl,hn2,by omega,h1,by omega,by omega,this⟩
theorem tries_sorted :(triesL l i w).Pairwise (fun a b=>b.1<a.1):=by
 unfold triesL
 have hr:rising (cands l i w 273):=by rw[cands_rc hw (by omega) hn];exact rc_rising _ _ _ _
 refine List.pairwise_append.2 ⟨trK_sorted hr (fun c hc=>(cands_in hc).1) (Nat.le_refl _),List.pairwise_singleton _ _,fun a ha b hb=>?_⟩
 obtain rfl:=List.mem_singleton.1 hb
 obtain⟨j,h1,h2⟩:=trK_in ha
 have:=shr_pos h1
 have:=(trN_in h2).1
 show 1<a.1;omega
theorem tries_occ {t:Pc}(ht:t∈triesL l i w):occ l w i t:=by
 rcases List.mem_append.1 ht with ht|ht
 ·obtain⟨j,h1,h2⟩:=trK_in ht
  have g1:=trN_in h2
  have g2:=shr_pos h1
  have g3:=cands_in (bang_mem h1)
  have g4:=bang_mem h1
  obtain⟨a,b,y⟩:=t
  obtain⟨n,rfl⟩:∃n:Nat,a=n:=⟨a.toNat,by dsimp only at g1;omega⟩
  obtain⟨N,D,hND⟩:∃N D:Nat,(cands l i w 273)[j]! = ((N:Int),(D:Int)):=⟨(cands l i w 273)[j]!.1.toNat,(cands l i w 273)[j]!.2.toNat,by rw[Int.toNat_of_nonneg (by omega),Int.toNat_of_nonneg (by omega)]⟩
  rw[hND]at g1 g3 g4
  dsimp only at g1 g3
  rcases cands_occ hw hi hn (by omega) g4 with⟨_,h⟩|⟨n',d',h,k1,k2,k3,k4,k5,k6,k7⟩
  ·have:=congrArg (·.2.1) h;change (D:Int)=0 at this;omega
  ·have e1:=congrArg (·.1) h
   have e2:=congrArg (·.2.1) h
   change (N:Int)=n' at e1
   change (D:Int)=d' at e2
   obtain rfl:N=n':=by omega
   obtain rfl:D=d':=by omega
   exact .inr ⟨n,D,by rw[g1.2.2.1,g1.2.2.2],by omega,by omega,k3,k4,k5,by omega,fun k hk=>k7 k (by omega)⟩
 ·obtain rfl:=List.mem_singleton.1 ht
  exact .inl ⟨hi,rfl⟩
theorem tries_cover {t:Pc}(ht:occ l w i t):∃u∈triesL l i w,u.1=t.1∧u.2.1≤t.2.1∧(t.2.1=0∧u=t∨1≤u.2.1):=by
 rcases ht with⟨h1,rfl⟩|⟨n,d,rfl,h1,h2,h3,h4,h5,h6,h7⟩
 ·exact⟨litP l i,List.mem_append_right _ List.mem_cons_self,rfl,Int.le_refl _,.inl ⟨rfl,rfl⟩⟩
 ·have ha:=(atd_ge l i d n h3 h5 (by omega) h1 h2).2 ⟨h6,h7⟩
  obtain⟨k,k1,k2,k3,k4⟩:=rc_first l i 273 n (by omega) (by omega) (min w i).toNat d h3 (by omega) ha
  rw[←cands_rc hw (by omega) hn]at k1 k2 k3 k4
  have g3:=cands_in (bang_mem k1)
  refine⟨((n:Int),(cands l i w 273)[k]!.2,0),List.mem_append_left _ (trK_mem k1 (trN_mem ?_ (by omega))),rfl,k3,.inr (by dsimp only;omega)⟩
  unfold shr
  split
  ·have:=k4 (k-1) (by omega);omega
  ·omega
end
theorem price_mono {c:Cst}{n d e:Int}{y z:Int}(hc:vC c)(h1:1≤d)(h2:d≤e):price c (n,d,y)≤price c (n,e,z):=by
 unfold price
 dsimp only
 rw[if_neg (by omega),if_neg (by omega)]
 have:iblen d≤iblen e:=by unfold iblen;have:=blen_mono (n:=d.toNat) (m:=e.toNat) (by omega);omega
 have:=Int.mul_le_mul_of_nonneg_left this hc.2.2.1.1
 omega

def kb (a b:St):Prop:=a.1<b.1∨a.1=b.1∧(a.2.1<b.2.1∨a.2.1=b.2.1∧(b.2.2.1<a.2.2.1∨a.2.2.1=b.2.2.1∧a.2.2.2.1<b.2.2.2.1))
theorem kb_trans {a b c:St}(h1:¬kb b a)(h2:¬kb c b):¬kb c a:=by
 unfold kb at *;omega
theorem nxt_set {c:Cst}{T:List St}{i:Nat}{t:Pc}{x:St}(h:1≤t.1):nxt c (T.set i x) i t=nxt c T i t:=by
 unfold nxt
 have:(T.set i x)[i+t.1.toNat]! = T[i+t.1.toNat]!:=by
  simp only[getElem!_def,List.getElem?_set]
  rw[if_neg (by omega)]
 rw[this]
theorem runT_min {c:Cst}{i:Nat}:∀{ts:List Pc} {s:Bool × List St} {x:St},s.1=true→i<s.2.length→s.2[i]! = x→(∀t∈ts,1≤t.1∧t.1<x.2.2.1)→ts.Pairwise (fun a b=>b.1<a.1) →
  ((runT c i ts s).2[i]! = x∨∃t∈ts,(runT c i ts s).2[i]! = nxt c s.2 i t)∧¬kb x (runT c i ts s).2[i]!∧∀t∈ts,¬kb (nxt c s.2 i t) (runT c i ts s).2[i]!
 |[],s,x,_,_,h3,_,_=>⟨.inl h3,by show ¬kb x s.2[i]!;rw[h3];unfold kb;omega,fun t ht=>by cases ht⟩
 |t::ts,s,x,h1,h2,h3,h4,h5=>by
  have ht:=h4 t List.mem_cons_self
  rw[List.pairwise_cons]at h5
  show((runT c i ts (tryS c i s t)).2[i]! = x∨∃u∈t::ts,(runT c i ts (tryS c i s t)).2[i]! = nxt c s.2 i u)∧¬kb x (runT c i ts (tryS c i s t)).2[i]!∧∀u∈t::ts,¬kb (nxt c s.2 i u) (runT c i ts (tryS c i s t)).2[i]!
  by_cases hb:sbet (nxt c s.2 i t) s.2[i]!
  ·have e:tryS c i s t=(true,s.2.set i (nxt c s.2 i t)):=if_pos (.inr hb)
   rw[e]
   obtain⟨g1,g2,g3⟩:=runT_min (c:=c) (i:=i) (ts:=ts) (s:=(true,s.2.set i (nxt c s.2 i t))) (x:=nxt c s.2 i t) rfl (by simpa using h2) (by dsimp only;rw[lzset_bang h2,if_pos rfl]) (fun u hu=>⟨(h4 u (List.mem_cons_of_mem _ hu)).1,h5.1 u hu⟩) h5.2
   refine⟨.inr ?_,?_,fun u hu=>?_⟩
   ·rcases g1 with g1|⟨u,hu,g1⟩
    ·exact⟨t,List.mem_cons_self,g1⟩
    ·exact⟨u,List.mem_cons_of_mem _ hu,by rw[g1];exact nxt_set (h4 u (List.mem_cons_of_mem _ hu)).1⟩
   ·refine kb_trans g2 ?_
    rw[h3]at hb
    unfold kb;unfold sbet at hb;omega
   ·rcases List.mem_cons.1 hu with rfl|hu
    ·exact g2
    ·have:=g3 u hu
     rwa [nxt_set (h4 u (List.mem_cons_of_mem _ hu)).1]at this
  ·have e:tryS c i s t=s:=if_neg (by rintro(h|h);rw[h1]at h;cases h;exact hb h)
   rw[e]
   obtain⟨g1,g2,g3⟩:=runT_min (c:=c) (i:=i) (ts:=ts) h1 h2 h3 (fun u hu=>h4 u (List.mem_cons_of_mem _ hu)) h5.2
   refine⟨?_,g2,fun u hu=>?_⟩
   ·rcases g1 with g1|⟨u,hu,g1⟩
    ·exact .inl g1
    ·exact .inr ⟨u,List.mem_cons_of_mem _ hu,g1⟩
   ·rcases List.mem_cons.1 hu with rfl|hu
    ·refine kb_trans g2 ?_
     rw[h3]at hb
     have:(nxt c s.2 i u).2.2=u:=rfl
     unfold kb;unfold sbet at hb;rw[this];omega
    ·exact g3 u hu
def isMin (c:Cst)(l:List UInt8)(w:Int)(T:List St)(i:Nat):Prop :=
 occ l w i T[i]!.2.2∧T[i]! = nxt c T i T[i]!.2.2∧∀t,occ l w i t→¬kb (nxt c T i t) T[i]!
theorem litP_at (l:List UInt8)(i:Nat):(litP l i).2.1=0:=rfl
theorem nxt_near {c:Cst}(hc:vC c){T:List St}{i:Nat}{t u:Pc}(h1:u.1=t.1)(h2:u.2.1≤t.2.1)(h3:t.2.1=0∧u=t∨1≤u.2.1):¬kb (nxt c T i t) (nxt c T i u):=by
 rcases h3 with⟨_,rfl⟩|h3
 ·unfold kb;omega
 ·obtain⟨a,d,y⟩:=t
  obtain⟨a',e,z⟩:=u
  change a'=a at h1
  subst h1
  have:=price_mono (n:=a') (y:=z) (z:=y) hc h3 h2
  unfold kb nxt
  dsimp only at h2 h3 this ⊢
  omega
theorem parT_last {c:Cst}{l:List UInt8}{w:Int}(hc:vC c):∀{j:Nat},j≤l.length→(parT c l w j).length=l.length+1∧(parT c l w j)[l.length]! = st0
 |0,_=>by
  refine⟨by simp[parT],?_⟩
  unfold parT;rw[getElem!_pos _ _ (by simp),List.getElem_replicate]
 |j+1,hj=>by
  obtain⟨h1,h2⟩:=parT_last (l:=l) hc (w:=w) (j:=j) (by omega)
  refine⟨(parT_ok hc hj).1.1,?_⟩
  show(runT c (l.length-(j+1)) _ (false,parT c l w j)).2[l.length]! = st0
  rw[runT_else (by omega) (by show _<(parT c l w j).length;omega)];exact h2
section
variable {c:Cst} {l:List UInt8} {w:Int} (hc:vC c) (hw:1≤w∧w≤4096) (hn:l.length≤4096)
 include hc hw hn
theorem row_min {i:Nat}(hi:i<l.length){T:List St}(hT:T.length=l.length+1):isMin c l w (rowT c l w i T) i:=by
 have hocc:∀t∈triesL l i w,occ l w i t:=fun t ht=>tries_occ hw hi hn ht
 have hone:∀t,occ l w i t→1≤t.1:=fun t ht=>(ht.fits hw.2).2.2
 have key:∃t∈triesL l i w,(rowT c l w i T)[i]! = nxt c T i t∧∀u∈triesL l i w,¬kb (nxt c T i u) (nxt c T i t):=by
  have hs:=tries_sorted hw hi hn
  have hne:triesL l i w≠[]:=by unfold triesL;simp
  unfold rowT
  revert hocc hs hne
  cases triesL l i w with
  |nil=>intro _ _ h;exact absurd rfl h
  |cons t ts =>
   intro hocc hs _
   rw[List.pairwise_cons]at hs
   show ∃u∈t::ts,(runT c i ts (tryS c i (false,T) t)).2[i]! = nxt c T i u∧_
   have e:tryS c i (false,T) t=(true,T.set i (nxt c T i t)):=if_pos (.inl rfl)
   rw[e]
   obtain⟨g1,g2,g3⟩:=runT_min (c:=c) (i:=i) (ts:=ts) (s:=(true,T.set i (nxt c T i t))) (x:=nxt c T i t) rfl (by simp;omega) (by dsimp only;rw[lzset_bang (by omega),if_pos rfl]) (fun u hu=>⟨hone _ (hocc u (List.mem_cons_of_mem _ hu)),hs.1 u hu⟩) hs.2
   have g3':∀u∈ts,¬kb (nxt c T i u) (runT c i ts (true,T.set i (nxt c T i t))).2[i]!:=fun u hu=>by
    have:=g3 u hu
    rwa [nxt_set (hone _ (hocc u (List.mem_cons_of_mem _ hu)))]at this
   rcases g1 with g1|⟨u,hu,g1⟩
   ·exact⟨t,List.mem_cons_self,g1,fun u hu=>by
     rw[g1]at g2 g3'
     rcases List.mem_cons.1 hu with rfl|hu
     ·exact g2
     ·exact g3' u hu⟩
   ·rw[nxt_set (hone _ (hocc u (List.mem_cons_of_mem _ hu)))]at g1
    refine⟨u,List.mem_cons_of_mem _ hu,g1,fun v hv=>?_⟩
    rw[g1]at g2 g3'
    rcases List.mem_cons.1 hv with rfl|hv
    ·exact g2
    ·exact g3' v hv
 obtain⟨t,h1,h2,h3⟩:=key
 have same:∀u:Pc,1≤u.1→nxt c (rowT c l w i T) i u=nxt c T i u:=fun u hu=>by
  unfold nxt rowT
  rw[runT_else (by omega) (by show i<T.length;omega)]
 have e2:(rowT c l w i T)[i]!.2.2=t:=by rw[h2];rfl
 refine⟨by rw[e2];exact hocc t h1,by rw[e2,same t (hone _ (hocc t h1)),h2],fun u hu=>?_⟩
 rw[same u (hone u hu),h2]
 obtain⟨v,k1,k2,k3,k4⟩:=tries_cover hw hi hn hu
 exact kb_trans (h3 v k1) (nxt_near hc k2 k3 k4)
theorem parT_min :∀{j:Nat},j≤l.length→∀i,l.length-j≤i→i<l.length→isMin c l w (parT c l w j) i
 |0,_,i,h1,h2=>by omega
 |j+1,hj,i,h1,h2=>by
  have hl:=(parT_last (l:=l) (w:=w) hc (j:=j) (by omega)).1
  by_cases e:i=l.length-(j+1)
  ·subst e
   exact row_min hc hw hn h2 hl
  ·have ih:=parT_min (j:=j) (by omega) i (by omega) h2
   have same:∀k,k≠l.length-(j+1)→(parT c l w (j+1))[k]! = (parT c l w j)[k]!:=fun k hk=>by
    show(runT c (l.length-(j+1)) _ (false,parT c l w j)).2[k]! = _
    exact runT_else hk (by show _<(parT c l w j).length;omega)
   have sameN:∀u:Pc,1≤u.1→nxt c (parT c l w (j+1)) i u=nxt c (parT c l w j) i u:=fun u hu=>by
    unfold nxt;rw[same _ (by omega)]
   unfold isMin
   rw[same i e]
   have h3:=(ih.1.fits hw.2).2.2
   exact⟨ih.1,by rw[sameN _ h3];exact ih.2.1,fun t ht=>by rw[sameN t (ht.fits hw.2).2.2];exact ih.2.2 t ht⟩
end
def Cov (l:List UInt8)(w:Int):Nat→List Pc→Prop
 |i,[]=>i=l.length
 |i,t::r=>occ l w i t∧Cov l w (i+t.1.toNat) r
def bef :List Pc→List Pc→Bool
 |[],_=>false
 |_,[]=>false
 |s::a,t::b=>if s=t then bef a b else decide (t.1<s.1∨s.1=t.1∧s.2.1<t.2.1)
theorem occ_same {l:List UInt8}{w:Int}{i:Nat}{s t:Pc}(h1:occ l w i s)(h2:occ l w i t)(h3:s.1=t.1)(h4:s.2.1=t.2.1):s=t:=by
 rcases h1 with⟨_,rfl⟩|⟨n,d,rfl,g1,g2,g3,_⟩
 ·rcases h2 with⟨_,rfl⟩|⟨n,d,rfl,k1,k2,k3,_⟩
  ·rfl
  ·change (0:Int)=d at h4;omega
 ·rcases h2 with⟨_,rfl⟩|⟨n',d',rfl,k1,k2,k3,_⟩
  ·change (d:Int)=0 at h4;omega
  ·change (n:Int)=n' at h3
   change (d:Int)=d' at h4
   rw[h3,h4]
section
variable {c:Cst} {l:List UInt8} {w:Int} {T:List St} (hw:1≤w∧w≤4096)
 (hT:∀i,i<l.length→isMin c l w T i) (hT0:T[l.length]! = st0)
 include hw hT hT0
theorem walkT_cov :∀(f i:Nat),i≤l.length→l.length≤f+i→Cov l w i (walkT T l.length f i)∧costs c (walkT T l.length f i)=T[i]!.1∧((walkT T l.length f i).length:Int)=T[i]!.2.1
 |0,i,h1,h2=>by
  obtain rfl:i=l.length:=by omega
  rw[hT0];exact⟨rfl,rfl,rfl⟩
 |f+1,i,h1,h2=>by
  unfold walkT
  by_cases hi:i<l.length
  ·rw[if_pos hi]
   obtain⟨g1,g2,g3⟩:=hT i hi
   have g4:=g1.fits hw.2
   obtain⟨k1,k2,k3⟩:=walkT_cov f (i+T[i]!.2.2.1.toNat) (by omega) (by omega)
   have e1:=congrArg (·.1) g2
   have e2:=congrArg (·.2.1) g2
   change T[i]!.1=T[i+T[i]!.2.2.1.toNat]!.1+price c T[i]!.2.2 at e1
   change T[i]!.2.1=T[i+T[i]!.2.2.1.toNat]!.2.1+1 at e2
   refine⟨⟨g1,k1⟩,?_,?_⟩
   ·unfold costs;rw[k2,e1];omega
   ·rw[List.length_cons,e2,←k3];omega
  ·rw[if_neg hi]
   obtain rfl:i=l.length:=by omega
   rw[hT0];exact⟨rfl,rfl,rfl⟩
theorem walkT_first :∀(qs:List Pc) (f i:Nat),l.length≤f+i→Cov l w i qs →
  (T[i]!.1<costs c qs∨T[i]!.1=costs c qs∧(T[i]!.2.1<qs.length∨T[i]!.2.1=qs.length∧bef qs (walkT T l.length f i)=false))
 |[],f,i,h1,h2=>by
  obtain rfl:i=l.length:=h2
  rw[hT0];exact .inr ⟨rfl,.inr ⟨rfl,rfl⟩⟩
 |t::r,f,i,h1,h2=>by
  obtain⟨h2,h3⟩:=h2
  have ht:=h2.fits hw.2
  have hi:i<l.length:=by omega
  obtain⟨g1,g2,g3⟩:=hT i hi
  have g4:=g3 t h2
  obtain⟨f,rfl⟩:∃m,f=m+1:=⟨f-1,by omega⟩
  have ih:=walkT_first r f (i+t.1.toNat) (by omega) h3
  have e0:(nxt c T i t).1=T[i+t.1.toNat]!.1+price c t:=rfl
  have e1:(nxt c T i t).2.1=T[i+t.1.toNat]!.2.1+1:=rfl
  have e2:(nxt c T i t).2.2=t:=rfl
  unfold kb at g4
  rw[e0,e1,e2]at g4
  rw[walkT,if_pos hi]
  unfold costs bef
  rw[List.length_cons]
  by_cases hlt:T[i]!.1<price c t+costs c r∨T[i]!.1=price c t+costs c r∧T[i]!.2.1<((r.length+1:Nat):Int)
  ·omega
  ·refine .inr ⟨by omega,.inr ⟨by omega,?_⟩⟩
   by_cases hst:t=T[i]!.2.2
   ·rw[if_pos hst,←hst]
    have:T[i+t.1.toNat]!.1=costs c r∧T[i+t.1.toNat]!.2.1=r.length:=by
     have e3:=congrArg (·.1) g2
     have e4:=congrArg (·.2.1) g2
     change T[i]!.1=T[i+T[i]!.2.2.1.toNat]!.1+price c T[i]!.2.2 at e3
     change T[i]!.2.1=T[i+T[i]!.2.2.1.toNat]!.2.1+1 at e4
     rw[←hst]at e3 e4
     omega
    rcases ih with ih|⟨_,ih|⟨_,ih⟩⟩
    ·omega
    ·omega
    ·exact ih
   ·rw[if_neg hst,decide_eq_false_iff_not]
    intro hh
    have:¬(t.1=T[i]!.2.2.1∧t.2.1=T[i]!.2.2.2.1):=fun hq=>hst (occ_same h2 g1 hq.1 hq.2)
    omega
end
section
variable {c:Cst} {l:List UInt8} {w:Int} (hc:vC c) (hw:1≤w∧w≤4096) (hn:l.length≤4096)
 include hc hw hn
theorem parse_eq :parse c l w=(walkT (parT c l w l.length) l.length l.length 0,0):=by
 unfold parse;rw[if_pos ⟨hc,hw⟩,if_neg (by omega)]
theorem parse_cov :Cov l w 0 (parse c l w).1:=by
 rw[parse_eq hc hw hn]
 exact(walkT_cov hw (fun i hi=>parT_min hc hw hn (Nat.le_refl _) i (by omega) hi) (parT_last hc (Nat.le_refl _)).2 l.length 0 (by omega) (by omega)).1
theorem parse_first {qs:List Pc}(h:Cov l w 0 qs):costs c (parse c l w).1<costs c qs∨costs c (parse c l w).1=costs c qs∧((parse c l w).1.length<qs.length∨(parse c l w).1.length=qs.length∧bef qs (parse c l w).1=false):=by
 rw[parse_eq hc hw hn]
 have hT:=fun i hi=>parT_min hc hw hn (Nat.le_refl _) i (by omega) hi
 have h0:=(parT_last (l:=l) (w:=w) hc (Nat.le_refl _)).2
 obtain⟨_,h2,h3⟩:=walkT_cov hw hT h0 l.length 0 (by omega) (by omega)
 have:=walkT_first hw hT h0 qs l.length 0 (by omega) h
 dsimp only
 rw[h2]
 rcases this with this|⟨g1,this|⟨g2,this⟩⟩
 ·exact .inl this
 ·exact .inr ⟨g1,.inl (by omega)⟩
 ·exact .inr ⟨g1,.inr ⟨by omega,this⟩⟩
theorem parse_le {qs:List Pc}(h:Cov l w 0 qs):costs c (parse c l w).1≤costs c qs:=by
 have:=parse_first hc hw hn h;omega
end
theorem cov_vPs {l:List UInt8}{w:Int}(hw:w≤4096):∀{ps:List Pc} {i:Nat},Cov l w i ps→vPs ps
 |[],_,_=>fun t ht=>by cases ht
 |t::r,i,h=>fun u hu=>by
  rcases List.mem_cons.1 hu with rfl|hu
  ·exact(h.1.fits hw).1
  ·exact cov_vPs hw h.2 u hu
theorem cov_short {l:List UInt8}{w:Int}(hw:w≤4096):∀{ps:List Pc} {i:Nat},Cov l w i ps→ps.length+i≤l.length
 |[],i,h=>by have:i=l.length:=h;simp;omega
 |t::r,i,h=>by
  have h1:=h.1.fits hw
  have:=cov_short hw h.2
  rw[List.length_cons];omega
end Go.Proofs.YteddogfolceahaaGreat
end
section
set_option maxRecDepth 4000
namespace Go.Gh
open Go.RowKit Go.MapKept

section
variable {α:Type}
def mapC (kf:α→Value)(l:List (α × Value)):List Value:=l.flatMap fun e=>[kf e.1,e.2]
def mget [DecidableEq α]:List (α × Value)→α→Option Value
 |[],_=>none
 |e::r,a=>if e.1=a then some e.2 else mget r a
def mput [DecidableEq α]:List (α × Value)→α→Value→List (α × Value)
 |[],a,x=>[(a,x)]
 |e::r,a,x=>if e.1=a then(a,x)::r else e::mput r a x
theorem mput_len [DecidableEq α]:∀(l:List (α × Value)) (a:α) (x:Value),(mput l a x).length=l.length+(if mget l a=none then 1 else 0)
 |[],_,_=>rfl
 |e::r,a,x=>by
  unfold mput mget
  split
  ·simp
  ·have:=mput_len r a x;simp only[List.length_cons];omega
theorem mapC_len (kf:α→Value):∀l:List (α × Value),(mapC kf l).length=2*l.length
 |[]=>rfl
 |e::r=>by have:=mapC_len kf r;simp only[mapC,List.flatMap_cons,List.length_append,List.length_cons,List.length_nil]at this ⊢;omega
structure KeyF (d:TypeDesc)(kf:α→Value):Prop where
 is:∀a,IsKey d (kf a)
 inj:∀a b,kf a=kf b→a=b
 sc:∀a,scalar (kf a)=true
theorem keyS :KeyF .string (fun l:List UInt8=>S l):=⟨fun _=>trivial,fun a b h=>by injection h with h;injection h with h;injection h,fun _=>rfl⟩
theorem keyI :KeyF (.int .i64) (fun n:Int=>I n):=⟨fun _=>rfl,fun a b h=>by injection h,fun _=>rfl⟩
inductive EntR (φ:Nat→Loc)(L:Lens)(kf:α→Value):List (α × Value)→List MapEntry→Prop
 |nil:EntR φ L kf [] []
 |cons {a:α} {v:Value} {e:MapEntry} {l es} (hk:e.key=kf a) (hv:Val φ L v e.val) (r:EntR φ L kf l es):EntR φ L kf ((a,v)::l) (e::es)
theorem EntR.len {φ:Nat→Loc}{L:Lens}{kf:α→Value}{l:List (α × Value)}{es:List MapEntry}(h:EntR φ L kf l es):es.length=l.length:=by
 induction h with
 |nil=>rfl
 |cons _ _ _ ih=>simp[ih]
theorem EntR.keys {φ:Nat→Loc}{L:Lens}{kf:α→Value}{d:TypeDesc}(K:KeyF d kf){l:List (α × Value)}{es:List MapEntry}(h:EntR φ L kf l es):∀x∈es,IsKey d x.key:=by
 induction h with
 |nil=>intro x hx;cases hx
 |cons hk _ _ ih =>
  intro x hx
  rcases List.mem_cons.1 hx with rfl|hx
  ·rw[hk];exact K.is _
  ·exact ih x hx
theorem EntR.mono {φ φ':Nat→Loc}{L L':Lens}(e:Ext φ L φ' L'){kf:α→Value}{l:List (α × Value)}{es:List MapEntry}(h:EntR φ L kf l es):EntR φ' L' kf l es:=by
 induction h with
 |nil=>exact .nil
 |cons hk hv _ ih=>exact .cons hk (hv.mono e) ih
theorem EntR.row {φ:Nat→Loc}{L:Lens}{kf:α→Value}{d:TypeDesc}(K:KeyF d kf){l:List (α × Value)}{es:List MapEntry}(h:EntR φ L kf l es) :
  ∀(i:Nat) v,(mapC kf l)[i]?=some v→∃v',(flat es)[i]?=some v'∧Val φ L v v':=by
 induction h with
 |nil=>intro i v hi;simp[mapC]at hi
 |@cons a v e l es hk hv _ ih =>
  intro i u hi
  have e1:mapC kf ((a,v)::l)=kf a::v::mapC kf l:=rfl
  have e2:flat (e::es)=e.key::e.val::flat es:=rfl
  rw[e1]at hi;rw[e2]
  match i,hi with
  |0,hi =>
   simp only[List.getElem?_cons_zero,Option.some.injEq]at hi
   subst hi
   refine⟨e.key,rfl,?_⟩
   rw[hk]
   have hs:=K.sc a
   cases hx:kf a with
   |bool b=>exact .bool b
   |int k n=>exact .int k n
   |string s=>exact .str s
   |_=>rw[hx]at hs;cases hs
  |1,hi=>simp only[List.getElem?_cons_succ,List.getElem?_cons_zero,Option.some.injEq]at hi;subst hi;exact⟨e.val,rfl,hv⟩
  |i+2,hi=>exact ih i u (by simpa using hi)
theorem ent_of {φ:Nat→Loc}{L:Lens}{kf:α→Value}{d:TypeDesc}(K:KeyF d kf):∀{l:List (α × Value)} {es:List MapEntry},es.length=l.length →
  (∀(i:Nat) v,(mapC kf l)[i]?=some v→∃v',(flat es)[i]?=some v'∧Val φ L v v')→EntR φ L kf l es
 |[],[],_,_=>.nil
 |[],_::_,h,_=>by simp at h
 |_::_,[],h,_=>by simp at h
 |(a,v)::l,e::es,h,hr=>by
  have e1:mapC kf ((a,v)::l)=kf a::v::mapC kf l:=rfl
  have e2:flat (e::es)=e.key::e.val::flat es:=rfl
  rw[e1,e2]at hr
  obtain⟨k',h1,h2⟩:=hr 0 (kf a) rfl
  obtain⟨v',h3,h4⟩:=hr 1 v rfl
  simp only[List.getElem?_cons_zero,List.getElem?_cons_succ,Option.some.injEq]at h1 h3
  subst h1 h3
  exact .cons (h2.scalar (K.sc a)) h4 (ent_of K (by simpa using h) fun i u hu=>by
   obtain⟨u',g1,g2⟩:=hr (i+2) u (by simpa using hu)
   exact⟨u',by simpa using g1,g2⟩)
theorem EntR.find [DecidableEq α]{φ:Nat→Loc}{L:Lens}{kf:α→Value}{d:TypeDesc}(K:KeyF d kf)(a:α){l:List (α × Value)}{es:List MapEntry}(h:EntR φ L kf l es):∀i:Nat,
  (Instr.findNow d (kf a) es i=some none∧mget l a=none)∨∃j e v,Instr.findNow d (kf a) es i=some (some (i+j,e.val))∧es[j]?=some e∧e.key=kf a∧mget l a=some v∧Val φ L v e.val:=by
 induction h with
 |nil=>intro i;exact .inl ⟨rfl,rfl⟩
 |@cons b v e l es hk hv _ ih =>
  intro i
  obtain⟨r,hr,hiff⟩:=sameNow_of_keys (K.is a) (hk▸K.is b:IsKey d e.key)
  cases r with
  |true =>
   have:b=a:=(K.inj _ _ ((hiff.1 rfl).trans hk)).symm
   subst this
   exact .inr ⟨0,e,v,by simp[Instr.findNow,hr],rfl,hk,by simp[mget],hv⟩
  |false =>
   have hne:b≠a:=fun q=>by have:=hiff.2 (by rw[hk,q]);cases this
   rcases ih (i+1)with⟨h1,h2⟩|⟨j,e',v',h1,h2,h3,h4,h5⟩
   ·exact .inl ⟨by simp[Instr.findNow,hr,h1],by simp[mget,hne,h2]⟩
   ·exact .inr ⟨j+1,e',v',by simp[Instr.findNow,hr,h1];omega,by simpa using h2,h3,by simp[mget,hne,h4],h5⟩
theorem EntR.push [DecidableEq α]{φ:Nat→Loc}{L:Lens}{kf:α→Value}(a:α){x x':Value}(hx:Val φ L x x')(cl:Nat){l:List (α × Value)}{es:List MapEntry}(h:EntR φ L kf l es)(hn:mget l a=none):EntR φ L kf (mput l a x) (es++[⟨kf a,x',cl⟩]):=by
 induction h with
 |nil=>exact .cons rfl hx .nil
 |@cons b v e l es hk hv _ ih =>
  unfold mget at hn
  split at hn
  ·cases hn
  ·rename_i hne
   unfold mput
   rw[if_neg hne]
   exact .cons hk hv (ih hn)
theorem EntR.modify [DecidableEq α]{φ:Nat→Loc}{L:Lens}{kf:α→Value}{d:TypeDesc}(K:KeyF d kf)(a:α){x x':Value}(hx:Val φ L x x'){l:List (α × Value)}{es:List MapEntry}(h:EntR φ L kf l es) :
  ∀(j:Nat) (i:Nat) (y:Value),Instr.findNow d (kf a) es i=some (some (i+j,y))→EntR φ L kf (mput l a x) (es.modify j fun e=>{ e with key:=kf a,val:=x' }):=by
 induction h with
 |nil=>intro j i y hf;cases hf
 |@cons b v e l es hk hv hr' ih =>
  intro j i y hf
  obtain⟨r,hr,hiff⟩:=sameNow_of_keys (K.is a) (hk▸K.is b:IsKey d e.key)
  cases r with
  |true =>
   have:b=a:=(K.inj _ _ ((hiff.1 rfl).trans hk)).symm
   subst this
   simp only[Instr.findNow,hr,Option.some.injEq,Prod.mk.injEq]at hf
   obtain rfl:j=0:=by omega
   unfold mput
   rw[if_pos rfl]
   exact .cons rfl hx hr'
  |false =>
   have hne:b≠a:=fun q=>by have:=hiff.2 (by rw[hk,q]);cases this
   simp only[Instr.findNow,hr]at hf
   have hj:j≠0:=fun h0=>by
    subst h0
    rcases findNow_spec (K.is a) es (i+1) (hr'.keys K)with⟨h1,_⟩|⟨q,e',h1,_⟩
    ·rw[h1]at hf;cases hf
    ·rw[h1]at hf;simp only[Option.some.injEq,Prod.mk.injEq]at hf;omega
   obtain⟨j,rfl⟩:∃m,j=m+1:=⟨j-1,by omega⟩
   unfold mput
   rw[if_neg hne]
   exact .cons hk hv (ih j (i+1) y (by rw[hf];congr 3;omega))
end
section
variable {P:Program} {N:Fr} {o:Oper} {a:AF} {H:Heap} {α:Type}
theorem map_obj {B0:Nat}{w0:World}{φ:Nat→Loc}{w:World}(r:Rel B0 w0 φ H w){A:Nat}{kf:α→Value}{d:TypeDesc}(K:KeyF d kf){l:List (α × Value)}{ro:Bool}(hA:H[A]?=some (some ⟨mapC kf l,ro⟩))
  {u:Value} (hu:Val φ (lens H) (.map (some A)) u):u=.map (some (φ A).b)∧(φ A).mp=true∧(φ A).base=0∧∃es clock,w.heap[(φ A).b]?=some (.map es clock)∧EntR φ (lens H) kf l es.toList:=by
 cases hu with
 |map _ n q hL h =>
  obtain⟨o,c,h1,h2,h3,h4⟩:=(r.blk A _ hA).any
  refine⟨by rw[h.2],h.1,?_⟩
  cases h2 with
  |cells hm=>rw[h.1]at hm;cases hm
  |map hm hb hl =>
   refine⟨hb,_,_,h1,ent_of K ?_ fun i v hi=>?_⟩
   ·have:=mapC_len kf l;simp only at hl;simp;omega
   ·obtain⟨v',g1,g2⟩:=h4 i v hi
    rw[hb,Nat.zero_add]at g1
    exact⟨v',by simpa using g1,g2⟩
theorem e_makeMap (T:TypeId)(ho:o.op=.makeMap T none){A0:Nat}{H':Heap}(hpl:Place H A0 H' ⟨[],false⟩):AEff P N o a H (.map (some A0)) H':=by
 refine eff_value (fun B0 w0 φ w ac r hf=>?_)
 obtain⟨h1,h2⟩:=rel_newO (w':=w.alloc (.map #[] 0)) (l0:=⟨w.heap.size,0,0,true⟩) r hpl rfl rfl rfl rfl rfl rfl fun hext=>by
  refine⟨.map #[] 0,_,?_,.map (es:=#[]) (clock:=0) rfl rfl rfl,by simp,fun i v hi=>by simp at hi⟩
  exact(heap_alloc w _).1
 refine⟨_,.map (some w.heap.size),_,h1,h2,?_,?_⟩
 ·exact .map _ 0 _ hpl.lens (by rw[yK];exact⟨rfl,rfl⟩)
 ·unfold execOp
  simp only[ho,Option.map_none,Instr.makeMap,Sem.run_bind,Sem.run_pure,Result.andThen_ok]
  simp[run_newObj]
theorem a_lookup [DecidableEq α](T:TypeId)(x k:Operand){A K E s b:Nat}{d:TypeDesc}{kf:α→Value}{l:List (α × Value)}{ro:Bool}{z:Value}{c:α}(ho:o.op=.lookup T x k false)(hx:ev a x=some (.map (some A)))(hk:ev a k=some (kf c))
  (hA:H[A]?=some (some ⟨mapC kf l,ro⟩)) (hT:P.underlying T=some (.map K E)) (hK:P.underlying K=some d) (KF:KeyF d kf) (hI:tinf P E=some (some z,s,b)) (hz:yJ z=true):APure P N o a H ((mget l c).getD z):=by
 refine⟨fun B0 w0 φ w ac r hf=>?_⟩
 obtain⟨h1,_,_,es,cl,h2,h3⟩:=map_obj r KF hA (zW hf hx)
 have h4:=(zW hf hk).scalar (KF.sc c)
 rcases h3.find KF c 0 with⟨g1,g2⟩|⟨j,e,v,g1,g2,g3,g4,g5⟩
 ·refine⟨z,by rw[g2];exact Val.const hz,fun w1 hb=>?_⟩
  have h2':w1.heap[(φ A).b]?=some (.map es cl):=by rw[hb.block _ (r.lt hA)];exact h2
  unfold execOp
  simp only[ho,h1,h4,Instr.lookup,Sem.run_bind,run_underlying hT,Result.andThen_ok,MapKept.run_getObj_map h2',Sem.run_pure,run_checkKey hK (KF.is c),run_findKey hK g1,run_zeroValue hI,Bool.false_eq_true,if_false]
 ·refine⟨e.val,by rw[g4];exact g5,fun w1 hb=>?_⟩
  have h2':w1.heap[(φ A).b]?=some (.map es cl):=by rw[hb.block _ (r.lt hA)];exact h2
  unfold execOp
  simp only[ho,h1,h4,Instr.lookup,Sem.run_bind,run_underlying hT,Result.andThen_ok,MapKept.run_getObj_map h2',Sem.run_pure,run_checkKey hK (KF.is c),run_findKey hK g1,Bool.false_eq_true,if_false]
theorem e_mapUpdate [DecidableEq α](T:TypeId)(x k y:Operand){A K E:Nat}{d:TypeDesc}{kf:α→Value}{l:List (α × Value)}{c:α}{v:Value}(ho:o.op=.mapUpdate T x k y)(hx:ev a x=some (.map (some A)))(hk:ev a k=some (kf c))(hy:ev a y=some v)
  (hA:H[A]?=some (some ⟨mapC kf l,false⟩)) (hT:P.underlying T=some (.map K E)) (hK:P.underlying K=some d) (KF:KeyF d kf):AEff P N o a H undef (H.set A (some ⟨mapC kf (mput l c v),false⟩)):=by
 refine eff_unit (fun B0 w0 φ w ac r hf=>?_)
 obtain⟨h1,hmp,hbase,es,cl,h2,h3⟩:=map_obj r KF hA (zW hf hx)
 have h4:=(zW hf hk).scalar (KF.sc c)
 have h5:=zW hf hy
 generalize hvv:ac.eval y=v' at h5
 have hupd:upd φ A (φ A)=φ:=by funext B;unfold upd;split <;> simp_all
 have hlt:=r.lt hA
 have key:∀(es':Array MapEntry) (cl':Nat),EntR φ (lens H) kf (mput l c v) es'.toList →
   ∃φ',Ext φ (lens H) φ' (lens (H.set A (some ⟨mapC kf (mput l c v),false⟩)))∧Rel B0 w0 φ' (H.set A (some ⟨mapC kf (mput l c v),false⟩)) { w with heap:=w.heap.setIfInBounds (φ A).b (.map es' cl') }:=fun es' cl' he=>by
  obtain⟨g1,g2⟩:=rel_setO (w':={ w with heap:=w.heap.setIfInBounds (φ A).b (.map es' cl') }) (g':=⟨mapC kf (mput l c v),false⟩) (l':=φ A) r hA rfl rfl rfl rfl (by simp) (fun q _ hq=>(heap_set h2).2 q hq) (.inl rfl) hbase
   (by
    have h6:=mapC_len kf l
    have h7:=mapC_len kf (mput l c v)
    have h8:=mput_len l c v
    by_cases hn:mget l c=none
    ·rw[if_pos hn]at h8;exact .inr ⟨by simp only;omega,fun _=>rfl⟩
    ·rw[if_neg hn]at h8;exact .inl ⟨by simp only;omega,rfl⟩)
   (fun hext=>by
    rw[hupd]at hext ⊢
    have he':=he.mono hext
    refine⟨_,_,(heap_set h2).1,.map hmp hbase ?_,?_,fun i u hi=>?_⟩
    ·have h6:=mapC_len kf (mput l c v);have:=he.len;simp at this;(first|omega|(simp only;omega))
    ·have h6:=mapC_len kf (mput l c v);have:=he.len;rw[hbase];simp only[List.size_toArray,flat_len];(first|omega|(simp only;omega))
    ·obtain⟨u',k1,k2⟩:=he'.row KF i u hi
     exact⟨u',by rw[hbase,Nat.zero_add];simpa using k1,k2⟩)
  exact⟨_,g1,g2⟩
 rcases h3.find KF c 0 with⟨g1,g2⟩|⟨j,e,u,g1,g2,g3,g4,g5⟩
 ·obtain⟨φ',k1,k2⟩:=key (es.push { key:=kf c,val:=v',born:=cl }) (cl+1) (by simpa using h3.push c h5 cl g2)
  refine⟨φ',_,k1,k2,?_⟩
  unfold execOp
  simp only[ho,h1,h4,hvv,Instr.mapUpdate,Sem.run_bind,run_underlying hT,Result.andThen_ok,MapKept.run_getObj_map h2,Sem.run_pure,run_checkKey hK (KF.is c),run_findKey hK g1,MapKept.run_setObj_map _ h2]
 ·have hj:es[j]?=some e:=by simpa using g2
  rw[Nat.zero_add]at g1
  have g1':Instr.findNow d (kf c) es.toList 0=some (some (0+j,e.val)):=by rw[Nat.zero_add];exact g1
  obtain⟨φ',k1,k2⟩:=key (es.modify j fun e=>{ e with key:=kf c,val:=v' }) cl (by
   have:=h3.modify KF c h5 j 0 _ g1'
   simpa using this)
  refine⟨φ',_,k1,k2,?_⟩
  unfold execOp
  simp only[ho,h1,h4,hvv,Instr.mapUpdate,Sem.run_bind,run_underlying hT,Result.andThen_ok,MapKept.run_getObj_map h2,Sem.run_pure,run_checkKey hK (KF.is c),run_findKey hK g1,hj,Option.map_some,Option.getD_some,g3,run_keyThatStays (KF.is c),MapKept.run_setObj_map _ h2]
theorem a_slice3f (T:TypeId)(x hi mx:Operand){A off n len fl E s b:Nat}{z:Option Value}{j k:IntKind}{h:Int}(ho:o.op=.slice T x none (some hi) (some mx))(hx:ev a x=some (gsl A off n len fl))
  (hhi:ev a hi=some (.int j h)) (hmx:ev a mx=some (.int k h)) (hT:P.underlying T=some (.slice E)) (hI:tinf P E=some (z,s,b)) (h1:0≤h∧h≤len):APure P N o a H (.slice (some ⟨A,off,none⟩) h.toNat (n+1)):=by
 refine⟨fun B0 w0 φ w ac r hf=>?_⟩
 have hu:=zW hf hx
 have e2:=(zW hf hhi).scalar rfl
 have e3:=(zW hf hmx).scalar rfl
 generalize hv:ac.eval x=u at hu
 cases hu with
 |slc _ _ _ m _ _ cap c hL hle hc hm hh =>
  refine⟨.slice (some c) h.toNat h.toNat,.full _ _ _ m _ _ hL hle (by omega) (fun e=>⟨(hh e).1,(hh e).2.2⟩),fun w _=>?_⟩
  unfold execOp
  simp only[ho,hv,e2,e3,Instr.sliceAt,Instr.slice,Option.map_some,Option.map_none,Sem.run_bind,run_underlying hT,Result.andThen_ok,Instr.sliceBounds,Instr.sliceBound,asIntOf,Sem.run_pure,
   Sem.run_ite,if_pos (show 0≤h∧h≤(cap:Int)from⟨by omega,by omega⟩),if_pos (show 0≤h∧h≤(h.toNat:Int)from⟨by omega,by omega⟩),run_sizeOf hI,Nat.zero_mul]
  simp[Addr.add]
theorem a_slice3 (T:TypeId)(x lo hi mx:Operand){A off n len fl E s b:Nat}{z:Option Value}{i' j k:IntKind}{i h:Int}(ho:o.op=.slice T x (some lo) (some hi) (some mx))(hx:ev a x=some (gsl A off n len fl))
  (hlo:ev a lo=some (.int i' i)) (hhi:ev a hi=some (.int j h)) (hmx:ev a mx=some (.int k h)) (hT:P.underlying T=some (.slice E)) (hI:tinf P E=some (z,s,b)) (h1:0≤i∧i≤h∧h≤len) (h2:i<h):APure P N o a H (gsl A (off+i.toNat*s) n (h-i).toNat 0):=by
 refine⟨fun B0 w0 φ w ac r hf=>?_⟩
 have hu:=zW hf hx
 have e1:=(zW hf hlo).scalar rfl
 have e2:=(zW hf hhi).scalar rfl
 have e3:=(zW hf hmx).scalar rfl
 generalize hv:ac.eval x=u at hu
 cases hu with
 |slc _ _ _ m _ _ cap c hL hle hc hm hh =>
  refine⟨.slice (some (c.add (i.toNat*s))) (h.toNat-i.toNat) (h.toNat-i.toNat),?_,fun w _=>?_⟩
  ·rw[show h.toNat-i.toNat=(h-i).toNat from by omega]
   exact .slc _ _ _ m _ _ _ _ hL hle (by omega) (by omega) (fun e=>⟨by rw[(hh e).1,addr_add,Nat.add_assoc],fun q=>absurd rfl q,(hh e).2.2⟩)
  ·unfold execOp
   simp only[ho,hv,e1,e2,e3,Instr.sliceAt,Instr.slice,Option.map_some,Sem.run_bind,run_underlying hT,Result.andThen_ok,Instr.sliceBounds,Instr.sliceBound,asIntOf,Sem.run_pure,
    Sem.run_ite,if_pos (show 0≤h∧h≤(cap:Int)from⟨by omega,by omega⟩),if_pos (show 0≤h∧h≤(h.toNat:Int)from⟨by omega,by omega⟩),if_pos (show 0≤i∧i≤(h.toNat:Int)from⟨by omega,by omega⟩),run_sizeOf hI]
   rw[if_neg (by omega)]
end
section
variable {P:Program} {tt:TT} {sz:Nat} {ops:Array Oper} {Q:SPost} {rest:List Oper} {a:AF} {h h' h1 h2:SH} {m:Mode} {t:Nat} {op:Op} {ty:TypeId} {pos:String} {aft:Array Edge} {p:Prop} {v:Value} {α:Type}
theorem o_makeMap {T:Nat}(hN:Nat.blt t sz=true)(k:∀A,GO (m.nw h (A,⟨[],false⟩)) P sz ops Q rest ((t,.map (some A))::a) ((A,⟨[],false⟩)::h)):GO m P sz ops Q (⟨some t,.makeMap T none,ty,pos,aft,none⟩::rest) a h :=
 o_new (v:=fun A=>.map (some A)) hN (fun _ _ _ _ _ hpl _=>e_makeMap T rfl hpl) k
theorem o_lookup [DecidableEq α]{T:Nat}{x y:Operand}{A K E s b:Nat}{tk:TK}{d:TypeDesc}{kf:α→Value}{l:List (α × Value)}{ro:Bool}{z:Value}{c:α}(ht:tt.Ok P)(hx:ev a x=some (.map (some A)))(hp:Pick h A ⟨mapC kf l,ro⟩ h1)(hk:ev a y=some (kf c))
  (hT:P.underlying T=some (.map K E)) (hK:P.underlying K=some d) (KF:KeyF d kf) (hE:tt.get E=some ⟨tk,s,b,some z⟩) (hz:yJ z=true) (hr:(mget l c).getD z=v) (hN:Nat.blt t sz=true)
  (k:GO .seq P sz ops Q rest ((t,v)::a) h):GO .seq P sz ops Q (⟨some t,.lookup T x y false,ty,pos,aft,none⟩::rest) a h:=by
 obtain⟨_,hI,hz'⟩:=te_inf (TT.get_ok ht hE)
 subst hr
 exact o_read (m:=.seq) (fun h'=>∃h1,Pick h' A ⟨mapC kf l,ro⟩ h1) ⟨_,hp⟩ (fun _ _ _ _ _ i ⟨_,hp⟩ hag=>a_lookup T x y rfl ((hag.ev (by simp[Op.operands,Call.operands])).trans hx) ((hag.ev (by simp[Op.operands,Call.operands])).trans hk) (i.look hp) hT hK KF (hz' _ rfl▸hI) hz) hN trivial k
theorem o_mapUpdate [DecidableEq α]{T:Nat}{x y z:Operand}{A K E:Nat}{d:TypeDesc}{kf:α→Value}{l:List (α × Value)}{c:α}(hx:ev a x=some (.map (some A)))(hu:Upd h A ⟨mapC kf l,false⟩ ⟨mapC kf (mput l c v),false⟩ h')(hk:ev a y=some (kf c))(hv:ev a z=some v)
  (hT:P.underlying T=some (.map K E)) (hK:P.underlying K=some d) (KF:KeyF d kf) (k:GO .seq P sz ops Q rest a h'):GO .seq P sz ops Q (⟨none,.mapUpdate T x y z,ty,pos,aft,none⟩::rest) a h :=
 o_upd (m:=.seq) rfl hu (fun _ _ _ hA hag=>e_mapUpdate T x y z rfl ((hag.ev (by simp[Op.operands,Call.operands])).trans hx) ((hag.ev (by simp[Op.operands,Call.operands])).trans hk) ((hag.ev (by simp[Op.operands,Call.operands])).trans hv) hA hT hK KF) trivial k
theorem o_slice3f {T:Nat}{x y z:Operand}{A off n len fl E s1 b1:Nat}{z1:Option Value}{j kk:IntKind}{i:Int}{e:TE}(ht:tt.Ok P)(hx:ev a x=some (gsl A off n len fl))(hy:ev a y=some (.int j i))(hz:ev a z=some (.int kk i))(hT:tt.get T=some ⟨.slice E,s1,b1,z1⟩)(hE:tt.get E=some e)
  (hi:Sd (0≤i∧i≤len)) (hN:Nat.blt t sz=true) (k:GO m.next P sz ops Q rest ((t,.slice (some ⟨A,off,none⟩) i.toNat (n+1))::a) h):GO m P sz ops Q (⟨some t,.slice T x none (some y) (some z),ty,pos,aft,none⟩::rest) a h :=
 o_pure (fun _ _ _ hag=>let ⟨_,hI,_⟩:=te_inf (TT.get_ok ht hE);a_slice3f T x y z rfl ((hag.ev (by simp[Op.operands,Call.operands])).trans hx) ((hag.ev (by simp[Op.operands,Call.operands])).trans hy) ((hag.ev (by simp[Op.operands,Call.operands])).trans hz) (te_slice (TT.get_ok ht hT) rfl) hI hi.1) hN k
theorem o_slice3 {T:Nat}{x w y z:Operand}{A off n len fl E s1 b1 s b:Nat}{z1 z2:Option Value}{i' j kk:IntKind}{lo i:Int}{tk:TK}(ht:tt.Ok P)(hx:ev a x=some (gsl A off n len fl))(hw:ev a w=some (.int i' lo))(hy:ev a y=some (.int j i))(hz:ev a z=some (.int kk i))(hT:tt.get T=some ⟨.slice E,s1,b1,z1⟩)(hE:tt.get E=some ⟨tk,s,b,z2⟩)
  (hi:Sd ((0≤lo∧lo≤i∧i≤len)∧lo<i)) (hN:Nat.blt t sz=true) (k:GO m.next P sz ops Q rest ((t,gsl A (off+lo.toNat*s) n (i-lo).toNat 0)::a) h):GO m P sz ops Q (⟨some t,.slice T x (some w) (some y) (some z),ty,pos,aft,none⟩::rest) a h :=
 o_pure (fun _ _ _ hag=>let ⟨_,hI,_⟩:=te_inf (TT.get_ok ht hE);a_slice3 T x w y z rfl ((hag.ev (by simp[Op.operands,Call.operands])).trans hx) ((hag.ev (by simp[Op.operands,Call.operands])).trans hw) ((hag.ev (by simp[Op.operands,Call.operands])).trans hy) ((hag.ev (by simp[Op.operands,Call.operands])).trans hz) (te_slice (TT.get_ok ht hT) rfl) hI hi.1.1 hi.1.2) hN k
end
end Go.Gh
end
section
set_option maxRecDepth 4000
namespace Go.Proofs.YteddogfolceahaaGreat
open Go.Gh Go.RowKit

def key2 (l:List UInt8)(i:Nat):List UInt8:=(l.take (i+2)).drop i
theorem lcp_key {l:List UInt8}{i j m:Nat}(hi:i+2≤l.length)(hj:j<i)(h:2≤lcp l j i m):key2 l j=key2 l i:=by
 have hb:∀a b:Nat,a<l.length→b<l.length→bat l (a:Int)=bat l (b:Int)→l[a]?=l[b]?:=fun a b ha hb e=>by
  unfold bat at e
  rw[Int.toNat_natCast,Int.toNat_natCast,List.getD_eq_getElem?_getD,List.getD_eq_getElem?_getD,List.getElem?_eq_getElem ha,List.getElem?_eq_getElem hb]at e
  rw[List.getElem?_eq_getElem ha,List.getElem?_eq_getElem hb]
  simp only[Option.getD_some]at e
  congr 1
  exact UInt8.toNat_inj.1 (by omega)
 cases m with
 |zero=>unfold lcp at h;omega
 |succ m =>
  unfold lcp at h
  split at h
  ·rename_i e0
   cases m with
   |zero=>unfold lcp at h;omega
   |succ m =>
    unfold lcp at h
    split at h
    ·rename_i e1
     refine List.ext_getElem? fun q=>?_
     unfold key2
     rw[List.getElem?_drop,List.getElem?_drop,List.getElem?_take,List.getElem?_take]
     match q with
     |0=>rw[if_pos (by omega),if_pos (by omega)];exact hb _ _ (by omega) (by omega) e0
     |1=>rw[if_pos (by omega),if_pos (by omega)];exact hb _ _ (by omega) (by omega) e1
     |q+2=>rw[if_neg (by omega),if_neg (by omega)]
    ·omega
  ·omega
theorem brun_stop {l:List UInt8}{i:Nat}{w:Int}{m n:Nat}{s:BS}(h:¬bgo i w m n s):∀{js:List Nat},(∀j∈js,j≤n)→brun l i w m js s=s
 |[],_=>rfl
 |j::r,hj=>by
  have h1:¬bgo i w m j s:=by
   have:=hj j List.mem_cons_self
   unfold bgo at *
   omega
  unfold brun
  rw[if_neg h1]
theorem down_mem :∀{n j:Nat},j∈down n↔j<n
 |0,j=>by simp[down]
 |n+1,j=>by rw[down,List.mem_cons,down_mem];omega
theorem brun_filter {l:List UInt8}{i:Nat}{w:Int}{m:Nat}{p:Nat→Bool}:∀{n:Nat} {s:BS},1≤s.1→(∀j,j<n→p j=false→lcp l j i m≤1)→brun l i w m ((down n).filter p) s=brun l i w m (down n) s
 |0,s,_,_=>rfl
 |n+1,s,h1,h2=>by
  have hup:1≤(bup l i m n s).1:=by
   unfold bup
   split
   ·dsimp only;omega
   ·exact h1
  rw[down]
  cases hp:p n with
  |true =>
   rw[List.filter_cons_of_pos (by simp[hp])]
   unfold brun
   split
   ·exact brun_filter hup (fun j hj=>h2 j (by omega))
   ·rfl
  |false =>
   rw[List.filter_cons_of_neg (by simp[hp]),brun_filter h1 (fun j hj=>h2 j (by omega))]
   have hl:=h2 n (by omega) hp
   have hb:bup l i m n s=s:=by unfold bup;rw[if_neg (by omega)]
   conv=>rhs;unfold brun
   split
   ·rw[hb]
   ·rename_i hg
    exact brun_stop hg fun j hj=>by have:=down_mem.1 hj;omega
theorem bfind_key {l:List UInt8}{i:Nat}{w m:Int}(hi:i+2≤l.length):bfind l i w m ((down i).filter fun p=>decide (key2 l p=key2 l i))=bfind l i w m (down i):=by
 unfold bfind
 rw[brun_filter (Nat.le_refl _)]
 intro j hj hp
 have:¬key2 l j=key2 l i:=by simpa using hp
 have:=mt (lcp_key (m:=(min m ((l.length:Int)-i)).toNat) hi hj) this
 omega
abbrev Ks :=List (List UInt8 × Nat × List Nat)
abbrev psV (A:Nat)(ps:List Nat):Value:=gsl A 0 ps.length ps.length 1
abbrev psB (ps:List Nat):Blk:=⟨ps.map (fun p:Nat=>I (p:Int)),false⟩
def kv (e:List UInt8 × Nat × List Nat):List UInt8 × Value:=(e.1,psV e.2.1 e.2.2)
def kb2 (ks:Ks):SH:=ks.map fun e=>(e.2.1,psB e.2.2)
def posOf :Ks→List UInt8→List Nat
 |[],_=>[]
 |e::r,k=>if e.1=k then e.2.2 else posOf r k
theorem ks_find :∀(ks:Ks) (k:List UInt8),(mget (ks.map kv) k=none∧posOf ks k=[]∧(∀x,mput (ks.map kv) k x=ks.map kv++[(k,x)])∧∀A ps k',posOf (ks++[(k,A,ps)]) k'=if k'=k then ps else posOf ks k') ∨
  ∃k1 A ps k2,ks=k1++(k,A,ps)::k2∧mget (ks.map kv) k=some (psV A ps)∧posOf ks k=ps∧(∀x,mput (ks.map kv) k x=k1.map kv++(k,x)::k2.map kv)∧∀A' ps' k',posOf (k1++(k,A',ps')::k2) k'=if k'=k then ps' else posOf ks k'
 |[],k=>.inl ⟨rfl,rfl,fun _=>rfl,fun A ps k'=>by
   show(if k=k' then ps else [])=if k'=k then ps else []
   by_cases e:k'=k
   ·rw[if_pos e,if_pos e.symm]
   ·rw[if_neg e,if_neg (Ne.symm e)]⟩
 |(b,A,ps)::r,k=>by
  by_cases e:b=k
  ·subst e
   refine .inr ⟨[],A,ps,r,rfl,by simp[mget,kv],by simp[posOf],fun x=>by simp[mput,kv],fun A' ps' k'=>?_⟩
   show(if b=k' then ps' else posOf r k')=if k'=b then ps' else(if b=k' then ps else posOf r k')
   by_cases e:k'=b
   ·rw[if_pos e,if_pos e.symm]
   ·rw[if_neg e,if_neg (Ne.symm e),if_neg (Ne.symm e)]
  ·rcases ks_find r k with⟨h1,h2,h3,h4⟩|⟨k1,A',ps',k2,h1,h2,h3,h4,h5⟩
   ·refine .inl ⟨by simp[mget,kv,e];exact h1,by simp[posOf,e,h2],fun x=>by simp[mput,kv,e];exact h3 x,fun A' ps' k'=>?_⟩
    show(if b=k' then ps else posOf (r++[(k,A',ps')]) k')=if k'=k then ps' else(if b=k' then ps else posOf r k')
    rw[h4]
    by_cases e2:b=k'
    ·subst e2;rw[if_pos rfl,if_neg e,if_pos rfl]
    ·rw[if_neg e2,if_neg e2]
   ·refine .inr ⟨(b,A,ps)::k1,A',ps',k2,by rw[h1];rfl,by simp[mget,kv,e];exact h2,by simp[posOf,e,h3],fun x=>by simp[mput,kv,e];exact h4 x,fun A2 ps2 k'=>?_⟩
    show(if b=k' then ps else posOf (k1++(k,A2,ps2)::k2) k')=if k'=k then ps2 else(if b=k' then ps else posOf r k')
    rw[h5]
    by_cases e2:b=k'
    ·subst e2;rw[if_pos rfl,if_neg e,if_pos rfl]
    ·rw[if_neg e2,if_neg e2]
def KsOk (l:List UInt8)(i:Nat)(ks:Ks):Prop:=∀k,posOf ks k=(List.range i).filter fun p=>decide (key2 l p=k)
theorem range_succ_filter (p:Nat→Bool)(i:Nat):(List.range (i+1)).filter p=(List.range i).filter p++if p i then [i] else []:=by
 rw[List.range_succ,List.filter_append]
 congr 1
 by_cases h:p i <;> simp[h]
theorem range_rev :∀n:Nat,(List.range n).reverse=down n
 |0=>rfl
 |n+1=>by rw[List.range_succ,List.reverse_append,range_rev n];rfl
def tbl (l:List UInt8)(w m:Int):List (Int × Int):=(List.range l.length).map fun i=>lastc (cands l (i:Nat) w m)
theorem tbl_len (l:List UInt8)(w m:Int):(tbl l w m).length=l.length:=by simp[tbl]
theorem cands_end {l:List UInt8}{i:Nat}{w m:Int}(hi:l.length<i+2):cands l i w m=[]:=by
 rw[cands_eq]
 unfold rcands
 split
 ·rename_i hv
  cases hr:(rc l i m (min w (i:Int)).toNat).1 with
  |nil=>rfl
  |cons a r =>
   obtain⟨d,h1,h2,h3,h4,_⟩:=rc_mem l i m (by omega) _ a (by rw[hr];exact List.mem_cons_self)
   have:=atd_eq l i d m h1 (by omega) (by omega) (by omega)
   have h5:=lcp_le l (min m ((l.length:Int)-i)).toNat (i-d) i
   rw[h3]at h4;dsimp only at h4
   split at this <;> omega
 ·rfl
theorem tbl_get {l:List UInt8}{w m:Int}{i:Nat}(h:i<l.length):(tbl l w m)[i]! = lastc (rcands l (i:Nat) w m):=by
 rw[getElem!_pos _ i (by rw[tbl_len];exact h)]
 unfold tbl
 rw[List.getElem_map,List.getElem_range,cands_eq]
abbrev BF (n5 n6 n7 n8 n11 n12:Nat):Value:=.func (.func 110) ⟨[]⟩ ⟨[gptr n6 0 1,gptr n7 0 1,gptr n12 0 1,gptr n8 0 1,gptr n5 0 1,gptr n11 0 1]⟩
theorem Table1_any (l:List UInt8)(i:Nat)(w:Int)(m n5 n6 n7 n8 n11 n12 n:Nat)(v:Value)(ps:List Nat)(h:SH)(s:BS)(p:SH)(hv:Has h (ps.map fun p:Nat=>I (p:Int)) 1 ps.length v)(hb:BH l i w m n5 n6 n7 n8 n11 n12 ((n,⟨[v],false⟩)::h) s p)
  (h5:l.length≤4096) (hi:i≤4096) (him:i+m≤l.length) (hs:s.2.length=0) (hw:-4611686018427387904≤w) (hps:∀p∈ps,p<i) (hpl:ps.length≤i) :
  SRun Tryz.prog 70 [BF n5 n6 n7 n8 n11 n12,gptr n 0 1] p
   fun r q=>BH l i w m n5 n6 n7 n8 n11 n12 ((n,⟨[v],false⟩)::h) (brun l i w m ps.reverse s) q:=by
 obtain⟨ad,fl,rfl,hh⟩:=hv
 refine zY Tryz.func70 rfl rfl ?_
 obtain⟨p1,hp1⟩:=hb.pick Pick.head
 repeat'(first|apply zF|apply zB|apply zE|(apply o_g zC;exact rfl;exact rfl)|(apply o_ar zC;exact rfl;exact rfl)|(apply zM zC;(iterate 3 exact rfl);(focus exact pk))|apply zA|apply zH|((with_reducible apply Sd.mk);first|exact True.intro)|((with_reducible apply Ln.mk);first|rfl)|((with_reducible apply Wr.mk);first|exact IntWalk.i64_in _ (by omega))|((with_reducible apply Ce.mk);first|rfl)|exact True.intro|exact rfl)
 refine zZ (S:=Nat × BS × SH) (fun x=>[(0,BF n5 n6 n7 n8 n11 n12),(1,gptr n 0 1),(3,I (x.1-1))]) (fun x=>x.2.2)
  (fun x=>x.1≤ps.length∧BH l i w m n5 n6 n7 n8 n11 n12 ((n,⟨[.slice ad ps.length fl],false⟩)::h) x.2.1 x.2.2∧brun l i w m ps.reverse s=brun l i w m (ps.take x.1).reverse x.2.1∧x.2.1.2.length+x.1≤4096) (fun x=>x.1) (ps.length,s,p)
  ⟨Nat.le_refl _,hb,by rw[List.take_length],by show s.2.length+ps.length≤_;omega⟩ (by repeat'(first|exact trivial|refine⟨rfl,?_⟩|refine⟨congrArg some ?_,?_⟩)) (by repeat with_reducible first|exact Take.nil|apply Take.c|apply Take.drop) ?_
 rintro⟨k,s1,p2⟩ ⟨hk,hb1,he,hl⟩
 dsimp only at hk hb1 he hl ⊢
 cases k with
 |zero =>
  repeat'(first|apply zF|apply zB|apply zE|(apply o_g zC;exact rfl;exact rfl)|(apply yF;iterate 4 exact rfl)|(apply zS;exact rfl)|apply zA|apply zK|apply zJ|apply zV|((with_reducible apply Sd.mk);first|exact True.intro))
  (apply s_finN;(exact(show ResS _ _ _ _ [] from trivial));(focus rw[he];exact hb1);(focus repeat with_reducible first|exact Take.nil|apply Take.c|apply Take.drop))
 |succ q =>
  rw[show((q+1:Nat):Int)-1=(q:Int)by omega]
  have hql:q<ps.length:=by omega
  have hpq:=hps ps[q]! (by rw[getElem!_pos ps q hql];exact List.getElem_mem hql)
  have e1:(ps.take (q+1)).reverse=ps[q]!::(ps.take q).reverse:=by rw[List.take_succ_eq_append_getElem hql,getElem!_pos ps q hql,List.reverse_append];rfl
  obtain⟨A',ro,h1,rfl,hp⟩:=hh (by omega)
  obtain⟨p3,hp3⟩:=hb1.pick Pick.head
  obtain⟨p4,hp4⟩:=hb1.pick hp.tail
  repeat'(first|apply zF|apply zB|apply zE|(apply o_g zC;exact rfl;exact rfl)|(apply o_ar zC;exact rfl;exact rfl)|(apply zM zC;(iterate 3 exact rfl);(focus exact pk))|(apply zD;exact rfl;exact rfl;(focus first|exact rfl);exact rfl;(focus exact⟨_,better1_any l i w m n5 n6 n7 n8 n11 n12 ps[q]! _ s1 p2 hb1 h5 (by omega) him (by omega) hw,by repeat with_reducible exact Take.nil⟩);rintro _ _ ⟨rfl,hb2⟩)|(apply zU;exact rfl;exact rfl)|(apply w_ifN;exact rfl;all_goals intro hc)|apply zA|apply zK|apply zG|apply zJ|apply zI|apply zV|apply zH|((with_reducible apply Sd.mk);first|exact True.intro|omega)|((with_reducible apply Ln.mk);first|rfl|(simp ;first|done|omega))|((with_reducible apply Wr.mk);first|exact IntWalk.i64_in _ (by omega))|((with_reducible apply Ce.mk);first|rfl|exact yM (by omega))|exact True.intro|exact rfl)
  ·have hg:bgo i w m ps[q]! s1:=hc
   refine⟨(q,bup l i m ps[q]! s1,_),⟨by show q≤ps.length;omega,by rw[←show nbst l i w m ps[q]! s1=bup l i m ps[q]! s1 from if_pos hg];exact hb2,?_,?_⟩,by show q<q+1;omega,(by repeat'(first|exact trivial|refine⟨rfl,?_⟩|refine⟨congrArg some ?_,?_⟩)),(by repeat with_reducible first|exact Take.nil|apply Take.c|apply Take.drop)⟩
   ·rw[he,e1];exact if_pos hg
   ·have h2:(bup l i m ps[q]! s1).2.length≤s1.2.length+1:=by unfold bup;split <;> simp
    show(bup l i m ps[q]! s1).2.length+q≤4096;omega
  ·have hg:¬bgo i w m ps[q]! s1:=fun h=>h hc
   (apply s_finN;(exact(show ResS _ _ _ _ [] from trivial));(focus rw[he,e1,show brun l i w m (ps[q]!::(ps.take q).reverse) s1=s1 from if_neg hg,←bst_stop hg];exact hb2);(focus repeat with_reducible first|exact Take.nil|apply Take.c|apply Take.drop))
def tblTo (l:List UInt8)(w m:Int)(i:Nat):List (Int × Int):=(List.range l.length).map fun j=>if j<i then lastc (cands l (j:Nat) w m)else(0,0)
theorem tblTo_len (l:List UInt8)(w m:Int)(i:Nat):(tblTo l w m i).length=l.length:=by simp[tblTo]
theorem tblTo_all {l:List UInt8}{w m:Int}{i:Nat}(h:l.length<i+2):tblTo l w m i=tbl l w m:=by
 unfold tblTo tbl
 refine List.map_congr_left fun j hj=>?_
 split
 ·rfl
 ·rw[cands_end (by omega)];rfl
theorem tblTo_succ {l:List UInt8}{w m:Int}{i:Nat}(h:i<l.length):tblTo l w m (i+1)=(tblTo l w m i).set i (lastc (cands l (i:Nat) w m)):=by
 refine List.ext_getElem? fun j=>?_
 rw[List.getElem?_set]
 unfold tblTo
 simp only[List.getElem?_map,List.getElem?_range',List.length_map,List.length_range]
 by_cases hj:j<l.length
 ·rw[List.getElem?_range hj]
  simp only[Option.map_some]
  by_cases e:i=j
  ·subst e;rw[if_pos rfl,if_pos h,if_pos (by omega)]
  ·rw[if_neg e]
   by_cases e2:j<i
   ·rw[if_pos (by omega),if_pos e2]
   ·rw[if_neg (by omega),if_neg e2]
 ·rw[if_neg (by omega),List.getElem?_eq_none (by simp;omega)];rfl
theorem take_front {x:Nat × Blk}:∀(k r:SH),Take (k++x::r) (x::(k++r))
 |[],_=>.nil
 |y::k,r=>.trans (.cons (A:=y.1) (b:=y.2) .head (take_front k r)) (.cons (A:=x.1) (b:=x.2) (.tail .head) .nil)
theorem take_back {x:Nat × Blk}:∀(k r:SH),Take (x::(k++r)) (k++x::r)
 |[],_=>.nil
 |y::k,r=>.cons (A:=y.1) (b:=y.2) (.tail .head) (take_back k r)
abbrev kS :List UInt8→Value:=fun l=>S l
theorem Table_any (l:List UInt8)(w m:Int)(h:SH)(hl:l.length≤4611686018427387904) :
  SRun Tryz.prog 37 [S l,I w,I m] h fun r q=>(vld w m∧l.length≤4096∧∃A,r=.tuple #[cpS A (tbl l w m),I 0]∧q=(A,cpB (tbl l w m) false)::h)∨(¬(vld w m∧l.length≤4096)∧r=.tuple #[.slice none 0 0,I (if vld w m then 9 else 1)]∧q=h):=by
 by_cases hv:vld w m
 ·by_cases hn:l.length≤4096
  ·refine w_body3 Tryz.func37 rfl rfl ?_
   have hzr:zrow (.agg ⟨[I 0,I 0]⟩) (((l.length:Int)).toNat*2)=recs cpF (tblTo l w m 0):=by
    rw[Int.toNat_natCast,show tblTo l w m 0=List.replicate l.length ((0:Int),(0:Int))from List.ext_getElem (by simp[tblTo]) fun j h1 h2=>by simp[tblTo]]
    exact recs_zrow (f:=cpF) (w:=2) (fun _=>rfl) (show 0<2 by omega) (0,0) rfl _
   repeat'((fail_if_success (show SWp _ _ (Code.seq (Code.region 6 _ _) _) _ _ _));(fail_if_success (show SWp _ _ (Code.region 6 _ _) _ _ _));first|apply zF|apply zB|apply zE|(apply o_g zC;exact rfl;exact rfl)|(apply o_not;exact rfl;exact rfl)|(apply o_makeSlice zC;(iterate 6 exact rfl);(focus decide);(focus first|omega);(focus first|exact hzr);exact rfl)|(apply zD;exact rfl;exact rfl;(focus first|exact rfl);exact rfl;(focus exact⟨_,valid_any w m _,by repeat with_reducible exact Take.nil⟩);rintro _ _ ⟨rfl,rfl⟩)|(apply yD;exact rfl;(focus first|omega))|apply zA|apply zI|((with_reducible apply Sd.mk);first|exact True.intro)|intro A)
   rename_i h
   obtain⟨AT,rfl⟩:∃AT,AT=A:=⟨_,rfl⟩
   repeat'(first|apply zF|apply zB|apply zE|(apply o_g zC;exact rfl;exact rfl)|(apply o_makeMap;exact rfl)|apply zA|apply zH|((with_reducible apply Sd.mk);first|exact True.intro)|intro A)
   obtain⟨M,rfl⟩:∃M,M=A:=⟨_,rfl⟩
   rw[show gsl AT 0 (((l.length:Int)).toNat*2) ((l.length:Int)).toNat 2=gsl AT 0 (l.length*2) l.length 2 from gslE rfl rfl (by omega) (by omega) rfl]
   refine zZ (S:=Nat × Ks) (fun x=>[(0,S l),(1,I w),(2,I m),(8,gsl AT 0 (l.length*2) l.length 2),(9,.map (some M)),(26,I l.length),(27,I x.1)])
    (fun x=>(M,⟨mapC kS (x.2.map kv),false⟩)::(AT,⟨recs cpF (tblTo l w m x.1),false⟩)::(kb2 x.2++h)) (fun x=>x.1≤l.length∧KsOk l x.1 x.2) (fun x=>l.length-x.1) (0,[]) ⟨Nat.zero_le _,fun k=>rfl⟩ (by repeat'(first|exact trivial|refine⟨rfl,?_⟩|refine⟨congrArg some ?_,?_⟩)) (by show Take _ (_::_::h);exact(by repeat(first|with_reducible exact Take.nil|with_reducible apply Take.c|((with_reducible apply Take.cE);first|exact rfl|(apply blkE;(focus first|exact rfl|exact yI rfl|exact yO rfl|exact congrArg (fun v=>[v]) (gslE rfl rfl (by first|rfl|exact ‹_›|omega|(simp ;first|done|omega)) (by first|rfl|exact ‹_›|omega|(simp ;first|done|omega)) rfl))))|with_reducible apply Take.drop))) ?_
   rintro⟨i,ks⟩ ⟨hi,hks⟩
   dsimp only at hi hks ⊢
   have hTl:=tblTo_len l w m i
   by_cases hil:i+2≤l.length
   ·repeat'((fail_if_success (show SWp _ _ (Code.seq (Code.region 12 _ _) _) _ _ _));(fail_if_success (show SWp _ _ (Code.region 12 _ _) _ _ _));first|apply zF|apply zB|apply zE|(apply o_g zC;exact rfl;exact rfl)|(apply o_ar zC;exact rfl;exact rfl)|(apply yC;exact rfl;(focus first|omega))|(apply yD;exact rfl;(focus first|omega))|apply zA|apply zI|apply zH|((with_reducible apply Sd.mk);first|exact True.intro|omega)|((with_reducible apply Wr.mk);first|exact IntWalk.i64_in _ (by omega)))
    have hkey:((l.take ((i:Int)+2).toNat).drop ((i:Int)).toNat)=key2 l i:=by unfold key2;rw[Int.toNat_natCast,show((i:Int)+2).toNat=i+2 by omega]
    rw[hkey]
    have hcl:=cands_le l i w m
    have hcs:bfind l i w m (posOf ks (key2 l i)).reverse=cands l i w m:=by
     rw[hks,←List.filter_reverse,range_rev,bfind_key hil]
     unfold cands
     rw[if_pos ⟨hv,by omega,by omega,hn⟩,Int.toNat_natCast]
    have hps:∀p∈posOf ks (key2 l i),p<i:=fun p hp=>by rw[hks]at hp;exact List.mem_range.1 (List.mem_filter.1 hp).1
    have hpl:(posOf ks (key2 l i)).length≤i:=by rw[hks];have:=List.length_filter_le (fun p=>decide (key2 l p=key2 l i)) (List.range i);simpa using this
    have hnew:∀ks':Ks,(∀k',posOf ks' k'=if k'=key2 l i then posOf ks (key2 l i)++[i] else posOf ks k')→KsOk l (i+1) ks':=fun ks' hp k'=>by
     rw[hp,range_succ_filter]
     by_cases e:k'=key2 l i
     ·subst e;rw[if_pos rfl,hks];simp
     ·rw[if_neg e,hks];simp[Ne.symm e]
    have hT1:(cands l i w m).length≠0→tblTo l w m (i+1)=(tblTo l w m i).set i (cands l i w m)[(((cands l i w m).length:Int)-1).toNat]!:=fun h0=>by
     rw[tblTo_succ (by omega),show(((cands l i w m).length:Int)-1).toNat=(cands l i w m).length-1 by omega,lastc_get h0]
    have hT0:(cands l i w m).length=0→tblTo l w m (i+1)=tblTo l w m i:=fun h0=>by
     rw[tblTo_succ (by omega),List.length_eq_zero_iff.1 h0]
     refine List.ext_getElem? fun j=>?_
     rw[List.getElem?_set]
     by_cases e:i=j
     ·subst e
      rw[if_pos rfl,if_pos (by omega)]
      unfold tblTo
      rw[List.getElem?_map,List.getElem?_range (by omega)]
      simp[lastc]
     ·rw[if_neg e]
    rcases ks_find ks (key2 l i)with⟨f1,f2,f3,f4⟩|⟨k1,AK,ps,k2,f0,f1,f2,f3,f4⟩
    ·have hlk:(mget (ks.map kv) (key2 l i)).getD (.slice none 0 0)=.slice none 0 0:=by rw[f1];rfl
     rw[f2]at hcs hnew
     obtain⟨R,hR⟩:∃R,R=kb2 ks++h:=⟨_,rfl⟩
     rw[←hR]
     repeat'(first|apply zF|apply zB|apply zE|(apply o_g zC;exact rfl;exact rfl)|(apply zX zC;(iterate 4 exact rfl);(focus exact up))|(apply yG zC;iterate 5 exact rfl)|(apply o_makeFunc;iterate 3 exact rfl)|(apply o_lookup (α:=List UInt8) zC;exact rfl;(focus exact pk);exact rfl;(focus exact Tryz.underlying132);(focus exact Tryz.underlying9);(focus exact keyS);exact rfl;exact rfl;(focus first|exact hlk))|(apply zD;exact rfl;exact rfl;(focus first|exact rfl);exact rfl;(focus exact⟨_,better_any l i w m ([]:List Nat).reverse _ _ _ (by omega) (by omega) (by omega) (by omega) rfl (fun n5 n6 n7 n8 n11 n12 p hb=>Table1_any l i w _ n5 n6 n7 n8 n11 n12 _ (.slice none 0 0) [] _ (1,[]) p ⟨none,0,rfl,fun g=>absurd rfl g⟩ hb (by omega) (by omega) (by omega) rfl (by omega) (by simp) (by simp)),by repeat with_reducible exact Take.nil⟩);rintro _ _ hq)|apply zA|((with_reducible apply Sd.mk);first|exact True.intro)|((with_reducible apply Ln.mk);first|rfl)|((with_reducible apply Se.mk);first|(focus(repeat(first|exact SetAt.zero));done))|exact True.intro|intro A|exact rfl)
     obtain⟨nb,rfl⟩:∃nb,nb=A:=⟨_,rfl⟩
     rw[hcs]at hq
     have fin:∀A,Take ((M,⟨mapC kS (mput (ks.map kv) (key2 l i) (psV A [i])),false⟩)::(A,psB [i])::(AT,⟨recs cpF (tblTo l w m (i+1)),false⟩)::R) ((M,⟨mapC kS ((ks++[(key2 l i,A,[i])]).map kv),false⟩)::(AT,⟨recs cpF (tblTo l w m (i+1)),false⟩)::(kb2 (ks++[(key2 l i,A,[i])])++h)):=fun A=>by
      rw[f3,List.map_append,hR]
      refine .cons .head (.cons (.tail .head) ?_)
      unfold kb2
      rw[List.map_append,List.append_assoc]
      exact take_back _ _
     rcases hq with⟨e,rfl,rfl⟩|⟨A',rfl,rfl⟩
     ·have hT:=hT0 (by rw[e];rfl)
      repeat'(first|apply zB|apply zE|(apply o_g zC;exact rfl;exact rfl)|(apply o_ar zC;exact rfl;exact rfl)|(apply zM zC;(iterate 3 exact rfl);(focus exact pk))|(apply zT zC;(iterate 5 exact rfl);(focus decide);exact rfl;(focus decide);(focus repeat(first|exact CatR.nil|(apply CatR.one;exact rfl;exact rfl)));exact rfl)|(apply o_append_nil zC;(iterate 5 exact rfl);(focus exact⟨by decide⟩);(focus exact pk))|(apply o_mapUpdate (α:=List UInt8);exact rfl;(focus exact up);exact rfl;exact rfl;(focus exact Tryz.underlying132);(focus exact Tryz.underlying9);(focus exact keyS))|(apply zS;exact rfl)|apply zA|apply zG|apply zI|((with_reducible apply Sd.mk);first|exact True.intro|(constructor <;> first|omega|(unfold maxLen;omega)))|((with_reducible apply Ln.mk);first|rfl)|((with_reducible apply Wr.mk);first|exact IntWalk.i64_in _ (by omega))|((with_reducible apply Ce.mk);first|rfl)|((with_reducible apply Su.mk);first|exact zQ)|exact True.intro|intro A|exact rfl)
      all_goals first
       |(exfalso;omega)
       |exact⟨(i+1,ks++[(key2 l i,A,[i])]),⟨by show i+1≤_;omega,hnew _ (fun k'=>f4 A [i] k')⟩,by show l.length-(i+1)<_;omega,(by repeat'(first|exact trivial|refine⟨rfl,?_⟩|refine⟨congrArg some ?_,?_⟩)),Take.trans (by rw[hT];exact(by repeat with_reducible first|exact Take.nil|apply Take.c|apply Take.drop)) (fin A)⟩
     ·repeat'(first|apply zB|apply zE|(apply o_g zC;exact rfl;exact rfl)|(apply o_ar zC;exact rfl;exact rfl)|(apply zM zC;(iterate 3 exact rfl);(focus exact pk))|(apply yQ zC;(iterate 3 exact rfl);(focus exact pk))|(apply yE zC;(iterate 4 exact rfl);(focus exact⟨rfl⟩);(focus exact up))|(apply zT zC;(iterate 5 exact rfl);(focus decide);exact rfl;(focus decide);(focus repeat(first|exact CatR.nil|(apply CatR.one;exact rfl;exact rfl)));exact rfl)|(apply o_append_nil zC;(iterate 5 exact rfl);(focus exact⟨by decide⟩);(focus exact pk))|(apply o_mapUpdate (α:=List UInt8);exact rfl;(focus exact up);exact rfl;exact rfl;(focus exact Tryz.underlying132);(focus exact Tryz.underlying9);(focus exact keyS))|(apply w_if;exact rfl;all_goals intro hc)|apply zA|apply zG|apply zI|((with_reducible apply Sd.mk);first|exact True.intro|omega|(constructor <;> first|omega|(unfold maxLen;omega)))|((with_reducible apply Ln.mk);first|rfl|(simp ;first|done|omega))|((with_reducible apply Wr.mk);first|exact IntWalk.i64_in _ (by omega))|((with_reducible apply Ce.mk);first|rfl)|((with_reducible apply Pu.mk);first|exact putAt_recZ (fun _=>rfl) (by omega))|((with_reducible apply Su.mk);first|exact zQ|exact subAt_rec (fun _=>rfl) (by omega))|exact True.intro|intro A|exact rfl)
      ·have hT:=hT1 (by omega)
       exact⟨(i+1,ks++[(key2 l i,A,[i])]),⟨by show i+1≤_;omega,hnew _ (fun k'=>f4 A [i] k')⟩,by show l.length-(i+1)<_;omega,(by repeat'(first|exact trivial|refine⟨rfl,?_⟩|refine⟨congrArg some ?_,?_⟩)),Take.trans (by rw[hT];exact(by repeat with_reducible first|exact Take.nil|apply Take.c|apply Take.drop)) (fin A)⟩
      ·have hT:=hT0 (by omega)
       exact⟨(i+1,ks++[(key2 l i,A,[i])]),⟨by show i+1≤_;omega,hnew _ (fun k'=>f4 A [i] k')⟩,by show l.length-(i+1)<_;omega,(by repeat'(first|exact trivial|refine⟨rfl,?_⟩|refine⟨congrArg some ?_,?_⟩)),Take.trans (by rw[hT];exact(by repeat with_reducible first|exact Take.nil|apply Take.c|apply Take.drop)) (fin A)⟩
    ·have hlk:(mget (ks.map kv) (key2 l i)).getD (.slice none 0 0)=psV AK ps:=by rw[f1];rfl
     rw[f2]at hcs hnew hps hpl
     obtain⟨R,hR⟩:∃R,R=kb2 (k1++k2)++h:=⟨_,rfl⟩
     have hfront:Take (kb2 ks++h) ((AK,psB ps)::R):=by
      rw[f0,hR]
      unfold kb2
      rw[List.map_append,List.map_append,List.append_assoc,List.append_assoc,List.map_cons,List.cons_append]
      exact take_front _ _
     have fin:Take ((M,⟨mapC kS (mput (ks.map kv) (key2 l i) (psV AK (ps++[i]))),false⟩)::(AK,psB (ps++[i]))::(AT,⟨recs cpF (tblTo l w m (i+1)),false⟩)::R) ((M,⟨mapC kS ((k1++(key2 l i,AK,ps++[i])::k2).map kv),false⟩)::(AT,⟨recs cpF (tblTo l w m (i+1)),false⟩)::(kb2 (k1++(key2 l i,AK,ps++[i])::k2)++h)):=by
      rw[f3,List.map_append,List.map_cons,hR]
      refine .cons .head (.cons (.tail .head) ?_)
      unfold kb2
      rw[List.map_append,List.map_append,List.append_assoc,List.append_assoc,List.map_cons,List.cons_append]
      exact take_back _ _
     refine SWp.take (h1:=(M,⟨mapC kS (ks.map kv),false⟩)::(AT,⟨recs cpF (tblTo l w m i),false⟩)::(AK,psB ps)::R) (b:=[(0,S l),(1,I w),(2,I m),(8,gsl AT 0 (l.length*2) l.length 2),(9,.map (some M)),(26,I l.length),(27,I i),(10,I i),(11,S (key2 l i))]) (by repeat'(first|exact trivial|refine⟨rfl,?_⟩|refine⟨congrArg some ?_,?_⟩)) (.cons .head (.cons .head hfront)) ?_
     repeat'(first|apply zF|apply zB|apply zE|(apply o_g zC;exact rfl;exact rfl)|(apply zX zC;(iterate 4 exact rfl);(focus exact up))|(apply yG zC;iterate 5 exact rfl)|(apply o_makeFunc;iterate 3 exact rfl)|(apply o_lookup (α:=List UInt8) zC;exact rfl;(focus exact pk);exact rfl;(focus exact Tryz.underlying132);(focus exact Tryz.underlying9);(focus exact keyS);exact rfl;exact rfl;(focus first|exact hlk))|(apply zD;exact rfl;exact rfl;(focus first|exact rfl);exact rfl;(focus exact⟨_,better_any l i w m ps.reverse _ _ _ (by omega) (by omega) (by omega) (by omega) rfl (fun n5 n6 n7 n8 n11 n12 p hb=>Table1_any l i w _ n5 n6 n7 n8 n11 n12 _ (psV AK ps) ps _ (1,[]) p ⟨_,_,rfl,fun _=>⟨AK,false,_,by rw[Nat.one_mul],.tail (.tail .head)⟩⟩ hb (by omega) (by omega) (by omega) rfl (by omega) hps hpl),by repeat with_reducible exact Take.nil⟩);rintro _ _ hq)|apply zA|((with_reducible apply Sd.mk);first|exact True.intro)|((with_reducible apply Ln.mk);first|rfl)|((with_reducible apply Se.mk);first|(focus(repeat(first|exact SetAt.zero));done))|exact True.intro|intro A|exact rfl)
     rw[hcs]at hq
     have hval:gsl AK 0 (ps.length+1*1) (ps.length+1) 1=psV AK (ps++[i]):=gslE rfl rfl (by simp) (by simp) rfl
     have hblk:(ps.map (fun p:Nat=>I (p:Int)))++[I (i:Int)]=(ps++[i]).map (fun p:Nat=>I (p:Int)):=by simp
     rcases hq with⟨e,rfl,rfl⟩|⟨A',rfl,rfl⟩
     ·have hT:=hT0 (by rw[e];rfl)
      repeat'(first|apply zB|apply zE|(apply o_g zC;exact rfl;exact rfl)|(apply o_ar zC;exact rfl;exact rfl)|(apply zM zC;(iterate 3 exact rfl);(focus exact pk))|(apply zT zC;(iterate 5 exact rfl);(focus decide);exact rfl;(focus decide);(focus repeat(first|exact CatR.nil|(apply CatR.one;exact rfl;exact rfl)));exact rfl)|(apply o_append zC;(iterate 5 exact rfl);(focus exact⟨by decide⟩);(focus exact up);(focus exact pk))|(apply o_mapUpdate (α:=List UInt8);exact rfl;(focus exact up);exact rfl;exact rfl;(focus exact Tryz.underlying132);(focus exact Tryz.underlying9);(focus exact keyS))|(apply zS;exact rfl)|apply zA|apply zG|apply zI|((with_reducible apply Sd.mk);first|exact True.intro|(constructor <;> first|omega|(unfold maxLen;omega)))|((with_reducible apply Ln.mk);first|rfl|omega|(simp ;first|done|omega))|((with_reducible apply Wr.mk);first|exact IntWalk.i64_in _ (by omega))|((with_reducible apply Ce.mk);first|rfl)|((with_reducible apply Su.mk);first|exact zQ)|exact True.intro|intro A|exact rfl)
      all_goals first
       |(exfalso;omega)
       |exact⟨(i+1,k1++(key2 l i,AK,ps++[i])::k2),⟨by show i+1≤_;omega,hnew _ (fun k'=>f4 AK (ps++[i]) k')⟩,by show l.length-(i+1)<_;omega,(by repeat'(first|exact trivial|refine⟨rfl,?_⟩|refine⟨congrArg some ?_,?_⟩)),Take.trans (by rw[hT,hval,hblk];exact(by repeat with_reducible first|exact Take.nil|apply Take.c|apply Take.drop)) fin⟩
     ·repeat'(first|apply zB|apply zE|(apply o_g zC;exact rfl;exact rfl)|(apply o_ar zC;exact rfl;exact rfl)|(apply zM zC;(iterate 3 exact rfl);(focus exact pk))|(apply yQ zC;(iterate 3 exact rfl);(focus exact pk))|(apply yE zC;(iterate 4 exact rfl);(focus exact⟨rfl⟩);(focus exact up))|(apply zT zC;(iterate 5 exact rfl);(focus decide);exact rfl;(focus decide);(focus repeat(first|exact CatR.nil|(apply CatR.one;exact rfl;exact rfl)));exact rfl)|(apply o_append zC;(iterate 5 exact rfl);(focus exact⟨by decide⟩);(focus exact up);(focus exact pk))|(apply o_mapUpdate (α:=List UInt8);exact rfl;(focus exact up);exact rfl;exact rfl;(focus exact Tryz.underlying132);(focus exact Tryz.underlying9);(focus exact keyS))|(apply w_if;exact rfl;all_goals intro hc)|apply zA|apply zG|apply zI|((with_reducible apply Sd.mk);first|exact True.intro|omega|(constructor <;> first|omega|(unfold maxLen;omega)))|((with_reducible apply Ln.mk);first|rfl|omega|(simp ;first|done|omega))|((with_reducible apply Wr.mk);first|exact IntWalk.i64_in _ (by omega))|((with_reducible apply Ce.mk);first|rfl)|((with_reducible apply Pu.mk);first|exact putAt_recZ (fun _=>rfl) (by omega))|((with_reducible apply Su.mk);first|exact zQ|exact subAt_rec (fun _=>rfl) (by omega))|exact True.intro|intro A|exact rfl)
      ·have hT:=hT1 (by omega)
       exact⟨(i+1,k1++(key2 l i,AK,ps++[i])::k2),⟨by show i+1≤_;omega,hnew _ (fun k'=>f4 AK (ps++[i]) k')⟩,by show l.length-(i+1)<_;omega,(by repeat'(first|exact trivial|refine⟨rfl,?_⟩|refine⟨congrArg some ?_,?_⟩)),Take.trans (by rw[hT,hval,hblk];exact(by repeat with_reducible first|exact Take.nil|apply Take.c|apply Take.drop)) fin⟩
      ·have hT:=hT0 (by omega)
       exact⟨(i+1,k1++(key2 l i,AK,ps++[i])::k2),⟨by show i+1≤_;omega,hnew _ (fun k'=>f4 AK (ps++[i]) k')⟩,by show l.length-(i+1)<_;omega,(by repeat'(first|exact trivial|refine⟨rfl,?_⟩|refine⟨congrArg some ?_,?_⟩)),Take.trans (by rw[hT,hval,hblk];exact(by repeat with_reducible first|exact Take.nil|apply Take.c|apply Take.drop)) fin⟩
   ·have hT:=tblTo_all (l:=l) (w:=w) (m:=m) (i:=i) (by omega)
    rw[hT]
    have htl:=tbl_len l w m
    rw[show gsl AT 0 (l.length*2) l.length 2=cpS AT (tbl l w m)from gslE rfl rfl (by rw[htl];omega) (by rw[htl]) rfl]
    have htd:Take (kb2 ks++h) h:=Take.drops .nil
    by_cases hil2:i<l.length
    ·repeat'(first|apply zF|apply zB|apply zE|(apply o_g zC;exact rfl;exact rfl)|(apply o_ar zC;exact rfl;exact rfl)|(apply yC;exact rfl;(focus first|omega))|apply zA|apply zK|apply zJ|apply zI|apply zN|apply zV|apply zH|(apply blockS_exit_ne;exact rfl)|((with_reducible apply Sd.mk);first|exact True.intro)|((with_reducible apply Wr.mk);first|exact IntWalk.i64_in _ (by omega)))
     (apply zL;(exact(show ResS _ _ _ _ [_,_] from⟨rfl,⟨rfl,trivial⟩⟩));(focus exact .inl ⟨hv,hn,AT,rfl,rfl⟩);(focus repeat(first|with_reducible exact Take.nil|exact htd|with_reducible apply Take.c|with_reducible apply Take.drop)))
    ·repeat'(first|apply zF|apply zB|apply zE|(apply o_g zC;exact rfl;exact rfl)|(apply yD;exact rfl;(focus first|omega))|apply zA|apply zK|apply zJ|apply zN|apply zV|((with_reducible apply Sd.mk);first|exact True.intro))
     (apply zL;(exact(show ResS _ _ _ _ [_,_] from⟨rfl,⟨rfl,trivial⟩⟩));(focus exact .inl ⟨hv,hn,AT,rfl,rfl⟩);(focus repeat(first|with_reducible exact Take.nil|exact htd|with_reducible apply Take.c|with_reducible apply Take.drop)))
  ·refine w_body3 Tryz.func37 rfl rfl ?_
   repeat'(first|apply zF|apply zB|apply zE|(apply o_g zC;exact rfl;exact rfl)|(apply o_not;exact rfl;exact rfl)|(apply zD;exact rfl;exact rfl;(focus first|exact rfl);exact rfl;(focus exact⟨_,valid_any w m _,by repeat with_reducible exact Take.nil⟩);rintro _ _ ⟨rfl,rfl⟩)|(apply yC;exact rfl;(focus first|omega))|(apply yD;exact rfl;(focus first|omega))|apply zA|apply zP|apply zI|apply zN|((with_reducible apply Sd.mk);first|exact True.intro))
   all_goals first
    |(apply zL;(exact(show ResS _ _ _ _ [_,_] from⟨rfl,⟨rfl,trivial⟩⟩));(focus exact .inr ⟨fun g=>hn g.2,by rw[if_pos hv];rfl,rfl⟩);(focus repeat with_reducible first|exact Take.nil|apply Take.c|apply Take.drop))
    |(exfalso;omega)
    |(exfalso;simp_all;done)
 ·refine w_body3 Tryz.func37 rfl rfl ?_
  repeat'(first|apply zF|apply zB|apply zE|(apply o_g zC;exact rfl;exact rfl)|(apply o_not;exact rfl;exact rfl)|(apply zD;exact rfl;exact rfl;(focus first|exact rfl);exact rfl;(focus exact⟨_,valid_any w m _,by repeat with_reducible exact Take.nil⟩);rintro _ _ ⟨rfl,rfl⟩)|(apply yC;exact rfl;(focus first|omega))|apply zA|apply zP|apply zN|((with_reducible apply Sd.mk);first|exact True.intro))
  all_goals first
   |(apply zL;(exact(show ResS _ _ _ _ [_,_] from⟨rfl,⟨rfl,trivial⟩⟩));(focus exact .inr ⟨fun g=>hv g.1,by rw[if_neg hv];rfl,rfl⟩);(focus repeat with_reducible first|exact Take.nil|apply Take.c|apply Take.drop))
   |(exfalso;simp_all;done)

def gpc (l:List UInt8)(w:Int)(i:Nat):Pc:=if(lastc (rcands l i w 273)).1=0 then litP l i else((lastc (rcands l i w 273)).1,(lastc (rcands l i w 273)).2,0)
def grd (l:List UInt8)(w:Int):Nat→Nat→List Pc
 |0,_=>[]
 |f+1,i=>if i<l.length then gpc l w i::grd l w f (i+(gpc l w i).1.toNat)else []
def greedy (l:List UInt8)(w:Int):List Pc × Int:=if 1≤w∧w≤4096 then(if l.length≤4096 then(grd l w l.length 0,0)else([],9))else([],1)
theorem last_in {l:List (Int × Int)}(h:l≠[]):lastc l∈l:=by
 have:=List.length_pos_iff.2 h
 rw[←lastc_get (by omega),getElem!_pos l _ (by omega)];exact List.getElem_mem _
theorem gpc_occ {l:List UInt8}{w:Int}{i:Nat}(hw:1≤w∧w≤4096)(hn:l.length≤4096)(hi:i<l.length):occ l w i (gpc l w i):=by
 unfold gpc
 split
 ·exact .inl ⟨hi,rfl⟩
 ·rename_i h0
  have hne:rcands l i w 273≠[]:=fun e=>h0 (by rw[e];rfl)
  have hm:=last_in hne
  rw[←cands_eq]at hm h0 ⊢
  have h1:=cands_in hm
  obtain⟨N,D,hND⟩:∃N D:Nat,lastc (cands l i w 273)=((N:Int),(D:Int)):=⟨(lastc (cands l i w 273)).1.toNat,(lastc (cands l i w 273)).2.toNat,by rw[Int.toNat_of_nonneg (by omega),Int.toNat_of_nonneg (by omega)]⟩
  rw[hND]at hm h1 ⊢
  exact cands_occ hw hi hn (by dsimp only at h1;omega) hm
theorem grd_cov {l:List UInt8}{w:Int}(hw:1≤w∧w≤4096)(hn:l.length≤4096):∀(f i:Nat),i≤l.length→l.length≤f+i→Cov l w i (grd l w f i)
 |0,i,h1,h2=>by show i=l.length;omega
 |f+1,i,h1,h2=>by
  unfold grd
  by_cases hi:i<l.length
  ·rw[if_pos hi]
   have:=gpc_occ hw hn hi
   have h3:=this.fits hw.2
   exact⟨this,grd_cov hw hn f _ (by omega) (by omega)⟩
  ·rw[if_neg hi];show i=l.length;omega
theorem greedy_cov {l:List UInt8}{w:Int}(hw:1≤w∧w≤4096)(hn:l.length≤4096):Cov l w 0 (greedy l w).1∧(greedy l w).2=0:=by
 unfold greedy
 rw[if_pos hw,if_pos hn]
 exact⟨grd_cov hw hn _ 0 (by omega) (by omega),rfl⟩
theorem Greedy_any (l:List UInt8)(w:Int)(h:SH)(hl:l.length≤4611686018427387904) :
  SRun Tryz.prog 18 [S l,I w] h fun r q=>∃v,r=.tuple #[v,I (greedy l w).2]∧IsPs h (greedy l w).1 v q:=by
 by_cases hw:1≤w∧w≤4096
 ·have hv:vld w 273:=⟨hw.1,hw.2,by omega,by omega⟩
  by_cases hn:l.length≤4096
  ·have hT:∀h,SRun Tryz.prog 37 [S l,I w,I 273] h fun r q=>∃A,r=.tuple #[cpS A (tbl l w 273),I 0]∧q=(A,cpB (tbl l w 273) false)::h:=fun h =>
    (Table_any l w 273 h hl).mono fun r q g=>by
     rcases g with⟨_,_,g⟩|⟨g,_⟩
     ·exact g
     ·exact absurd ⟨hv,hn⟩ g
   have htl:=tbl_len l w 273
   have hg:greedy l w=(grd l w l.length 0,0):=by unfold greedy;rw[if_pos hw,if_pos hn]
   rw[hg]
   refine zY Tryz.func18 rfl rfl ?_
   repeat'((fail_if_success (show SWp _ _ (Code.seq (Code.region 3 _ _) _) _ _ _));(fail_if_success (show SWp _ _ (Code.region 3 _ _) _ _ _));first|apply zF|apply zB|apply zE|(apply o_g zC;exact rfl;exact rfl)|(apply o_not;exact rfl;exact rfl)|(apply zD;exact rfl;exact rfl;(focus first|exact rfl);exact rfl;(focus exact⟨_,validWindow_any w _,by repeat with_reducible exact Take.nil⟩);rintro _ _ ⟨rfl,rfl⟩)|(apply yD;exact rfl;(focus first|omega))|apply zA|apply zI|((with_reducible apply Sd.mk);first|exact True.intro))
   rename_i h0
   repeat'(first|apply zF|apply zB|apply zE|(apply o_g zC;exact rfl;exact rfl)|(apply zD;exact rfl;exact rfl;(focus first|exact rfl);exact rfl;(focus exact⟨_,hT _,by repeat with_reducible exact Take.nil⟩);rintro _ _ ⟨AT,rfl,rfl⟩)|(apply zS;exact rfl)|apply zA|apply zI|apply zH|((with_reducible apply Sd.mk);first|exact True.intro))
   refine zZ (S:=Nat × Nat × List Pc × Value × SH) (fun x=>[(0,S l),(1,I w),(6,cpS AT (tbl l w 273)),(8,x.2.2.2.1),(9,I x.1)]) (fun x=>x.2.2.2.2)
    (fun x=>x.1≤l.length∧l.length≤x.2.1+x.1∧x.2.2.1++grd l w x.2.1 x.1=grd l w l.length 0∧x.2.2.1.length≤x.1∧IsPs ((AT,cpB (tbl l w 273) false)::h0) x.2.2.1 x.2.2.2.1 x.2.2.2.2) (fun x=>l.length-x.1)
    (0,l.length,[],_,_) ⟨by simp,by simp,rfl,by simp,.inl ⟨rfl,rfl,rfl⟩⟩ (by repeat'(first|exact trivial|refine⟨rfl,?_⟩|refine⟨congrArg some ?_,?_⟩)) (by repeat with_reducible first|exact Take.nil|apply Take.c|apply Take.drop) ?_
   rintro⟨i,f,ps,v,q⟩ ⟨hi,hif,hwk,hpl,hps⟩
   dsimp only at hi hif hwk hpl hps ⊢
   by_cases hil:i<l.length
   ·obtain⟨f,rfl⟩:∃m,f=m+1:=⟨f-1,by omega⟩
    rw[grd,if_pos hil]at hwk
    have hft:=(gpc_occ hw hn hil).fits hw.2
    have hgt:=tbl_get (w:=w) (m:=273) hil
    have hb:0≤(tbl l w 273)[i]!.1∧(tbl l w 273)[i]!.1≤273∧((i:Int)+(tbl l w 273)[i]!.1≤l.length):=by
     by_cases h0:(tbl l w 273)[i]!.1=0
     ·omega
     ·have:gpc l w i=((tbl l w 273)[i]!.1,(tbl l w 273)[i]!.2,0):=by unfold gpc;rw[←hgt,if_neg h0]
      rw[this]at hft
      obtain⟨g1,g2,g3⟩:=hft
      dsimp only at g2 g3
      rcases g1 with g|g <;> dsimp only at g <;> omega
    have step:∀(t:Pc) (m:Nat),gpc l w i=t→t.1=(m:Int)→ps++t::grd l w f (i+m)=grd l w l.length 0∧1≤m∧i+m≤l.length:=fun t m e e1=>by
     rw[e,e1,Int.toNat_natCast]at hwk
     rw[e]at hft
     exact⟨hwk,by omega,by omega⟩
    have hp0:(tbl l w 273)[i]!.1=0→gpc l w i=litP l i:=fun h0=>by unfold gpc;rw[←hgt,if_pos h0]
    have hp1:¬(tbl l w 273)[i]!.1=0→gpc l w i=((tbl l w 273)[i]!.1,(tbl l w 273)[i]!.2,0):=fun h0=>by unfold gpc;rw[←hgt,if_neg h0]
    obtain⟨m,hm⟩:∃m:Nat,(tbl l w 273)[i]!.1=(m:Int):=⟨_,(Int.toNat_of_nonneg (by omega)).symm⟩
    rcases hps with⟨rfl,rfl,rfl⟩|⟨hne,A2,rfl,rfl⟩
    ·repeat'(first|apply zF|apply zB|apply zE|(apply yH;(focus kernel_rfl);(focus kernel_rfl))|(apply o_g zC;exact rfl;exact rfl)|(apply o_ar zC;exact rfl;exact rfl)|(apply zM zC;(iterate 3 exact rfl);(focus exact pk))|(apply yQ zC;(iterate 3 exact rfl);(focus exact pk))|(apply yE zC;(iterate 4 exact rfl);(focus exact⟨rfl⟩);(focus exact up))|(apply yG zC;iterate 5 exact rfl)|(apply yT zC;exact rfl;exact rfl;(focus first|with_reducible exact pl81);exact rfl;(focus repeat(first|exact BuildR.nil|(apply BuildR.one;exact rfl;exact rfl;(first|(focus(repeat(first|exact SetAt.zero|apply SetAt.succ));done)))));exact rfl)|(apply zT zC;(iterate 5 exact rfl);(focus decide);exact rfl;(focus decide);(focus repeat(first|exact CatR.last rfl));exact rfl)|(apply o_append_nil zC;(iterate 5 exact rfl);(focus exact⟨by decide⟩);(focus exact pk))|(apply yC;exact rfl;(focus first|omega))|(apply w_if;exact rfl;all_goals intro hc)|apply zA|apply zG|apply zI|apply zH|((with_reducible apply Sd.mk);first|exact True.intro|omega|(constructor <;> first|omega|(unfold maxLen;omega)))|((with_reducible apply Ln.mk);first|rfl|(simp ;first|done|omega))|((with_reducible apply Wr.mk);first|exact IntWalk.i64_in _ (by omega))|((with_reducible apply Ce.mk);first|rfl|exact cell_recZ (fun _=>rfl) (by omega) (by decide) rfl)|((with_reducible apply Pu.mk);first|exact yA rfl)|((with_reducible apply Su.mk);first|exact zQ)|exact True.intro|exact Or.inl rfl|apply And.intro|intro A|exact rfl)
     ·obtain⟨s1,s2,s3⟩:=step _ 1 (hp0 hc) rfl
      exact⟨(i+1,f,[litP l i],gsl A 0 (3*1) 1 3,(A,⟨recs pcC [litP l i],false⟩)::(AT,cpB (tbl l w 273) false)::h0),⟨s3,by show l.length≤f+(i+1);omega,s1,by show 1≤i+1;omega,.inr ⟨by simp,A,rfl,rfl⟩⟩,by show l.length-(i+1)<l.length-i;omega,(by repeat'(first|exact trivial|refine⟨rfl,?_⟩|refine⟨congrArg some ?_,?_⟩)),(by repeat(first|with_reducible exact Take.nil|with_reducible apply Take.c|((with_reducible apply Take.cE);first|exact rfl|(apply blkE;(focus first|exact rfl|exact yI rfl|exact yO rfl|exact congrArg (fun v=>[v]) (gslE rfl rfl (by first|rfl|exact ‹_›|omega|(simp ;first|done|omega)) (by first|rfl|exact ‹_›|omega|(simp ;first|done|omega)) rfl))))|with_reducible apply Take.drop))⟩
     ·obtain⟨s1,s2,s3⟩:=step _ m (hp1 hc) hm
      rw[show(i:Int)+(tbl l w 273)[i]!.1=((i+m:Nat):Int)by omega]
      exact⟨(i+m,f,[((tbl l w 273)[i]!.1,(tbl l w 273)[i]!.2,0)],gsl A 0 (3*1) 1 3,(A,⟨recs pcC [((tbl l w 273)[i]!.1,(tbl l w 273)[i]!.2,0)],false⟩)::(AT,cpB (tbl l w 273) false)::h0),⟨s3,by show l.length≤f+(i+m);omega,s1,by show 1≤i+m;omega,.inr ⟨by simp,A,rfl,rfl⟩⟩,by show l.length-(i+m)<l.length-i;omega,(by repeat'(first|exact trivial|refine⟨rfl,?_⟩|refine⟨congrArg some ?_,?_⟩)),(by repeat(first|with_reducible exact Take.nil|with_reducible apply Take.c|((with_reducible apply Take.cE);first|exact rfl|(apply blkE;(focus first|exact rfl|exact yI rfl|exact yO rfl|exact congrArg (fun v=>[v]) (gslE rfl rfl (by first|rfl|exact ‹_›|omega|(simp ;first|done|omega)) (by first|rfl|exact ‹_›|omega|(simp ;first|done|omega)) rfl))))|with_reducible apply Take.drop))⟩
    ·repeat'(first|apply zF|apply zB|apply zE|(apply yH;(focus kernel_rfl);(focus kernel_rfl))|(apply o_g zC;exact rfl;exact rfl)|(apply o_ar zC;exact rfl;exact rfl)|(apply zM zC;(iterate 3 exact rfl);(focus exact pk))|(apply yQ zC;(iterate 3 exact rfl);(focus exact pk))|(apply yE zC;(iterate 4 exact rfl);(focus exact⟨rfl⟩);(focus exact up))|(apply yG zC;iterate 5 exact rfl)|(apply yT zC;exact rfl;exact rfl;(focus first|with_reducible exact pl81);exact rfl;(focus repeat(first|exact BuildR.nil|(apply BuildR.one;exact rfl;exact rfl;(first|(focus(repeat(first|exact SetAt.zero|apply SetAt.succ));done)))));exact rfl)|(apply zT zC;(iterate 5 exact rfl);(focus decide);exact rfl;(focus decide);(focus repeat(first|exact CatR.last rfl));exact rfl)|(apply o_append zC;(iterate 5 exact rfl);(focus exact⟨by decide⟩);(focus exact up);(focus exact pk))|(apply yC;exact rfl;(focus first|omega))|(apply w_if;exact rfl;all_goals intro hc)|apply zA|apply zG|apply zI|apply zH|((with_reducible apply Sd.mk);first|exact True.intro|omega|(constructor <;> first|omega|(unfold maxLen;omega)))|((with_reducible apply Ln.mk);first|rfl|omega|(simp ;first|done|omega))|((with_reducible apply Wr.mk);first|exact IntWalk.i64_in _ (by omega))|((with_reducible apply Ce.mk);first|rfl|exact cell_recZ (fun _=>rfl) (by omega) (by decide) rfl)|((with_reducible apply Pu.mk);first|exact yA rfl)|((with_reducible apply Su.mk);first|exact zQ)|exact True.intro|exact Or.inl rfl|apply And.intro|intro A|exact rfl)
     ·obtain⟨s1,s2,s3⟩:=step _ 1 (hp0 hc) rfl
      exact⟨(i+1,f,ps++[litP l i],gsl A2 0 (3*(ps++[litP l i]).length) (ps++[litP l i]).length 3,(A2,⟨recs pcC (ps++[litP l i]),false⟩)::(AT,cpB (tbl l w 273) false)::h0),⟨s3,by show l.length≤f+(i+1);omega,by rw[List.append_assoc];exact s1,by show(ps++[_]).length≤i+1;rw[List.length_append,List.length_singleton];omega,.inr ⟨by first|exact hne|simp,A2,rfl,rfl⟩⟩,by show l.length-(i+1)<l.length-i;omega,⟨rfl,rfl,rfl,congrArg some (gslE rfl rfl (by simp;try omega) (by simp) rfl),rfl,trivial⟩,(by repeat(first|with_reducible exact Take.nil|with_reducible apply Take.c|((with_reducible apply Take.cE);first|exact rfl|(apply blkE;(focus first|exact rfl|exact yI rfl|exact yO rfl|exact congrArg (fun v=>[v]) (gslE rfl rfl (by first|rfl|exact ‹_›|omega|(simp ;first|done|omega)) (by first|rfl|exact ‹_›|omega|(simp ;first|done|omega)) rfl))))|with_reducible apply Take.drop))⟩
     ·obtain⟨s1,s2,s3⟩:=step _ m (hp1 hc) hm
      rw[show(i:Int)+(tbl l w 273)[i]!.1=((i+m:Nat):Int)by omega]
      exact⟨(i+m,f,ps++[((tbl l w 273)[i]!.1,(tbl l w 273)[i]!.2,0)],gsl A2 0 (3*(ps++[((tbl l w 273)[i]!.1,(tbl l w 273)[i]!.2,(0:Int))]).length) (ps++[((tbl l w 273)[i]!.1,(tbl l w 273)[i]!.2,(0:Int))]).length 3,(A2,⟨recs pcC (ps++[((tbl l w 273)[i]!.1,(tbl l w 273)[i]!.2,0)]),false⟩)::(AT,cpB (tbl l w 273) false)::h0),⟨s3,by show l.length≤f+(i+m);omega,by rw[List.append_assoc];exact s1,by show(ps++[_]).length≤i+m;rw[List.length_append,List.length_singleton];omega,.inr ⟨by first|exact hne|simp,A2,rfl,rfl⟩⟩,by show l.length-(i+m)<l.length-i;omega,⟨rfl,rfl,rfl,congrArg some (gslE rfl rfl (by simp;try omega) (by simp) rfl),rfl,trivial⟩,(by repeat(first|with_reducible exact Take.nil|with_reducible apply Take.c|((with_reducible apply Take.cE);first|exact rfl|(apply blkE;(focus first|exact rfl|exact yI rfl|exact yO rfl|exact congrArg (fun v=>[v]) (gslE rfl rfl (by first|rfl|exact ‹_›|omega|(simp ;first|done|omega)) (by first|rfl|exact ‹_›|omega|(simp ;first|done|omega)) rfl))))|with_reducible apply Take.drop))⟩
   ·obtain rfl:i=l.length:=by omega
    have hw0:grd l w f l.length=[]:=by
     cases f with
     |zero=>rfl
     |succ f=>rw[grd,if_neg (Nat.lt_irrefl _)]
    rw[hw0,List.append_nil]at hwk
    subst hwk
    rcases hps with⟨e,rfl,rfl⟩|⟨hne,A2,rfl,rfl⟩
    ·repeat'(first|apply zF|apply zB|apply zE|(apply o_g zC;exact rfl;exact rfl)|(apply yD;exact rfl;(focus first|omega))|apply zA|apply zK|apply zJ|apply zN|apply zV|((with_reducible apply Sd.mk);first|exact True.intro))
     (apply zL;(exact(show ResS _ _ _ _ [_,_] from⟨rfl,⟨rfl,trivial⟩⟩));(focus exact⟨_,rfl,.inl ⟨e,rfl,rfl⟩⟩);(focus repeat with_reducible first|exact Take.nil|apply Take.c|apply Take.drop))
    ·repeat'(first|apply zF|apply zB|apply zE|(apply o_g zC;exact rfl;exact rfl)|(apply yD;exact rfl;(focus first|omega))|apply zA|apply zK|apply zJ|apply zN|apply zV|((with_reducible apply Sd.mk);first|exact True.intro))
     (apply zL;(exact(show ResS _ _ _ _ [_,_] from⟨rfl,⟨rfl,trivial⟩⟩));(focus exact⟨_,rfl,.inr ⟨by first|exact hne|simp,A2,rfl,rfl⟩⟩);(focus repeat with_reducible first|exact Take.nil|apply Take.c|apply Take.drop))
  ·have hT:∀h,SRun Tryz.prog 37 [S l,I w,I 273] h fun r q=>r=.tuple #[.slice none 0 0,I 9]∧q=h:=fun h =>
    (Table_any l w 273 h hl).mono fun r q g=>by
     rcases g with⟨_,g,_⟩|⟨_,g⟩
     ·exact absurd g hn
     ·rwa [if_pos hv]at g
   refine zY Tryz.func18 rfl rfl ?_
   repeat'(first|apply zF|apply zB|apply zE|(apply o_g zC;exact rfl;exact rfl)|(apply o_not;exact rfl;exact rfl)|(apply zD;exact rfl;exact rfl;(focus first|exact rfl);exact rfl;(focus exact⟨_,validWindow_any w _,by repeat with_reducible exact Take.nil⟩);rintro _ _ ⟨rfl,rfl⟩)|(apply zD;exact rfl;exact rfl;(focus first|exact rfl);exact rfl;(focus exact⟨_,hT _,by repeat with_reducible exact Take.nil⟩);rintro _ _ ⟨rfl,rfl⟩)|(apply yB;exact rfl)|(apply yD;exact rfl;(focus first|omega))|apply zA|apply zP|apply zI|apply zN|((with_reducible apply Sd.mk);first|exact True.intro))
   all_goals first
    |(apply zL;(exact(show ResS _ _ _ _ [_,_] from⟨rfl,⟨rfl,trivial⟩⟩));(focus exact⟨_,by unfold greedy;rw[if_pos hw,if_neg hn];rfl,.inl ⟨by unfold greedy;rw[if_pos hw,if_neg hn],rfl,rfl⟩⟩);(focus repeat with_reducible first|exact Take.nil|apply Take.c|apply Take.drop))
    |(exfalso;simp_all;done)
 ·refine zY Tryz.func18 rfl rfl ?_
  repeat'(first|apply zF|apply zB|apply zE|(apply o_g zC;exact rfl;exact rfl)|(apply o_not;exact rfl;exact rfl)|(apply zD;exact rfl;exact rfl;(focus first|exact rfl);exact rfl;(focus exact⟨_,validWindow_any w _,by repeat with_reducible exact Take.nil⟩);rintro _ _ ⟨rfl,rfl⟩)|(apply yC;exact rfl;(focus first|omega))|apply zA|apply zP|apply zN|((with_reducible apply Sd.mk);first|exact True.intro))
  all_goals first
   |(apply zL;(exact(show ResS _ _ _ _ [_,_] from⟨rfl,⟨rfl,trivial⟩⟩));(focus exact⟨_,by unfold greedy;rw[if_neg hw];rfl,.inl ⟨by unfold greedy;rw[if_neg hw],rfl,rfl⟩⟩);(focus repeat with_reducible first|exact Take.nil|apply Take.c|apply Take.drop))
   |(exfalso;simp_all;done)

theorem IsPs.has {h q:SH}{ps:List Pc}{v:Value}(k:IsPs h ps v q):Has q (recs pcC ps) 3 ps.length v∧Take q h:=by
 rcases k with⟨rfl,rfl,rfl⟩|⟨_,A,rfl,rfl⟩
 ·exact⟨⟨none,0,rfl,fun g=>absurd rfl g⟩,(by repeat(first|with_reducible exact Take.nil|with_reducible apply Take.c|((with_reducible apply Take.cE);first|exact rfl|(apply blkE;(focus first|exact rfl|exact yI rfl|exact yO rfl|exact congrArg (fun v=>[v]) (gslE rfl rfl (by first|rfl|exact ‹_›|omega|(simp ;first|done|omega)) (by first|rfl|exact ‹_›|omega|(simp ;first|done|omega)) rfl))))|with_reducible apply Take.drop))⟩
 ·exact⟨⟨_,_,rfl,fun _=>⟨A,false,_,rfl,.head⟩⟩,(by repeat(first|with_reducible exact Take.nil|with_reducible apply Take.c|((with_reducible apply Take.cE);first|exact rfl|(apply blkE;(focus first|exact rfl|exact yI rfl|exact yO rfl|exact congrArg (fun v=>[v]) (gslE rfl rfl (by first|rfl|exact ‹_›|omega|(simp ;first|done|omega)) (by first|rfl|exact ‹_›|omega|(simp ;first|done|omega)) rfl))))|with_reducible apply Take.drop))⟩
end Go.Proofs.YteddogfolceahaaGreat
end
section
set_option maxRecDepth 4000
namespace Go.Gh
open Go.RowKit Go.ChangeShapes

theorem vrel_const {φ:Nat→Loc}{L:Lens}:∀{as0:List Value},as0.all yJ=true→VRel φ L as0 as0.toArray
 |as0,h=>⟨by simp,fun i v hi=>⟨v,by simpa using hi,Val.const ((List.all_eq_true.1 h) v (List.mem_of_getElem? hi))⟩⟩

theorem calls_of {P:Program}{f:FuncId}{as0:List Value}(h:SRun P f as0 [] fun r _=>r=B true)(hc:as0.all yJ=true)(W:World) :
  Calls P f as0.toArray W fun e W'=>e=.returned (.bool true)∧Below W.heap.size W W':=by
 unfold SRun at h
 have h1:=h [] (.start (fun x hx=>(by cases hx)) List.nodup_nil)
 unfold Run at h1
 have h2:=h1 W.heap.size W (fun _=>⟨0,0,0,false⟩) (lens []) (fun _=>⟨0,0,0,false⟩) W as0.toArray (.refl _ _)
  ⟨Below.refl _ _,Nat.le_refl _,fun A g hA=>(by cases hA),fun A g hA=>(by cases hA),fun A A' g _ hA=>(by cases hA)⟩ (vrel_const hc)
 refine h2.mono ?_
 rintro e W' ⟨φ',r,H',v,g1,g2,rfl,g4,q,rfl,g5⟩
 cases g4
 exact⟨rfl,g2.below⟩

section
variable {H:Type} {enc:TypeId × Value→H} {P:Program}
theorem trodAll_below (hl:laidOutB P=true){W W':World}(hb:Below W.heap.size W W'):∀{ts:List TypeId} {vs:List Value} {ds:List (DataW H)} {ps:List MemPlace},
  (ts.all fun t=>P.readableRec t && decide (t<P.types.size))=true→DataW.TrodAll enc P W 0 (fun _=>true) true ts vs ds ps→(∀x∈ps,x.block<W.heap.size) →
  DataW.TrodAll enc P W' 0 (fun b=>decide (b<W.heap.size)) true ts vs ds ps:=by
 intro ts
 induction ts with
 |nil=>intro vs ds ps _ h _;cases vs <;> cases ds <;> first|exact h|exact h.elim
 |cons t ts ih =>
  intro vs ds ps hr h hlt
  simp only[List.all_cons,Bool.and_eq_true,decide_eq_true_eq]at hr
  cases vs with
  |nil=>exact h.elim
  |cons v vs =>
   cases ds with
   |nil=>exact h.elim
   |cons d ds =>
    obtain⟨p,q,h1,h2,rfl⟩:=h
    exact⟨p,q,Below.trod hl hr.1.1 hr.1.2 h1 hb (fun x hx=>hlt x (List.mem_append_left _ hx)),ih (by simpa using hr.2) h2 (fun x hx=>hlt x (List.mem_append_right _ hx)),rfl⟩

theorem post_law {f:Func}{s:ChangeSpec}{W W':World}{args:Array Value}{ds gs:List (DataW H)}{before:List MemPlace}{tb:TypeId}(hl:laidOutB P=true)
  (hW:DataW.Whole enc P f.params.toList s.vars false W args.toList ds gs before) (hv:s.vars=[]) (hr:(f.params.toList.all fun t=>P.readableRec t && decide (t<P.types.size))=true)
  (ht:f.resultTypes=#[tb]) (hk:P.underlying tb=some .bool) (hs:(s.fn H ds).results=[.lit (.bool true)]∧(s.fn H ds).args=ds∧(s.fn H ds).vars=[]) (hb:Below W.heap.size W W') :
  s.post enc P f false true false false W args (.bool true) W':=by
 have hlt:∀p∈before,p.block<W.heap.size:=fun p hp=>hW.lt p hp
 have hW1:=hW
 obtain⟨p,q,h1,h2,h3,h4,h5⟩:=hW1
 rw[hv]at h2
 have hg:gs=[]∧q=[]:=by
  cases gs with
  |nil=>exact⟨rfl,h2⟩
  |cons g gs=>exact h2.elim
 obtain⟨rfl,rfl⟩:=hg
 rw[List.append_nil]at h3
 subst h3
 refine⟨ds,[],before,[],before,[],hW,?_,?_,?_,World.keptBut_mono (fun x hx=>⟨hx,.inr (.inl hx)⟩) (hb.frame (·∈before)),fun h=>by cases h⟩
 ·rw[List.append_nil,hs.1,ht]
  exact⟨[],[],shut_bool hk true,rfl,rfl⟩
 ·rw[List.append_nil,hs.2.1]
  exact trodAll_below hl hb hr h1 hlt
 ·rw[List.append_nil,hs.2.2,hv];rfl
end
end Go.Gh
namespace Go.Gh
open Go.RowKit
theorem wf_u8 {n:Int}(h:(Lit.int .u8 n).wf=true):0≤n∧n<256:=by simp[Lit.wf,IntKind.min,IntKind.max,IntKind.signed,IntKind.bits]at h;omega
theorem len_max {l:List UInt8}(h:(⟨⟨l⟩⟩:ByteArray).size≤maxLen):l.length≤9223372036854775807:=by
 have:(⟨⟨l⟩⟩:ByteArray).size=l.length:=rfl
 unfold maxLen at h;omega
end Go.Gh
end
