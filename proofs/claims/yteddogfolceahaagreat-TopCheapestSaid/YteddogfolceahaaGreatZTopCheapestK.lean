/- Part 11 of the proof of the law TopCheapest: texts merged. No condition. -/
import Derived.Test.YteddogfolceahaaGreatZTopCheapestJ
set_option linter.unusedSimpArgs false
set_option linter.unusedVariables false
section
set_option maxRecDepth 4000
namespace Go.Proofs.YteddogfolceahaaGreat
open Go.Gh Go.RowKit

theorem wds_len :∀(L acc:List (List UInt8)),(wds acc L).length≤acc.length+L.length
 |[],acc=>Nat.le_refl _
 |w::r,acc=>by
  show(if w∈acc then wds acc r else wds (acc++[w]) r).length≤acc.length+(r.length+1)
  split
  ·have:=wds_len r acc;omega
  ·have:=wds_len r (acc++[w]);rw[List.length_append]at this;simp at this;omega
theorem wds_mem :∀(L acc:List (List UInt8)) (x:List UInt8),x∈wds acc L→x∈acc∨x∈L
 |[],acc,x,h=>.inl h
 |w::r,acc,x,h=>by
  have h:x∈(if w∈acc then wds acc r else wds (acc++[w]) r):=h
  split at h
  ·rcases wds_mem r acc x h with h|h
   ·exact .inl h
   ·exact .inr (List.mem_cons_of_mem _ h)
  ·rcases wds_mem r _ x h with h|h
   ·rcases List.mem_append.1 h with h|h
    ·exact .inl h
    ·exact .inr (by rw[List.mem_singleton.1 h];exact List.mem_cons_self)
   ·exact .inr (List.mem_cons_of_mem _ h)
def tx (s:List UInt8):List UInt8:=vnum s.length++s
theorem tx_le (s:List UInt8)(h:s.length≤128):(tx s).length≤137:=by
 unfold tx;rw[List.length_append];have:=vnumT_le s.length;omega
theorem flat_tx :∀(W:List (List UInt8)),(∀s∈W,s.length≤128)→(W.flatMap tx).length≤137*W.length
 |[],_=>Nat.le_refl _
 |s::r,h=>by
  have h1:=tx_le s (h s List.mem_cons_self)
  have h2:=flat_tx r fun x hx=>h x (List.mem_cons_of_mem _ hx)
  rw[List.flatMap_cons,List.length_append,List.length_cons]
  omega
def rlH (c:Int)(W:List (List UInt8)):List UInt8:=vnum c++vnum W.length++W.flatMap tx
def ixs (L:List (List UInt8)):List Int:=(rnR (wds [] L) L L.length).map fun x=>x.1
def cts (L:List (List UInt8)):List Int:=(rnR (wds [] L) L L.length).map fun x=>x.2-1
def ixc (c:Int)(L:List (List UInt8)):List Int:=if c=1 then frs rowL (ixs L)else ixs L
def rlE (c:Int)(L:List (List UInt8)):List UInt8:=rlH c (wds [] L)++tx (mEncN (ixc c L)).1++(mEncN (cts L)).1
inductive Gr2 (h:SH):List Int→List Int→Value→Value→SH→Prop
 |nil:Gr2 h [] [] (.slice none 0 0) (.slice none 0 0) h
 |some (A B:Nat) (l m:List Int):Gr2 h l m (gsl A 0 l.length l.length 1) (gsl B 0 m.length m.length 1) ((B,⟨nodes m,false⟩)::(A,⟨nodes l,false⟩)::h)
theorem Gr2.ofc {h:SH}{A B n k n2 k2:Nat}{l m:List Int}{c d:List Value}(hc:c=nodes l)(hd:d=nodes m)(hn:l.length=n)(hk:k=n)(hn2:m.length=n2)(hk2:k2=n2) :
  Gr2 h l m (gsl A 0 k n 1) (gsl B 0 k2 n2 1) ((B,⟨d,false⟩)::(A,⟨c,false⟩)::h):=by
 subst hc hd hn hk hn2 hk2;exact .some A B l m
theorem map_bang {α β:Type}[Inhabited α][Inhabited β]{f:α→β}{l:List α}{i:Nat}(h:i<l.length):(l.map f)[i]! = f l[i]!:=by
 rw[getElem!_pos _ i (by rw[List.length_map];exact h),getElem!_pos l i h,List.getElem_map]
set_option maxHeartbeats 4000000 in
theorem REncodeAs_any (c:Int)(L:List (List UInt8))(v:Value)(h:SH)(hv:Has h (L.map sV) 1 L.length v)(hc01:c=0∨c=1)(hl:L.length≤4000)(h0:L≠[])(hs:∀s∈L,s.length≤128)
  (he:(mEncN (ixc c L)).1.length≤100000) (he2:(mEncN (cts L)).1.length≤100000) :
  SRun Tryz.prog 124 [I c,v] h fun r q=>r=.tuple #[S (rlE c L),I 0]∧q=h:=by
 obtain⟨ad,fl,rfl,hh⟩:=id hv
 have hC:=fun h hv=>ContainsFunc_no L (.slice ad L.length fl) h hv (by omega) hs
 have hD:=fun h hv=>Dictionary_any L (.slice ad L.length fl) h hv (by omega) h0
 have hR:=fun h hv=>Runs_any' L (.slice ad L.length fl) h hv (by omega) h0
 have hlb:(L.map sV).length=L.length:=by simp
 have hwl:(wds [] L).length≤L.length:=by simpa using wds_len L []
 have hws:∀s∈wds [] L,s.length≤128:=fun s hx=>hs s ((wds_mem L [] s hx).resolve_left (by simp))
 have hrk:=rnR_ok (wds [] L) L L.length
 have hL0:0<L.length:=List.length_pos_iff.2 h0
 have hRb:(ixs L).length=(rnR (wds [] L) L L.length).length:=by simp[ixs]
 have hRc:(cts L).length=(rnR (wds [] L) L L.length).length:=by simp[cts]
 have hib:∀x∈ixs L,0≤x∧x<4096:=fun x hx=>by
  obtain⟨y,hy,rfl⟩:=List.mem_map.1 hx
  have:=hrk.2.2 y hy
  omega
 have hF:=fun v h hv=>Front_any (ixs L) v h hv (by omega) hib
 have hN1:=fun v h hv=>EncodeNumbers_any (ixc c L) v h hv (by unfold ixc;split <;> (try rw[frs_len]) <;> (rw[hRb];unfold maxLen;omega))
 have hN2:=fun v h hv=>EncodeNumbers_any (cts L) v h hv (by rw[hRc];unfold maxLen;omega)
 have hne:rnR (wds [] L) L L.length≠[]:=hrk.1 hL0
 have hrl:=hrk.2.1
 have hrx:=hrk.2.2
 clear hrk
 unfold rlE rlH
 have hix:ixs L=(rnR (wds [] L) L L.length).map fun x=>x.1:=rfl
 have hct:cts L=(rnR (wds [] L) L L.length).map fun x=>x.2-1:=rfl
 have hxc:ixc c L=if c=1 then frs rowL (ixs L)else ixs L:=rfl
 generalize ixc c L=XC at *
 generalize ixs L=XI at *
 generalize cts L=CT at *
 generalize wds [] L=W at *
 generalize rnR W L L.length=R at *
 have hT1:=fun h=>vText_any (mEncN XC).1 h (by omega)
 generalize mEncN XC=E1 at *
 generalize mEncN CT=E2 at *
 obtain⟨e1,f1⟩:=E1
 obtain⟨e2,f2⟩:=E2
 dsimp only at he he2 hT1 ⊢
 have k1:=fun h=>Number_any c h (by omega)
 have k2:=fun h=>Number_any (W.length:Int) h (by omega)
 have z1:=vnumT_le c;have z2:=vnumT_le W.length;have z3:=vnumT_le e1.length
 have hwb:(W.map sV).length=W.length:=by simp
 have hpl:=prl R
 have hcc:(decide (c≠0∧c≠1))=false:=decide_eq_false (by omega)
 refine zY Tryz.func124 rfl rfl ?_
 repeat'(first|apply zF|apply zB|apply zE|(apply o_g zC;exact rfl;exact rfl)|(apply zD;exact rfl;exact rfl;(focus first|exact rfl);exact rfl;(focus exact⟨_,hC _ hv,by repeat with_reducible exact Take.nil⟩);rintro _ _ ⟨rfl,rfl⟩)|(apply zD;exact rfl;exact rfl;(focus first|exact rfl);exact rfl;(focus exact⟨_,hD _ hv,by repeat with_reducible exact Take.nil⟩);rintro _ _ ⟨A6,rfl,rfl⟩)|(apply zD;exact rfl;exact rfl;(focus first|exact rfl);exact rfl;(focus exact⟨_,k1 _,by repeat with_reducible exact Take.nil⟩);rintro _ _ ⟨rfl,rfl⟩)|(apply zD;exact rfl;exact rfl;(focus first|exact rfl);exact rfl;(focus exact⟨_,k2 _,by repeat with_reducible exact Take.nil⟩);rintro _ _ ⟨rfl,rfl⟩)|(apply zU;exact rfl;exact rfl)|(apply yF;iterate 4 exact rfl)|(apply o_gF;(iterate 3 exact rfl);(focus first|omega))|(apply o_guardTN;(iterate 3 exact rfl);all_goals intro hc)|(apply zS;exact rfl)|(apply yD;exact rfl;(focus first|omega))|apply zA|apply zI|apply zH|((with_reducible apply Sd.mk);first|exact True.intro|omega))
 all_goals first|contradiction|(exfalso;omega)|skip
 all_goals
  rename SH=>h
  refine zZ (S:=Nat) (fun i=>[(0,I c),(1,.slice ad L.length fl),(7,S (vnum c++vnum W.length++(W.take i).flatMap tx)),(39,gsl A6 0 W.length W.length 1),(40,I W.length),(41,I i)])
   (fun _=>(A6,⟨W.map sV,false⟩)::h) (fun i=>i≤W.length) (fun i=>W.length-i) 0 (Nat.zero_le _) (by simp only[List.take_zero,List.flatMap_nil,List.append_nil];exact(by repeat'(first|exact trivial|refine⟨rfl,?_⟩|refine⟨congrArg some ?_,?_⟩))) (by repeat with_reducible first|exact Take.nil|apply Take.c|apply Take.drop) ?_
  rintro i hi
  have hfl:=flat_tx (W.take i) fun s hx=>hws s (List.mem_of_mem_take hx)
  have htl:(W.take i).length=i:=by rw[List.length_take];omega
  by_cases hil:i<W.length
  ·have hc1:(W.map sV)[0+((i:Int)).toNat*1]?=some (S W[i]!):=yM hil
   have hwi:=hws _ (mm_bang hil)
   have htk:=tk_bang hil
   have hfx:(W.take (i+1)).flatMap tx=(W.take i).flatMap tx++(vnum W[i]!.length++W[i]!):=by rw[htk,List.flatMap_append];simp[tx]
   generalize W[i]! = w at *
   have hT:=fun h=>vText_any w h (by omega)
   have z4:=vnumT_le w.length
   generalize (W.take i).flatMap tx=F at *
   repeat'(first|apply zF|apply zB|apply zE|(apply o_g zC;exact rfl;exact rfl)|(apply o_ar zC;exact rfl;exact rfl)|(apply zM zC;(iterate 3 exact rfl);(focus exact pk))|(apply zD;exact rfl;exact rfl;(focus first|exact rfl);exact rfl;(focus exact⟨_,hT _,by repeat with_reducible exact Take.nil⟩);rintro _ _ ⟨rfl,rfl⟩)|(apply yC;exact rfl;(focus first|omega))|apply zA|apply zG|apply zI|apply zH|((with_reducible apply Sd.mk);first|exact True.intro|omega|(simp only[List.length_append];omega))|((with_reducible apply Ln.mk);first|omega)|((with_reducible apply Wr.mk);first|exact IntWalk.i64_in _ (by omega))|((with_reducible apply Ce.mk);first|exact hc1)|exact True.intro|exact rfl)
   all_goals first
    |contradiction
    |(exfalso;omega)
    |exact⟨i+1,hil,by show W.length-(i+1)<W.length-i;omega,by rw[hfx];simp only[←List.append_assoc];exact(by repeat'(first|exact trivial|refine⟨rfl,?_⟩|refine⟨congrArg some ?_,?_⟩)),(by repeat with_reducible first|exact Take.nil|apply Take.c|apply Take.drop)⟩
  ·obtain rfl:i=W.length:=by omega
   rw[List.take_length]at hfl ⊢
   generalize W.flatMap tx=F at *
   repeat'(first|apply zF|apply zB|apply zE|(apply o_g zC;exact rfl;exact rfl)|(apply zD;exact rfl;exact rfl;(focus first|exact rfl);exact rfl;(focus exact⟨_,hR _ (hv.re (.drop .nil)),by repeat with_reducible exact Take.nil⟩);rintro _ _ ⟨A51,rfl,rfl⟩)|(apply yD;exact rfl;(focus first|omega))|apply zA|apply zK|apply zJ|apply zV|apply zH|((with_reducible apply Sd.mk);first|exact True.intro))
   all_goals first|contradiction|(exfalso;omega)|skip
   all_goals
    refine zZ (S:=Nat × Value × Value × SH) (fun s=>[(0,I c),(7,S (vnum c++vnum W.length++F)),(10,s.2.1),(11,s.2.2.1),(51,gsl A51 0 (2*R.length) R.length 2),(52,I R.length),(53,I s.1)])
     (fun s=>(A51,⟨recs prF R,false⟩)::s.2.2.2) (fun s=>s.1≤R.length∧Gr2 h (XI.take s.1) (CT.take s.1) s.2.1 s.2.2.1 s.2.2.2) (fun s=>R.length-s.1) (0,.slice none 0 0,.slice none 0 0,h) ⟨Nat.zero_le _,.nil⟩ (by repeat'(first|exact trivial|refine⟨rfl,?_⟩|refine⟨congrArg some ?_,?_⟩)) (by repeat with_reducible first|exact Take.nil|apply Take.c|apply Take.drop) ?_
    rintro⟨j,u1,u2,q⟩ ⟨hj,hg⟩
    dsimp only at hj hg ⊢
    by_cases hjl:j<R.length
    ·have hsub:SubAt (recs prF R) (0+((j:Int)).toNat*2) (prF R[j]!):=subAt_recZ (fun _=>rfl) hjl
     have t1:XI.take (j+1)=XI.take j++[R[j]!.1]:=by rw[tk_bang (by omega),hix,map_bang hjl]
     have t2:CT.take (j+1)=CT.take j++[R[j]!.2-1]:=by rw[tk_bang (by omega),hct,map_bang hjl]
     have hxb:=hrx _ (mm_bang hjl)
     have l1:(XI.take j).length=j:=by rw[List.length_take];omega
     have l2:(CT.take j).length=j:=by rw[List.length_take];omega
     generalize R[j]! = x at *
     obtain⟨a,b⟩:=x
     dsimp only at t1 t2 hxb
     have hsub:SubAt (recs prF R) (0+((j:Int)).toNat*2) [I a,I b]:=hsub
     generalize XI.take j=X1 at *
     generalize CT.take j=C1 at *
     have b1:(nodes X1).length=j:=by rw[List.length_map,l1]
     have b2:(nodes C1).length=j:=by rw[List.length_map,l2]
     cases hg with
     |nil =>
      repeat'(first|apply zF|apply zB|apply zE|(apply yH;(focus kernel_rfl);(focus kernel_rfl))|(apply o_g zC;exact rfl;exact rfl)|(apply o_ar zC;exact rfl;exact rfl)|(apply zM zC;(iterate 3 exact rfl);(focus exact pk))|(apply yQ zC;(iterate 3 exact rfl);(focus exact pk))|(apply yE zC;(iterate 4 exact rfl);(focus exact⟨rfl⟩);(focus exact up))|(apply yG zC;iterate 5 exact rfl)|(apply zT zC;(iterate 5 exact rfl);(focus decide);exact rfl;(focus decide);(focus repeat(first|exact CatR.nil|(apply CatR.one;exact rfl;exact rfl)));exact rfl)|(apply o_append_nil zC;(iterate 5 exact rfl);(focus exact⟨by decide⟩);(focus exact pk))|(apply yC;exact rfl;(focus first|omega))|apply zA|apply zG|apply zI|apply zH|((with_reducible apply Sd.mk);first|exact True.intro|omega|(constructor <;> first|omega|(unfold maxLen;omega)))|((with_reducible apply Ln.mk);first|rfl|omega)|((with_reducible apply Wr.mk);first|exact IntWalk.i64_in _ (by omega))|((with_reducible apply Ce.mk);first|rfl)|((with_reducible apply Pu.mk);first|exact yA rfl)|((with_reducible apply Su.mk);first|exact hsub|exact zQ)|exact True.intro|refine Rc.mk ⟨_,_,pk,?_⟩|exact Or.inl rfl|refine Or.inr (And.intro ?_ ?_)|apply And.intro|apply Or.inr|intro A|exact rfl)
      all_goals first|contradiction|(exfalso;omega)|skip
      rename_i Q3 Q2 Q1 Q0
      exact⟨(j+1,gsl Q1 0 1 1 1,gsl A 0 1 1 1,(A,⟨[I (b-1)],false⟩)::(Q1,⟨[I a],false⟩)::h),⟨hjl,by show Gr2 h (XI.take (j+1)) (CT.take (j+1)) _ _ _;rw[t1,t2];exact .ofc (n:=1) (k:=1) (n2:=1) (k2:=1) rfl rfl rfl rfl rfl rfl⟩,by show R.length-(j+1)<R.length-j;omega,(by repeat'(first|exact trivial|refine⟨rfl,?_⟩|refine⟨congrArg some ?_,?_⟩)),(by repeat with_reducible first|exact Take.nil|apply Take.c|apply Take.drop)⟩
     |some P1 P2 _ _ =>
      repeat'(first|apply zF|apply zB|apply zE|(apply yH;(focus kernel_rfl);(focus kernel_rfl))|(apply o_g zC;exact rfl;exact rfl)|(apply o_ar zC;exact rfl;exact rfl)|(apply zM zC;(iterate 3 exact rfl);(focus exact pk))|(apply yQ zC;(iterate 3 exact rfl);(focus exact pk))|(apply yE zC;(iterate 4 exact rfl);(focus exact⟨rfl⟩);(focus exact up))|(apply yG zC;iterate 5 exact rfl)|(apply zT zC;(iterate 5 exact rfl);(focus decide);exact rfl;(focus decide);(focus repeat(first|exact CatR.nil|(apply CatR.one;exact rfl;exact rfl)));exact rfl)|(apply o_append zC;(iterate 5 exact rfl);(focus exact⟨by decide⟩);(focus exact up);(focus exact pk))|(apply yC;exact rfl;(focus first|omega))|apply zA|apply zG|apply zI|apply zH|((with_reducible apply Sd.mk);first|exact True.intro|omega|(constructor <;> first|omega|(unfold maxLen;omega)))|((with_reducible apply Ln.mk);first|rfl|omega)|((with_reducible apply Wr.mk);first|exact IntWalk.i64_in _ (by omega))|((with_reducible apply Ce.mk);first|rfl)|((with_reducible apply Pu.mk);first|exact yA rfl)|((with_reducible apply Su.mk);first|exact hsub|exact zQ)|exact True.intro|refine Rc.mk ⟨_,_,pk,?_⟩|exact Or.inl rfl|refine Or.inr (And.intro ?_ ?_)|apply And.intro|apply Or.inr|intro A|exact rfl)
      all_goals first
       |contradiction
       |(exfalso;omega)
       |exact⟨(j+1,gsl P1 0 (X1.length+1*1) (X1.length+1) 1,gsl P2 0 (C1.length+1*1) (C1.length+1) 1,(P2,⟨nodes C1++[I (b-1)],false⟩)::(P1,⟨nodes X1++[I a],false⟩)::h),⟨hjl,by show Gr2 h (XI.take (j+1)) (CT.take (j+1)) _ _ _;rw[t1,t2];exact .ofc (by simp) (by simp) (by simp) (by omega) (by simp) (by omega)⟩,by show R.length-(j+1)<R.length-j;omega,(by repeat'(first|exact trivial|refine⟨rfl,?_⟩|refine⟨congrArg some ?_,?_⟩)),(by repeat with_reducible first|exact Take.nil|apply Take.c|apply Take.drop)⟩
    ·obtain rfl:j=R.length:=by omega
     have hR1:0<R.length:=List.length_pos_iff.2 hne
     rw[show XI.take R.length=XI by rw[←hRb,List.take_length],show CT.take R.length=CT by rw[←hRc,List.take_length]]at hg
     clear hix hct hrx hne
     cases hg with
     |nil=>exact absurd hRb (by simp;omega)
     |some P1 P2 _ _ =>
      rcases hc01 with rfl|rfl
      ·rw[if_neg (by decide)]at hxc
       subst hxc
       repeat'(first|apply zF|apply zB|apply zE|(apply yH;(focus kernel_rfl);(focus kernel_rfl))|(apply o_g zC;exact rfl;exact rfl)|(apply o_ar zC;exact rfl;exact rfl)|(apply zM zC;(iterate 3 exact rfl);(focus exact pk))|(apply yQ zC;(iterate 3 exact rfl);(focus exact pk))|(apply yE zC;(iterate 4 exact rfl);(focus exact⟨rfl⟩);(focus exact up))|(apply yG zC;iterate 5 exact rfl)|(apply zT zC;(iterate 5 exact rfl);(focus decide);exact rfl;(focus decide);(focus repeat(first|exact CatR.nil|(apply CatR.one;exact rfl;exact rfl)));exact rfl)|(apply o_append zC;(iterate 5 exact rfl);(focus exact⟨by decide⟩);(focus exact up);(focus exact pk))|(apply zD;exact rfl;exact rfl;(focus first|exact rfl);exact rfl;(focus exact⟨_,hN1 _ _ (hasX rfl (.tail (.tail .head))),by repeat with_reducible exact Take.nil⟩);rintro _ _ ⟨rfl,rfl⟩)|(apply zD;exact rfl;exact rfl;(focus first|exact rfl);exact rfl;(focus exact⟨_,hN2 _ _ (hasX rfl (.tail .head)),by repeat with_reducible exact Take.nil⟩);rintro _ _ ⟨rfl,rfl⟩)|(apply zD;exact rfl;exact rfl;(focus first|exact rfl);exact rfl;(focus exact⟨_,hT1 _,by repeat with_reducible exact Take.nil⟩);rintro _ _ ⟨rfl,rfl⟩)|(apply zS;exact rfl)|(apply yC;exact rfl;(focus first|omega))|(apply yD;exact rfl;(focus first|omega))|apply zA|apply zK|apply zG|apply zJ|apply zI|apply zN|apply zV|apply zH|((with_reducible apply Sd.mk);first|exact True.intro|omega|(simp only[List.length_append];omega))|((with_reducible apply Ln.mk);first|rfl|omega)|((with_reducible apply Wr.mk);first|exact IntWalk.i64_in _ (by omega))|((with_reducible apply Ce.mk);first|rfl)|((with_reducible apply Pu.mk);first|exact yA rfl)|((with_reducible apply Su.mk);first|exact zQ|exact subAt_recZ (fun _=>rfl) (by omega))|exact True.intro|refine Rc.mk ⟨_,_,pk,?_⟩|exact Or.inl rfl|refine Or.inr (And.intro ?_ ?_)|apply And.intro|apply Or.inr|intro A|exact rfl)
       all_goals first
        |contradiction
        |(exfalso;omega)
        |(apply zL;(exact(show ResS _ _ _ _ [_,_] from⟨rfl,⟨rfl,trivial⟩⟩));(focus exact⟨rfl,rfl⟩);(focus repeat with_reducible first|exact Take.nil|apply Take.c|apply Take.drop))
      ·rw[if_pos rfl]at hxc
       have hYl:=frs_len XI rowL
       rw[←hxc]at hF hYl
       clear hxc
       repeat'(first|apply zF|apply zB|apply zE|(apply yH;(focus kernel_rfl);(focus kernel_rfl))|(apply o_g zC;exact rfl;exact rfl)|(apply o_ar zC;exact rfl;exact rfl)|(apply zM zC;(iterate 3 exact rfl);(focus exact pk))|(apply yQ zC;(iterate 3 exact rfl);(focus exact pk))|(apply yE zC;(iterate 4 exact rfl);(focus exact⟨rfl⟩);(focus exact up))|(apply yG zC;iterate 5 exact rfl)|(apply zT zC;(iterate 5 exact rfl);(focus decide);exact rfl;(focus decide);(focus repeat(first|exact CatR.nil|(apply CatR.one;exact rfl;exact rfl)));exact rfl)|(apply o_append zC;(iterate 5 exact rfl);(focus exact⟨by decide⟩);(focus exact up);(focus exact pk))|(apply zD;exact rfl;exact rfl;(focus first|exact rfl);exact rfl;(focus exact⟨_,hF _ _ (hasX rfl (.tail (.tail .head))),by repeat with_reducible exact Take.nil⟩);rintro _ _ ⟨PF,rfl,rfl⟩)|(apply zD;exact rfl;exact rfl;(focus first|exact rfl);exact rfl;(focus exact⟨_,hN1 _ _ (hasX hYl .head),by repeat with_reducible exact Take.nil⟩);rintro _ _ ⟨rfl,rfl⟩)|(apply zD;exact rfl;exact rfl;(focus first|exact rfl);exact rfl;(focus exact⟨_,hN2 _ _ (hasX rfl (.tail (.tail .head))),by repeat with_reducible exact Take.nil⟩);rintro _ _ ⟨rfl,rfl⟩)|(apply zD;exact rfl;exact rfl;(focus first|exact rfl);exact rfl;(focus exact⟨_,hT1 _,by repeat with_reducible exact Take.nil⟩);rintro _ _ ⟨rfl,rfl⟩)|(apply yB;exact rfl)|(apply yC;exact rfl;(focus first|omega))|(apply yD;exact rfl;(focus first|omega))|apply zA|apply zK|apply zG|apply zJ|apply zI|apply zN|apply zV|apply zH|((with_reducible apply Sd.mk);first|exact True.intro|omega|(simp only[List.length_append];omega))|((with_reducible apply Ln.mk);first|rfl|omega)|((with_reducible apply Wr.mk);first|exact IntWalk.i64_in _ (by omega))|((with_reducible apply Ce.mk);first|rfl)|((with_reducible apply Pu.mk);first|exact yA rfl)|((with_reducible apply Su.mk);first|exact zQ|exact subAt_recZ (fun _=>rfl) (by omega))|exact True.intro|refine Rc.mk ⟨_,_,pk,?_⟩|exact Or.inl rfl|refine Or.inr (And.intro ?_ ?_)|apply And.intro|apply Or.inr|intro A|exact rfl)
       all_goals first
        |contradiction
        |(exfalso;omega)
        |(apply zL;(exact(show ResS _ _ _ _ [_,_] from⟨rfl,⟨rfl,trivial⟩⟩));(focus exact⟨rfl,rfl⟩);(focus repeat with_reducible first|exact Take.nil|apply Take.c|apply Take.drop))

structure RlOk (L:List (List UInt8)):Prop where
 ne:L≠[]
 len:L.length≤4000
 el:∀s∈L,s.length≤128
 e0:(mEncN (ixc 0 L)).1.length≤100000
 e1:(mEncN (ixc 1 L)).1.length≤100000
 e2:(mEncN (cts L)).1.length≤100000
def rlA (L:List (List UInt8)):List UInt8:=if(rlE 1 L).length<(rlE 0 L).length then rlE 1 L else rlE 0 L
theorem rlE_le (c:Int){L:List (List UInt8)}(k:RlOk L)(he:(mEncN (ixc c L)).1.length≤100000):(rlE c L).length≤900000:=by
 have h1:(wds [] L).length≤L.length:=by simpa using wds_len L []
 have h2:=flat_tx (wds [] L) fun s hx=>k.el s ((wds_mem L [] s hx).resolve_left (by simp))
 have h3:=k.len;have h4:=k.e2
 have h5:=vnumT_le c;have h6:=vnumT_le (wds [] L).length;have h7:=vnumT_le (mEncN (ixc c L)).1.length
 unfold rlE rlH
 rw[List.length_append,List.length_append,List.length_append,List.length_append]
 have h8:(tx (mEncN (ixc c L)).1).length≤100009:=by unfold tx;rw[List.length_append];omega
 omega
theorem REncode_any (L:List (List UInt8))(v:Value)(h:SH)(hv:Has h (L.map sV) 1 L.length v)(k:RlOk L) :
  SRun Tryz.prog 94 [v] h fun r q=>r=.tuple #[S (rlA L),I 0]∧q=h:=by
 have h0:=fun h hv=>REncodeAs_any 0 L v h hv (.inl rfl) k.len k.ne k.el k.e0 k.e2
 have h1:=fun h hv=>REncodeAs_any 1 L v h hv (.inr rfl) k.len k.ne k.el k.e1 k.e2
 obtain⟨ad,fl,rfl,_⟩:=id hv
 unfold rlA
 generalize rlE 0 L=a at *
 generalize rlE 1 L=b at *
 by_cases hc1:b.length<a.length
 ·rw[if_pos hc1]
  refine zR Tryz.func94 rfl rfl ?_
  repeat'(first|apply zF|apply zB|apply zE|(apply o_g zC;exact rfl;exact rfl)|(apply zD;exact rfl;exact rfl;(focus first|exact rfl);exact rfl;(focus exact⟨_,h0 _ hv,by repeat with_reducible exact Take.nil⟩);rintro _ _ ⟨rfl,rfl⟩)|(apply zD;exact rfl;exact rfl;(focus first|exact rfl);exact rfl;(focus exact⟨_,h1 _ hv,by repeat with_reducible exact Take.nil⟩);rintro _ _ ⟨rfl,rfl⟩)|(apply zS;exact rfl)|(apply yC;exact rfl;(focus first|omega))|apply zA|apply zP|apply zI|apply zN|((with_reducible apply Sd.mk);first|exact True.intro))
  all_goals first
   |contradiction
   |(exfalso;omega)
   |(apply zL;(exact(show ResS _ _ _ _ [_,_] from⟨rfl,⟨rfl,trivial⟩⟩));(focus exact⟨rfl,rfl⟩);(focus repeat with_reducible first|exact Take.nil|apply Take.c|apply Take.drop))
 ·rw[if_neg hc1]
  refine zR Tryz.func94 rfl rfl ?_
  repeat'(first|apply zF|apply zB|apply zE|(apply o_g zC;exact rfl;exact rfl)|(apply zD;exact rfl;exact rfl;(focus first|exact rfl);exact rfl;(focus exact⟨_,h0 _ hv,by repeat with_reducible exact Take.nil⟩);rintro _ _ ⟨rfl,rfl⟩)|(apply zD;exact rfl;exact rfl;(focus first|exact rfl);exact rfl;(focus exact⟨_,h1 _ hv,by repeat with_reducible exact Take.nil⟩);rintro _ _ ⟨rfl,rfl⟩)|(apply zS;exact rfl)|(apply yD;exact rfl;(focus first|omega))|apply zA|apply zI|apply zN|((with_reducible apply Sd.mk);first|exact True.intro))
  all_goals first
   |contradiction
   |(exfalso;omega)
   |(apply zL;(exact(show ResS _ _ _ _ [_,_] from⟨rfl,⟨rfl,trivial⟩⟩));(focus exact⟨rfl,rfl⟩);(focus repeat with_reducible first|exact Take.nil|apply Take.c|apply Take.drop))
def cod2 (L:List Int):List UInt8:=vnum 2++rlA ((gps (-1) L).map vnum)
set_option maxHeartbeats 2000000 in
theorem cod2_any (L:List Int)(v:Value)(T:Nat)(h:SH)(hv:Has h (nodes L) 1 L.length v)(hl:L.length≤4096)(hb:∀x∈L,tok x)(h0:L≠[])(hg:∀x∈gps (-1) L,x≤9223372036854775807)(k:RlOk ((gps (-1) L).map vnum)) :
  SRun Tryz.prog 93 [gptr T 0 1] ((T,⟨[v],false⟩)::h) fun r q=>r=S (cod2 L)∧q=(T,⟨[v],false⟩)::h:=by
 have hG:=fun h hv=>gaps_any L v h hv hl hb
 have hX:=gps_len L (-1)
 have hL0:0<L.length:=List.length_pos_iff.2 h0
 have hrb:(rlA ((gps (-1) L).map vnum)).length≤900000:=by
  unfold rlA;split
  ·exact rlE_le 1 k k.e1
  ·exact rlE_le 0 k k.e0
 have hR:=fun v h hv=>REncode_any ((gps (-1) L).map vnum) v h hv k
 unfold cod2
 generalize rlA ((gps (-1) L).map vnum)=RR at *
 clear k
 generalize gps (-1) L=X at *
 have hxb:(nodes X).length=L.length:=by rw[List.length_map,hX]
 refine zR Tryz.func93 rfl rfl ?_
 repeat'(first|apply zF|apply zB|apply zE|(apply o_g zC;exact rfl;exact rfl)|(apply zM zC;(iterate 3 exact rfl);(focus exact pk))|(apply zD;exact rfl;exact rfl;(focus first|exact rfl);exact rfl;(focus exact⟨_,hG _ (hv.re (.drop .nil)),by repeat with_reducible exact Take.nil⟩);rintro _ _ ⟨A8,rfl,rfl⟩)|apply zA|apply zH|((with_reducible apply Sd.mk);first|exact True.intro)|((with_reducible apply Ln.mk);first|rfl)|((with_reducible apply Ce.mk);first|rfl)|exact True.intro|exact rfl)
 all_goals first|contradiction|(exfalso;omega)|skip
 refine zZ (S:=Nat × Value × SH) (fun s=>[(2,s.2.1),(8,gsl A8 0 L.length L.length 1),(9,I L.length),(10,I s.1)])
  (fun s=>(A8,⟨nodes X,false⟩)::s.2.2) (fun s=>s.1≤L.length∧GrO sV ((T,⟨[v],false⟩)::h) ((X.take s.1).map vnum) s.2.1 s.2.2) (fun s=>L.length-s.1) (0,.slice none 0 0,(T,⟨[v],false⟩)::h) ⟨Nat.zero_le _,.nil⟩ (by repeat'(first|exact trivial|refine⟨rfl,?_⟩|refine⟨congrArg some ?_,?_⟩)) (by repeat with_reducible first|exact Take.nil|apply Take.c|apply Take.drop) ?_
 rintro⟨i,u,q⟩ ⟨hi,hgr⟩
 dsimp only at hi hgr ⊢
 by_cases hil:i<L.length
 ·have hc1:(nodes X)[0+((i:Int)).toNat*1]?=some (I X[i]!):=yM (by omega)
  have htk:(X.take (i+1)).map vnum=(X.take i).map vnum++[vnum X[i]!]:=by rw[tk_bang (by omega),List.map_append];rfl
  have hxi:=ihas_bang hg (i:=i) (by omega)
  generalize X[i]! = x at *
  have hN:=fun h=>Number_any x h hxi
  have hol:((X.take i).map vnum).length=i:=by rw[List.length_map,List.length_take];omega
  generalize (X.take i).map vnum=O at *
  generalize vnum x=y at *
  have hob:(O.map sV).length=O.length:=by simp
  cases hgr with
  |nil =>
   repeat'(first|apply zF|apply zB|apply zE|(apply o_g zC;exact rfl;exact rfl)|(apply o_ar zC;exact rfl;exact rfl)|(apply zM zC;(iterate 3 exact rfl);(focus exact pk))|(apply zT zC;(iterate 5 exact rfl);(focus decide);exact rfl;(focus decide);(focus repeat(first|exact CatR.nil|(apply CatR.one;exact rfl;exact rfl)));exact rfl)|(apply o_append_nil zC;(iterate 5 exact rfl);(focus exact⟨by decide⟩);(focus exact pk))|(apply zD;exact rfl;exact rfl;(focus first|exact rfl);exact rfl;(focus exact⟨_,hN _,by repeat with_reducible exact Take.nil⟩);rintro _ _ ⟨rfl,rfl⟩)|(apply yC;exact rfl;(focus first|omega))|apply zA|apply zG|apply zI|apply zH|((with_reducible apply Sd.mk);first|exact True.intro|omega|(constructor <;> first|omega|(unfold maxLen;omega)))|((with_reducible apply Ln.mk);first|rfl|omega)|((with_reducible apply Wr.mk);first|exact IntWalk.i64_in _ (by omega))|((with_reducible apply Ce.mk);first|exact hc1)|((with_reducible apply Su.mk);first|exact zQ)|exact True.intro|intro A|exact rfl)
   all_goals first
    |contradiction
    |(exfalso;omega)
    |exact⟨(i+1,gsl A 0 1 1 1,(A,⟨[S y],false⟩)::(T,⟨[v],false⟩)::h),⟨hil,by show GrO sV _ ((X.take (i+1)).map vnum) _ _;rw[htk];exact .ofc (n:=1) (k:=1) rfl rfl rfl⟩,by show L.length-(i+1)<L.length-i;omega,(by repeat'(first|exact trivial|refine⟨rfl,?_⟩|refine⟨congrArg some ?_,?_⟩)),(by repeat with_reducible first|exact Take.nil|apply Take.c|apply Take.drop)⟩
  |some P1 _ =>
   repeat'(first|apply zF|apply zB|apply zE|(apply o_g zC;exact rfl;exact rfl)|(apply o_ar zC;exact rfl;exact rfl)|(apply zM zC;(iterate 3 exact rfl);(focus exact pk))|(apply zT zC;(iterate 5 exact rfl);(focus decide);exact rfl;(focus decide);(focus repeat(first|exact CatR.nil|(apply CatR.one;exact rfl;exact rfl)));exact rfl)|(apply o_append zC;(iterate 5 exact rfl);(focus exact⟨by decide⟩);(focus exact up);(focus exact pk))|(apply zD;exact rfl;exact rfl;(focus first|exact rfl);exact rfl;(focus exact⟨_,hN _,by repeat with_reducible exact Take.nil⟩);rintro _ _ ⟨rfl,rfl⟩)|(apply yC;exact rfl;(focus first|omega))|apply zA|apply zG|apply zI|apply zH|((with_reducible apply Sd.mk);first|exact True.intro|omega|(constructor <;> first|omega|(unfold maxLen;omega)))|((with_reducible apply Ln.mk);first|rfl|omega)|((with_reducible apply Wr.mk);first|exact IntWalk.i64_in _ (by omega))|((with_reducible apply Ce.mk);first|exact hc1)|((with_reducible apply Su.mk);first|exact zQ)|exact True.intro|intro A|exact rfl)
   all_goals first
    |contradiction
    |(exfalso;omega)
    |exact⟨(i+1,gsl P1 0 (O.length+1*1) (O.length+1) 1,(P1,⟨O.map sV++[S y],false⟩)::(T,⟨[v],false⟩)::h),⟨hil,by show GrO sV _ ((X.take (i+1)).map vnum) _ _;rw[htk];exact .ofc (n:=O.length+1) (k:=O.length+1*1) (by simp) (by simp) (by omega)⟩,by show L.length-(i+1)<L.length-i;omega,(by repeat'(first|exact trivial|refine⟨rfl,?_⟩|refine⟨congrArg some ?_,?_⟩)),(by repeat with_reducible first|exact Take.nil|apply Take.c|apply Take.drop)⟩
 ·obtain rfl:i=L.length:=by omega
  rw[show X.take L.length=X by rw[←hX,List.take_length]]at hgr
  have hl1:(X.map vnum).length=L.length:=by rw[List.length_map,hX]
  generalize X.map vnum=O at *
  have hHs:=hgr.has.1
  have k2:=fun h=>Number_any 2 h (by decide)
  have z2:=vnumT_le 2
  generalize vnum 2=Z at *
  cases hgr with
  |nil=>exact absurd hl1 (by simp;omega)
  |some P1 _ =>
   repeat'(first|apply zF|apply zB|apply zE|(apply o_g zC;exact rfl;exact rfl)|(apply zD;exact rfl;exact rfl;(focus first|exact rfl);exact rfl;(focus exact⟨_,hR _ _ (hHs.re (.drop .nil)),by repeat with_reducible exact Take.nil⟩);rintro _ _ ⟨rfl,rfl⟩)|(apply zD;exact rfl;exact rfl;(focus first|exact rfl);exact rfl;(focus exact⟨_,k2 _,by repeat with_reducible exact Take.nil⟩);rintro _ _ ⟨rfl,rfl⟩)|(apply yD;exact rfl;(focus first|omega))|apply zA|apply zK|apply zJ|apply zN|apply zV|((with_reducible apply Sd.mk);first|exact True.intro|omega))
   all_goals first
    |contradiction
    |(exfalso;omega)
    |(apply zL;(exact(show ResS _ _ _ _ [_] from⟨rfl,trivial⟩));(focus exact⟨rfl,rfl⟩);(focus repeat with_reducible first|exact Take.nil|apply Take.c|apply Take.drop))
abbrev fCod (T N:Nat):List Value:=[.func (.func 88) #[] #[gptr N 0 1,gptr T 0 1],.func (.func 90) #[] #[gptr T 0 1,gptr N 0 1],.func (.func 93) #[] #[gptr T 0 1]]
theorem codings_any (ad:Option Addr)(n fl:Nat)(h:SH):SRun Tryz.prog 53 [.slice ad n fl] h fun r q=>∃T N A,r=gsl A 0 3 3 1∧q=(A,⟨fCod T N,false⟩)::(N,⟨[fNum],false⟩)::(T,⟨[.slice ad n fl],false⟩)::h:=by
 refine zR Tryz.func53 rfl rfl ?_
 repeat'(first|apply zF|apply zB|apply zE|(apply o_g zC;exact rfl;exact rfl)|(apply zX zC;(iterate 4 exact rfl);(focus exact up))|(apply yG zC;iterate 5 exact rfl)|(apply o_box (tt:=tyT);iterate 5 exact rfl)|(apply zT zC;(iterate 5 exact rfl);(focus decide);exact rfl;(focus decide);(focus repeat(first|exact CatR.nil|(apply CatR.one;exact rfl;exact rfl)));exact rfl)|(apply o_makeFunc;iterate 3 exact rfl)|apply zA|apply zN|((with_reducible apply Sd.mk);first|exact True.intro)|((with_reducible apply Ln.mk);first|rfl)|((with_reducible apply Se.mk);first|(focus(repeat(first|exact SetAt.zero));done))|exact True.intro|intro A)
 rename_i T N
 all_goals first
  |(apply zL;(exact(show ResS _ _ _ _ [_] from⟨rfl,trivial⟩));(focus exact⟨T,N,A,rfl,rfl⟩);(focus repeat with_reducible first|exact Take.nil|apply Take.c|apply Take.drop))

abbrev cs :List UInt8:=[48,49,120,122]
def cd (c:Int):Int:=if c=48 then 0 else if c=49 then 1 else if c=120 then 2 else if c=122 then 3 else -1
theorem cd_at :∀{k:Nat},k<4→cd (bat cs (k:Int))=k
 |0,_=>rfl
 |1,_=>rfl
 |2,_=>rfl
 |3,_=>rfl
 |_+4,h=>by omega
theorem cd_none {c:Int}(h:∀k:Nat,k<4→bat cs (k:Int)≠c):cd c=-1:=by
 have h0:=h 0 (by decide);have h1:=h 1 (by decide);have h2:=h 2 (by decide);have h3:=h 3 (by decide)
 change (48:Int)≠c at h0;change (49:Int)≠c at h1;change (120:Int)≠c at h2;change (122:Int)≠c at h3
 unfold cd
 rw[if_neg h0.symm,if_neg h1.symm,if_neg h2.symm,if_neg h3.symm]
theorem cd_in (c:Int):-1≤cd c∧cd c<4:=by unfold cd;(repeat' split) <;> decide
def ch (k:Int):Int:=if 0≤k∧k<4 then bat cs k else 0
theorem Code_any (c:Int)(h:SH):SRun Tryz.prog 152 [.int .u8 c] h fun r q=>r=I (cd c)∧q=h:=by
 refine zR Tryz.func152 rfl rfl ?_
 repeat'(first|apply zF|apply zB|apply zE|(apply o_g zC;exact rfl;exact rfl)|apply zA|apply zH|((with_reducible apply Sd.mk);first|exact True.intro))
 refine zZ (S:=Nat) (fun k=>[(0,.int .u8 c),(4,I k)]) (fun _=>h) (fun k=>k≤4∧∀j:Nat,j<k→bat cs (j:Int)≠c) (fun k=>4-k) 0 ⟨by omega,fun j hj=>by omega⟩ (by repeat'(first|exact trivial|refine⟨rfl,?_⟩|refine⟨congrArg some ?_,?_⟩)) (by repeat with_reducible first|exact Take.nil|apply Take.c|apply Take.drop) ?_
 rintro k ⟨hk,he⟩
 repeat'(first|apply zF|apply zB|apply zE|(apply o_g zC;exact rfl;exact rfl)|(apply o_ar zC;exact rfl;exact rfl)|(apply w_if;exact rfl;all_goals intro hc)|apply zA|apply zP|apply zK|apply zG|apply yP|apply zJ|apply zI|apply zN|apply zV|apply zH|((with_reducible apply Sd.mk);first|exact True.intro|(constructor <;> first|omega|(unfold maxLen;omega)))|((with_reducible apply Wr.mk);first|exact IntWalk.i64_in _ (by omega)))
 ·(apply zL;(exact(show ResS _ _ _ _ [_] from⟨rfl,trivial⟩));(focus refine⟨?_,rfl⟩;show I _=I _;rw[←hc,cd_at (by omega)]);(focus repeat with_reducible first|exact Take.nil|apply Take.c|apply Take.drop))
 ·exact⟨k+1,⟨by omega,fun j hj=>by
   by_cases e:j=k
   ·subst e;exact hc
   ·exact he j (by omega)⟩,by omega,(by repeat'(first|exact trivial|refine⟨rfl,?_⟩|refine⟨congrArg some ?_,?_⟩)),(by repeat with_reducible first|exact Take.nil|apply Take.c|apply Take.drop)⟩
 ·(apply zL;(exact(show ResS _ _ _ _ [_] from⟨rfl,trivial⟩));(focus refine⟨?_,rfl⟩;show I _=I _;rw[cd_none fun j hj=>he j (by omega)]);(focus repeat with_reducible first|exact Take.nil|apply Take.c|apply Take.drop))
theorem Char_any (k:Int)(h:SH):SRun Tryz.prog 136 [I k] h fun r q=>r=.tuple #[.int .u8 (ch k),B (decide (0≤k∧k<4))]∧q=h:=by
 by_cases hk:0≤k∧k<4
 ·obtain⟨n,rfl⟩:=Int.eq_ofNat_of_zero_le hk.1
  rw[show ch (n:Int)=bat cs n from if_pos hk,decide_eq_true hk]
  refine zR Tryz.func136 rfl rfl ?_
  repeat'(first|apply zF|apply zB|apply zE|(apply o_g zC;exact rfl;exact rfl)|(apply zU;exact rfl;exact rfl)|(apply yD;exact rfl;(focus first|omega))|apply zA|apply zI|apply zN|((with_reducible apply Sd.mk);first|exact True.intro|omega))
  all_goals (apply zL;(exact(show ResS _ _ _ _ [_,_] from⟨rfl,⟨rfl,trivial⟩⟩));(focus exact⟨rfl,rfl⟩);(focus repeat with_reducible first|exact Take.nil|apply Take.c|apply Take.drop))
 ·rw[show ch k=0 from if_neg hk,decide_eq_false hk]
  refine zR Tryz.func136 rfl rfl ?_
  repeat'(first|apply zF|apply zB|apply zE|(apply o_g zC;exact rfl;exact rfl)|(apply zU;exact rfl;exact rfl)|(apply yF;iterate 4 exact rfl)|(apply o_guardF;(iterate 3 exact rfl);all_goals intro hc)|(apply yB;exact rfl)|(apply yC;exact rfl;(focus first|omega))|apply zA|apply zP|apply zN|((with_reducible apply Sd.mk);first|exact True.intro))
  all_goals first|(exfalso;omega)|(apply zL;(exact(show ResS _ _ _ _ [_,_] from⟨rfl,⟨rfl,trivial⟩⟩));(focus exact⟨rfl,rfl⟩);(focus repeat with_reducible first|exact Take.nil|apply Take.c|apply Take.drop))
theorem Valid1_any (c:Int)(h:SH):SRun Tryz.prog 167 [.int .u8 c] h fun r q=>r=B (decide (0≤cd c))∧q=h:=by
 refine zR Tryz.func167 rfl rfl ?_
 repeat'(first|apply zF|apply zB|apply zE|(apply o_g zC;exact rfl;exact rfl)|(apply zD;exact rfl;exact rfl;(focus first|exact rfl);exact rfl;(focus exact⟨_,Code_any c _,by repeat with_reducible exact Take.nil⟩);rintro _ _ ⟨rfl,rfl⟩)|apply zA|apply zN|((with_reducible apply Sd.mk);first|exact True.intro))
 all_goals (apply zL;(exact(show ResS _ _ _ _ [_] from⟨rfl,trivial⟩));(focus exact⟨rfl,rfl⟩);(focus repeat with_reducible first|exact Take.nil|apply Take.c|apply Take.drop))
def ck (c:Int):Int:=if 0≤cd c then cd c else 2
theorem known1_any (c:Int)(h:SH):SRun Tryz.prog 235 [.int .u8 c] h fun r q=>r=I (ck c)∧q=h:=by
 refine zR Tryz.func235 rfl rfl ?_
 repeat'(first|apply zF|apply zB|apply zE|(apply o_g zC;exact rfl;exact rfl)|(apply zD;exact rfl;exact rfl;(focus first|exact rfl);exact rfl;(focus exact⟨_,Code_any c _,by repeat with_reducible exact Take.nil⟩);rintro _ _ ⟨rfl,rfl⟩)|(apply w_if;exact rfl;all_goals intro hc)|apply zA|apply zP|apply zI|apply zN|((with_reducible apply Sd.mk);first|exact True.intro))
 ·(apply zL;(exact(show ResS _ _ _ _ [_] from⟨rfl,trivial⟩));(focus exact⟨by show I _=I _;rw[ck,if_pos (by assumption)],rfl⟩);(focus repeat with_reducible first|exact Take.nil|apply Take.c|apply Take.drop))
 ·(apply zL;(exact(show ResS _ _ _ _ [_] from⟨rfl,trivial⟩));(focus exact⟨by show I _=I _;rw[ck,if_neg (by omega)],rfl⟩);(focus repeat with_reducible first|exact Take.nil|apply Take.c|apply Take.drop))
def nv (c:Int):Int:=if c=48 then 49 else if c=49 then 48 else if c=122 then 122 else 120
theorem ck_at (c:Int):∃k:Nat,ck c=k∧k<4∧nv c=bat [49,48,120,122] k:=by
 have:=cd_in c
 unfold ck nv cd
 (repeat' split) <;> first|(exfalso;omega)|exact⟨0,rfl,by decide,rfl⟩|exact⟨1,rfl,by decide,rfl⟩|exact⟨2,rfl,by decide,rfl⟩|exact⟨3,rfl,by decide,rfl⟩
theorem Inverse1_any (c:Int)(h:SH):SRun Tryz.prog 231 [.int .u8 c] h fun r q=>r=.int .u8 (nv c)∧q=h:=by
 obtain⟨k,e,hk,hn⟩:=ck_at c
 have hK:=fun h=>known1_any c h
 rw[e]at hK
 rw[hn]
 obtain rfl|rfl|rfl|rfl:k=0∨k=1∨k=2∨k=3:=by omega
 all_goals
  refine zR Tryz.func231 rfl rfl ?_
  repeat'(first|apply zF|apply zB|apply zE|(apply o_g zC;exact rfl;exact rfl)|(apply o_buildArr zC;(iterate 4 exact rfl);(focus repeat(first|exact BuildR.nil|(apply BuildR.one;exact rfl;exact rfl;(first|(focus(repeat(first|exact SetAt.zero|apply SetAt.succ));done)))));exact rfl)|(apply zD;exact rfl;exact rfl;(focus first|exact rfl);exact rfl;(focus exact⟨_,hK _,by repeat with_reducible exact Take.nil⟩);rintro _ _ ⟨rfl,rfl⟩)|apply zA|apply zN|((with_reducible apply Sd.mk);first|exact True.intro|omega))
  all_goals (apply zL;(exact(show ResS _ _ _ _ [_] from⟨rfl,trivial⟩));(focus exact⟨rfl,rfl⟩);(focus repeat with_reducible first|exact Take.nil|apply Take.c|apply Take.drop))

def cn (l:List UInt8)(k:Int):Nat:=l.countP fun b=>decide (cd b.toNat=k)
abbrev cnL (l:List UInt8):List Int:=[(cn l 0:Int),(cn l 1:Int),(cn l 2:Int),(cn l 3:Int)]
abbrev cnV (l:List UInt8):List Value:=[I (cn l 0),I (cn l 1),I (cn l 2),I (cn l 3)]
theorem bat_get {l:List UInt8}{i:Nat}(h:i<l.length):bat l (i:Int)=(l[i].toNat:Int):=by
 unfold bat
 rw[Int.toNat_natCast,List.getD_eq_getElem?_getD,List.getElem?_eq_getElem h];rfl
theorem cn_snoc (l:List UInt8)(b:UInt8)(k:Int):cn (l++[b]) k=cn l k+if cd b.toNat=k then 1 else 0:=by
 unfold cn
 rw[List.countP_append,List.countP_singleton]
 by_cases h:cd b.toNat=k <;> simp[h]
theorem btake_snoc {l:List UInt8}{i:Nat}(h:i<l.length):l.take (i+1)=l.take i++[l[i]]:=by
 rw[List.take_add_one,List.getElem?_eq_getElem h];rfl
theorem cn_step {l:List UInt8}{i:Nat}(h:i<l.length)(k:Int):cn (l.take (i+1)) k=cn (l.take i) k+if cd (bat l (i:Int))=k then 1 else 0:=by
 rw[btake_snoc h,cn_snoc,bat_get h]
theorem cn_le (l:List UInt8)(k:Int):cn l k≤l.length:=List.countP_le_length
theorem cnL_step {l:List UInt8}{i k:Nat}(h:i<l.length)(hk:k<4)(e:cd (bat l (i:Int))=(k:Int)):(cnL (l.take i)).set k ((cnL (l.take i))[k]!+1)=cnL (l.take (i+1)):=by
 unfold cnL
 rw[cn_step h,cn_step h,cn_step h,cn_step h,e]
 obtain rfl|rfl|rfl|rfl:k=0∨k=1∨k=2∨k=3:=by omega
 all_goals simp
theorem cnL_skip {l:List UInt8}{i:Nat}(h:i<l.length)(e:cd (bat l (i:Int))=-1):cnL (l.take (i+1))=cnL (l.take i):=by
 unfold cnL
 rw[cn_step h,cn_step h,cn_step h,cn_step h,e]
 simp
theorem cnL_in (l:List UInt8){k:Nat}(hk:k<4):0≤(cnL l)[k]!∧(cnL l)[k]!≤l.length:=by
 have h0:=cn_le l 0;have h1:=cn_le l 1;have h2:=cn_le l 2;have h3:=cn_le l 3
 obtain rfl|rfl|rfl|rfl:k=0∨k=1∨k=2∨k=3:=by omega
 all_goals (unfold cnL;simp;omega)
theorem Count_any (l:List UInt8)(h:SH)(hl:l.length≤9223372036854775807):SRun Tryz.prog 149 [S l] h fun r q=>r=.agg ⟨cnV l⟩∧q=h:=by
 refine zR Tryz.func149 rfl rfl ?_
 repeat'(first|apply zF|apply zB|apply zE|(apply o_g zC;exact rfl;exact rfl)|(apply yG zC;iterate 5 exact rfl)|apply zA|apply zH|((with_reducible apply Sd.mk);first|exact True.intro)|intro A)
 rename_i A2
 refine zZ (S:=Nat) (fun k=>[(0,S l),(7,I l.length),(8,I k),(2,gptr A2 0 4),(3,gptr A 0 4)]) (fun k=>(A,⟨(cnL (l.take k)).map fun n=>I n,false⟩)::(A2,⟨[I 0,I 0,I 0,I 0],false⟩)::h) (fun k=>k≤l.length) (fun k=>l.length-k) 0 (Nat.zero_le _) (by repeat'(first|exact trivial|refine⟨rfl,?_⟩|refine⟨congrArg some ?_,?_⟩)) (.consE .head rfl (.cons .head .nil)) ?_
 intro i hi
 by_cases hil:i<l.length
 ·by_cases hc:0≤cd (bat l (i:Int))
  ·obtain⟨k,hk⟩:=Int.eq_ofNat_of_zero_le hc
   have hk4:k<4:=by have:=cd_in (bat l (i:Int));omega
   have hC:=fun h=>Code_any (bat l (i:Int)) h
   rw[hk]at hC
   have hin:=cnL_in (l.take i) hk4
   rw[List.length_take]at hin
   have hst:=cnL_step hil hk4 hk
   have hL:(cnL (l.take i)).length=4:=rfl
   generalize cnL (l.take i)=L at hin hst hL ⊢
   repeat'(first|apply zF|apply zB|apply zE|(apply o_g zC;exact rfl;exact rfl)|(apply o_ar zC;exact rfl;exact rfl)|(apply zM zC;(iterate 3 exact rfl);(focus exact pk))|(apply zX zC;(iterate 4 exact rfl);(focus exact up))|(apply zD;exact rfl;exact rfl;(focus first|exact rfl);exact rfl;(focus exact⟨_,hC _,by repeat with_reducible exact Take.nil⟩);rintro _ _ ⟨rfl,rfl⟩)|(apply yB;exact rfl)|(apply yC;exact rfl;(focus first|omega))|apply zA|apply zG|apply zI|apply zH|((with_reducible apply Sd.mk);first|exact True.intro|omega)|((with_reducible apply Ln.mk);first|(simp ;first|done|omega))|((with_reducible apply Wr.mk);first|exact IntWalk.i64_in _ (by omega))|((with_reducible apply Ce.mk);first|exact yM (by omega))|((with_reducible apply Se.mk);first|exact setAt_mapZ (by omega))|exact True.intro|exact rfl)
   exact⟨i+1,by show i+1≤_;omega,by show l.length-(i+1)<l.length-i;omega,(by repeat'(first|exact trivial|refine⟨rfl,?_⟩|refine⟨congrArg some ?_,?_⟩)),by rw[←hst];exact(by repeat with_reducible first|exact Take.nil|apply Take.c|apply Take.drop)⟩
  ·have e:cd (bat l (i:Int))=-1:=by have:=cd_in (bat l (i:Int));omega
   repeat'(first|apply zF|apply zB|apply zE|(apply o_g zC;exact rfl;exact rfl)|(apply o_ar zC;exact rfl;exact rfl)|(apply zD;exact rfl;exact rfl;(focus first|exact rfl);exact rfl;(focus exact⟨_,Code_any _ _,by repeat with_reducible exact Take.nil⟩);rintro _ _ ⟨rfl,rfl⟩)|(apply yC;exact rfl;(focus first|omega))|(apply yD;exact rfl;(focus first|omega))|apply zA|apply zG|apply zI|apply zH|((with_reducible apply Sd.mk);first|exact True.intro|omega)|((with_reducible apply Wr.mk);first|exact IntWalk.i64_in _ (by omega)))
   exact⟨i+1,by show i+1≤_;omega,by show l.length-(i+1)<l.length-i;omega,(by repeat'(first|exact trivial|refine⟨rfl,?_⟩|refine⟨congrArg some ?_,?_⟩)),by rw[cnL_skip hil e];exact(by repeat with_reducible first|exact Take.nil|apply Take.c|apply Take.drop)⟩
 ·obtain rfl:i=l.length:=by omega
  repeat'(first|apply zF|apply zB|apply zE|(apply o_g zC;exact rfl;exact rfl)|(apply yQ zC;(iterate 3 exact rfl);(focus exact pk))|(apply yE zC;(iterate 4 exact rfl);(focus exact⟨rfl⟩);(focus exact up))|(apply yD;exact rfl;(focus first|omega))|apply zA|apply zK|apply zJ|apply zN|apply zV|((with_reducible apply Sd.mk);first|exact True.intro)|((with_reducible apply Ln.mk);first|rfl)|((with_reducible apply Pu.mk);first|exact yA rfl)|((with_reducible apply Su.mk);first|exact zQ)|exact True.intro|exact rfl)
  rw[List.take_length]
  (apply zL;(exact(show ResS _ _ _ _ [_] from(res_cell zC rfl rfl rfl (by exact pk) (by first|rfl|exact ‹_›|omega|(simp ;first|done|omega)) (by first|rfl|exact ‹_›|omega|(simp ;first|done|omega)) trivial)));(focus exact⟨rfl,rfl⟩);(focus repeat with_reducible first|exact Take.nil|apply Take.c|apply Take.drop))
def isV (l:List UInt8):Prop:=1≤l.length∧l.length≤128∧∀i:Nat,i<l.length→0≤cd (bat l (i:Int))
theorem cn_sum (l:List UInt8):cn l 0+cn l 1+cn l 2+cn l 3=l.countP fun b=>decide (0≤cd b.toNat):=by
 unfold cn
 induction l with
 |nil=>rfl
 |cons b l ih =>
  have:=cd_in b.toNat
  simp only[List.countP_cons,decide_eq_true_eq]
  obtain e|e|e|e|e:cd b.toNat=-1∨cd b.toNat=0∨cd b.toNat=1∨cd b.toNat=2∨cd b.toNat=3:=by omega
  all_goals (rw[e];simp;omega)
theorem cn_all (l:List UInt8):cn l 0+cn l 1+cn l 2+cn l 3=l.length↔∀i:Nat,i<l.length→0≤cd (bat l (i:Int)):=by
 rw[cn_sum,List.countP_eq_length]
 constructor
 ·intro h i hi
  rw[bat_get hi]
  exact of_decide_eq_true (h _ (List.getElem_mem hi))
 ·intro h b hb
  obtain⟨i,hi,rfl⟩:=List.getElem_of_mem hb
  have:=h i hi
  rw[bat_get hi]at this
  exact decide_eq_true this
theorem isV_iff (l:List UInt8):isV l↔1≤l.length∧l.length≤128∧cn l 0+cn l 1+cn l 2+cn l 3=l.length:=by
 unfold isV;rw[cn_all]
instance (l:List UInt8):Decidable (isV l):=decidable_of_iff _ (isV_iff l).symm
theorem cn_sum_le (l:List UInt8):cn l 0+cn l 1+cn l 2+cn l 3≤l.length:=by rw[cn_sum];exact List.countP_le_length
theorem isV_dec (l:List UInt8):decide (isV l)=decide (1≤l.length∧l.length≤128∧cn l 0+cn l 1+cn l 2+cn l 3=l.length):=decide_eq_decide.2 (isV_iff l)
theorem is_any (l:List UInt8)(h:SH)(hl:l.length≤9223372036854775807):SRun Tryz.prog 125 [S l] h fun r q=>r=B (decide (isV l))∧q=h:=by
 have hs:=cn_sum_le l
 have hz:l=[]↔l.length=0:=List.length_eq_zero_iff.symm
 rw[isV_dec]
 refine zR Tryz.func125 rfl rfl ?_
 repeat'(first|apply zF|apply zB|apply zE|(apply o_g zC;exact rfl;exact rfl)|(apply o_ar zC;exact rfl;exact rfl)|(apply zM zC;(iterate 3 exact rfl);(focus exact pk))|(apply yE zC;(iterate 4 exact rfl);(focus exact⟨rfl⟩);(focus exact up))|(apply yG zC;iterate 5 exact rfl)|(apply zD;exact rfl;exact rfl;(focus first|exact rfl);exact rfl;(focus exact⟨_,Count_any l _ hl,by repeat with_reducible exact Take.nil⟩);rintro _ _ ⟨rfl,rfl⟩)|(apply zU;exact rfl;exact rfl)|(apply yF;iterate 4 exact rfl)|(apply o_guardF;(iterate 3 exact rfl);all_goals intro hc)|(apply yB;exact rfl)|(apply w_if;exact rfl;all_goals intro hc)|apply zA|apply zP|apply zI|apply zN|((with_reducible apply Sd.mk);first|exact True.intro|omega)|((with_reducible apply Ln.mk);first|rfl)|((with_reducible apply Wr.mk);first|exact IntWalk.i64_in _ (by omega))|((with_reducible apply Ce.mk);first|rfl)|((with_reducible apply Pu.mk);first|exact yA rfl)|exact True.intro|intro A|exact rfl)
 ·(apply zL;(exact(show ResS _ _ _ _ [_] from⟨rfl,trivial⟩));(focus exact⟨congrArg B (decide_eq_false (by omega)).symm,rfl⟩);(focus repeat with_reducible first|exact Take.nil|apply Take.c|apply Take.drop))
 ·rename_i h1 _
  rw[hz]at h1
  (apply zL;(exact(show ResS _ _ _ _ [_] from⟨rfl,trivial⟩));(focus exact⟨congrArg B (decide_eq_decide.2 (by omega)),rfl⟩);(focus repeat with_reducible first|exact Take.nil|apply Take.c|apply Take.drop))
 ·rw[hz]at hc
  (apply zL;(exact(show ResS _ _ _ _ [_] from⟨rfl,trivial⟩));(focus exact⟨congrArg B (decide_eq_false (by omega)).symm,rfl⟩);(focus repeat with_reducible first|exact Take.nil|apply Take.c|apply Take.drop))
def isK (l:List UInt8):Prop:=isV l∧cn l 2+cn l 3=0
instance (l:List UInt8):Decidable (isK l):=inferInstanceAs (Decidable (_∧_))
theorem isK_iff (l:List UInt8):isK l↔isV l∧∀i:Nat,i<l.length→bat l (i:Int)=48∨bat l (i:Int)=49:=by
 unfold isK
 constructor
 ·rintro⟨hv,h2⟩
  refine⟨hv,fun i hi=>?_⟩
  have h3:=hv.2.2 i hi
  have n2:cn l 2=0:=by omega
  have n3:cn l 3=0:=by omega
  unfold cn at n2 n3
  rw[List.countP_eq_zero]at n2 n3
  have g2:=n2 _ (List.getElem_mem hi)
  have g3:=n3 _ (List.getElem_mem hi)
  rw[decide_eq_true_eq,←bat_get hi]at g2 g3
  generalize bat l (i:Int)=c at *
  unfold cd at *
  (repeat' split at g2) <;> (repeat' split at g3) <;> (repeat' split at h3) <;> omega
 ·rintro⟨hv,h2⟩
  refine⟨hv,?_⟩
  have n:∀k:Int,(k=2∨k=3)→cn l k=0:=fun k hk=>by
   unfold cn
   rw[List.countP_eq_zero]
   intro b hb
   obtain⟨i,hi,rfl⟩:=List.getElem_of_mem hb
   have:=h2 i hi
   rw[bat_get hi]at this
   rw[decide_eq_true_eq]
   rcases this with e|e <;> rw[e] <;> rcases hk with rfl|rfl <;> decide
  rw[n 2 (.inl rfl),n 3 (.inr rfl)]
theorem known_any (l:List UInt8)(h:SH)(hl:l.length≤9223372036854775807):SRun Tryz.prog 165 [S l] h fun r q=>r=B (decide (isK l))∧q=h:=by
 have hs:=cn_sum_le l
 refine zR Tryz.func165 rfl rfl ?_
 repeat'(first|apply zF|apply zB|apply zE|(apply o_g zC;exact rfl;exact rfl)|(apply o_ar zC;exact rfl;exact rfl)|(apply zM zC;(iterate 3 exact rfl);(focus exact pk))|(apply yE zC;(iterate 4 exact rfl);(focus exact⟨rfl⟩);(focus exact up))|(apply yG zC;iterate 5 exact rfl)|(apply zD;exact rfl;exact rfl;(focus first|exact rfl);exact rfl;(focus exact⟨_,Count_any l _ hl,by repeat with_reducible exact Take.nil⟩);rintro _ _ ⟨rfl,rfl⟩)|(apply zD;exact rfl;exact rfl;(focus first|exact rfl);exact rfl;(focus exact⟨_,is_any l _ hl,by repeat with_reducible exact Take.nil⟩);rintro _ _ ⟨rfl,rfl⟩)|(apply zU;exact rfl;exact rfl)|(apply yF;iterate 4 exact rfl)|(apply o_guardT;(iterate 3 exact rfl);all_goals intro hc)|apply zA|apply zN|((with_reducible apply Sd.mk);first|exact True.intro|omega)|((with_reducible apply Ln.mk);first|rfl)|((with_reducible apply Wr.mk);first|exact IntWalk.i64_in _ (by omega))|((with_reducible apply Ce.mk);first|rfl)|((with_reducible apply Pu.mk);first|exact yA rfl)|exact True.intro|intro A|exact rfl)
 all_goals first
  |(apply zL;(exact(show ResS _ _ _ _ [_] from⟨rfl,trivial⟩));(focus exact⟨congrArg B (decide_eq_decide.2 (by unfold isK;omega)),rfl⟩);(focus repeat with_reducible first|exact Take.nil|apply Take.c|apply Take.drop))
  |(apply zL;(exact(show ResS _ _ _ _ [_] from⟨rfl,trivial⟩));(focus exact⟨congrArg B (decide_eq_false (fun g=>by have:=g.1;contradiction)).symm,rfl⟩);(focus repeat with_reducible first|exact Take.nil|apply Take.c|apply Take.drop))
  |(apply zL;(exact(show ResS _ _ _ _ [_] from⟨rfl,trivial⟩));(focus exact⟨congrArg B (decide_eq_decide.2 ⟨fun g=>⟨by assumption,by omega⟩,fun g=>by have:=g.2;omega⟩),rfl⟩);(focus repeat with_reducible first|exact Take.nil|apply Take.c|apply Take.drop))

theorem w_and1i (v:Int):IntKind.i64.wrap ((BitVec.ofInt IntKind.i64.bits v&&&BitVec.ofInt IntKind.i64.bits 1).toNat:Int)=v%2:=w_mask v (k:=1) (by decide)
theorem w_and1b {v:Int}(h:0≤v∧v<256):IntKind.u8.wrap ((BitVec.ofInt IntKind.u8.bits v&&&BitVec.ofInt IntKind.u8.bits 1).toNat:Int)=v%2:=by
 have:((BitVec.ofInt 8 v&&&BitVec.ofInt 8 1).toNat:Int)=v%2:=by
  rw[BitVec.toNat_and,BitVec.toNat_ofInt,show(BitVec.ofInt 8 1).toNat=1 from rfl,Nat.and_one_is_mod]
  omega
 show IntKind.u8.wrap ((BitVec.ofInt 8 v&&&BitVec.ofInt 8 1).toNat:Int)=_
 rw[this]
 exact IntWalk.u8_in _ (by omega)
theorem ex_half (v:Int)(k:IntKind)(hk:1≤k.bits):v/2^(min (Int.toNat 1) k.bits)=v/2:=by
 rw[show min (Int.toNat 1) k.bits=1 from Nat.min_eq_left hk];rfl
theorem set_last (j:Nat)(b:UInt8)(T:List UInt8):(List.replicate (j+1) 0++T).set ((j:Int)).toNat b=List.replicate j 0++b::T:=by
 rw[Int.toNat_natCast,List.replicate_succ',List.append_assoc,List.set_append_right _ _ (by simp)]
 simp
def dsum (a b:List UInt8):Nat→Int→List UInt8
 |0,_=>[]
 |k+1,c=>dsum a b k ((bat a (k:Int)-48+bat b (k:Int)-48+c)/2)++[b8 (48+(bat a (k:Int)-48+bat b (k:Int)-48+c)%2)]
theorem sum_any (a b:List UInt8)(c:Int)(h:SH)(ha:a.length≤128)(hb:b.length=a.length)(hc:c=0∨c=1)(hda:∀i:Nat,i<a.length→bat a (i:Int)=48∨bat a (i:Int)=49)(hdb:∀i:Nat,i<a.length→bat b (i:Int)=48∨bat b (i:Int)=49) :
  SRun Tryz.prog 166 [S a,S b,.int .u8 c] h fun r q=>r=S (dsum a b a.length c)∧q=h:=by
 refine w_body3 Tryz.func166 rfl rfl ?_
 repeat'(first|apply zF|apply zB|apply zE|(apply o_g zC;exact rfl;exact rfl)|(apply o_ar zC;exact rfl;exact rfl)|(apply yG zC;iterate 5 exact rfl)|apply zA|apply zH|((with_reducible apply Sd.mk);first|exact True.intro)|((with_reducible apply Wr.mk);first|exact IntWalk.i64_in _ (by omega))|intro A)
 refine zZ (S:=Nat × Int × List UInt8) (fun x=>[(0,S a),(1,S b),(2,.int .u8 x.2.1),(7,gptr A 0 128),(8,I ((x.1:Int)-1))]) (fun x=>(A,⟨bytesV (List.replicate x.1 0++(x.2.2++List.replicate (128-a.length) 0)),false⟩)::h)
  (fun x=>x.1+x.2.2.length=a.length∧(x.2.1=0∨x.2.1=1)∧dsum a b a.length c=dsum a b x.1 x.2.1++x.2.2) (fun x=>x.1) (a.length,c,[]) ⟨by simp,hc,by simp⟩ (by repeat'(first|exact trivial|refine⟨rfl,?_⟩|refine⟨congrArg some ?_,?_⟩)) (.consE .head (by rw[List.nil_append,List.replicate_append_replicate,show a.length+(128-a.length)=128 by omega];rfl) .nil) ?_
 rintro⟨k,m,T⟩ ⟨h1,h3,h2⟩
 dsimp only at h1 h2 h3 ⊢
 cases k with
 |zero =>
  have e:T=dsum a b a.length c:=by rw[h2];rfl
  have hlT:T.length=a.length:=by omega
  have hsub:SubAt (bytesV (List.replicate 0 0++(T++List.replicate (128-a.length) 0))) 0 (bytesV T):=fun i v hi=>by
   have hlt:=(List.getElem?_eq_some_iff.1 hi).1
   rw[Nat.zero_add,show bytesV (List.replicate 0 0++(T++List.replicate (128-a.length) 0))=bytesV T++bytesV (List.replicate (128-a.length) 0)by simp[bytesV],List.getElem?_append_left hlt]
   exact hi
  have hlT2:T.length=((a.length:Int)).toNat:=by omega
  repeat'(first|apply zF|apply zB|apply zE|(apply o_g zC;exact rfl;exact rfl)|(apply o_toString zC;(iterate 6 exact rfl);(focus exact pk))|(apply zS;exact rfl)|apply zA|apply zK|apply zJ|apply zN|apply zV|((with_reducible apply Sd.mk);first|exact True.intro|(constructor <;> first|omega|(unfold maxLen;omega)))|((with_reducible apply Ln.mk);first|exact hlT2|(simp ;first|done|omega))|((with_reducible apply Su.mk);first|exact hsub)|exact True.intro|exact rfl)
  rw[←e]
  (apply zL;(exact(show ResS _ _ _ _ [_] from⟨rfl,trivial⟩));(focus exact⟨rfl,rfl⟩);(focus repeat with_reducible first|exact Take.nil|apply Take.c|apply Take.drop))
 |succ j =>
  rw[show(((j+1:Nat):Int)-1)=(j:Int)by omega]
  have hlen:(List.replicate (j+1) (0:UInt8)++(T++List.replicate (128-a.length) 0)).length=128:=by simp;omega
  have g1:=hda j (by omega)
  have g2:=hdb j (by omega)
  obtain⟨s,hs⟩:∃s,s=bat a (j:Int)-48+bat b (j:Int)-48+m:=⟨_,rfl⟩
  have hset:=set_last j (b8 (48+s%2)) (T++List.replicate (128-a.length) 0)
  generalize List.replicate (j+1) (0:UInt8)++(T++List.replicate (128-a.length) 0)=X at hlen hset ⊢
  repeat'(first|apply zF|apply zB|apply zE|(apply yH;(focus kernel_rfl);(focus kernel_rfl))|(apply o_g zC;exact rfl;exact rfl)|(apply o_ar zC;exact rfl;exact rfl)|(apply o_ex;exact rfl;exact rfl)|(apply zX zC;(iterate 4 exact rfl);(focus exact up))|(apply yB;exact rfl)|apply zA|apply zG|apply zI|apply zH|((with_reducible apply Sd.mk);first|exact True.intro|omega)|((with_reducible apply Ln.mk);first|(simp ;first|done|omega))|((with_reducible apply Wr.mk);first|exact w_and1b (by omega)|exact IntWalk.i64_in _ (by omega)|exact IntWalk.u8_in _ (by omega))|((with_reducible apply Ex.mk);first|exact ex_half _ _ (by decide))|((with_reducible apply Se.mk);first|exact setAt_bytes (by omega) (by omega))|exact True.intro)
  rw[←hs]
  exact⟨(j,s/2,b8 (48+s%2)::T),⟨by simp;omega,by show s/2=0∨s/2=1;omega,by rw[h2];simp[dsum,←hs]⟩,by show j<j+1;omega,(by repeat'(first|exact trivial|refine⟨rfl,?_⟩|refine⟨congrArg some ?_,?_⟩)),by rw[hset];exact(by repeat with_reducible first|exact Take.nil|apply Take.c|apply Take.drop)⟩

def emap (F:Int→Int)(l:List UInt8):List UInt8:=l.map fun b=>b8 (F b.toNat)
theorem emap_len (F:Int→Int)(l:List UInt8):(emap F l).length=l.length:=List.length_map _
theorem emap_set {F:Int→Int}{l:List UInt8}{i:Nat}(h:i<l.length):(emap F (l.take i)++l.drop i).set ((i:Int)).toNat (b8 (F (bat l (i:Int))))=emap F (l.take (i+1))++l.drop (i+1):=by
 have hl:(emap F (l.take i)).length=i:=by rw[emap_len,List.length_take];omega
 rw[Int.toNat_natCast,List.set_append_right _ _ (by omega),hl,Nat.sub_self,List.drop_eq_getElem_cons h,List.set_cons_zero,bat_get h,btake_snoc h]
 simp only[emap,List.map_append,List.map_cons,List.map_nil,List.append_assoc,List.singleton_append]
theorem emap_at {F:Int→Int}{l:List UInt8}{i:Nat}(h:i<l.length):bat (emap F (l.take i)++l.drop i) (i:Int)=bat l (i:Int):=by
 have hl:(emap F (l.take i)).length=i:=by rw[emap_len,List.length_take];omega
 unfold bat
 rw[Int.toNat_natCast,List.getD_eq_getElem?_getD,List.getD_eq_getElem?_getD,List.getElem?_append_right (by omega),hl,Nat.sub_self,List.getElem?_drop,Nat.add_zero]
theorem each0_any (l:List UInt8)(id:FuncId)(F:Int→Int)(h:SH)(hl:l.length≤9223372036854775807)(hen:enters Tryz.prog id=true)(hF:∀c,0≤c∧c<256→0≤F c∧F c<256)
  (hf:∀(c:Int) (x:Nat × Blk),0≤c∧c<256→SRun Tryz.prog id [.int .u8 c] (x::h) fun r q=>r=.int .u8 (F c)∧q=x::h) :
  SRun Tryz.prog 230 [S l,.func (.func id) ⟨[]⟩ ⟨[]⟩] h fun r q=>r=S (emap F l)∧q=h:=by
 refine zY Tryz.func230 rfl rfl ?_
 repeat'(first|apply zF|apply zB|apply zE|(apply o_g zC;exact rfl;exact rfl)|(apply o_toBytes zC;iterate 7 exact rfl)|apply zA|apply zH|((with_reducible apply Sd.mk);first|exact True.intro|(unfold maxLen;omega))|intro A)
 refine zZ (S:=Nat) (fun i=>[(0,S l),(1,.func (.func id) ⟨[]⟩ ⟨[]⟩),(5,gsl A 0 l.length l.length 1),(10,gsl A 0 l.length l.length 1),(11,I l.length),(12,I i)]) (fun i=>(A,⟨bytesV (emap F (l.take i)++l.drop i),false⟩)::h)
  (fun i=>i≤l.length) (fun i=>l.length-i) 0 (Nat.zero_le _) (by repeat'(first|exact trivial|refine⟨rfl,?_⟩|refine⟨congrArg some ?_,?_⟩)) (by repeat(first|with_reducible exact Take.nil|with_reducible apply Take.c|((with_reducible apply Take.cE);first|exact rfl|(apply blkE;(focus first|exact rfl|exact yI rfl|exact yO rfl|exact congrArg (fun v=>[v]) (gslE rfl rfl (by first|rfl|exact ‹_›|omega|(simp ;first|done|omega)) (by first|rfl|exact ‹_›|omega|(simp ;first|done|omega)) rfl))))|with_reducible apply Take.drop)) ?_
 intro i hi
 by_cases hil:i<l.length
 ·have hX:(emap F (l.take i)++l.drop i).length=l.length:=by rw[List.length_append,emap_len,List.length_take,List.length_drop];omega
  have hat:=emap_at (F:=F) hil
  have hst:=emap_set (F:=F) hil
  generalize emap F (l.take i)++l.drop i=X at hX hat hst ⊢
  have hb:0≤bat X (i:Int)∧bat X (i:Int)<256:=⟨bat_lo _ _,bat_hi _ _⟩
  have hFb:=hF _ hb
  rw[←hat]at hst
  repeat'(first|apply zF|apply zB|apply zE|(apply o_g zC;exact rfl;exact rfl)|(apply o_ar zC;exact rfl;exact rfl)|(apply zM zC;(iterate 3 exact rfl);(focus exact pk))|(apply zX zC;(iterate 4 exact rfl);(focus exact up))|(apply zD;exact rfl;exact rfl;(focus first|assumption);exact rfl;(focus exact⟨_,hf _ _ hb,by repeat with_reducible exact Take.nil⟩);rintro _ _ ⟨rfl,rfl⟩)|(apply yC;exact rfl;(focus first|omega))|apply zA|apply zG|apply zI|apply zH|((with_reducible apply Sd.mk);first|exact True.intro|omega)|((with_reducible apply Ln.mk);first|(simp ;first|done|omega))|((with_reducible apply Wr.mk);first|exact IntWalk.i64_in _ (by omega))|((with_reducible apply Ce.mk);first|exact cell_bytes (by omega))|((with_reducible apply Se.mk);first|exact setAt_bytes (by omega) (by omega))|exact True.intro|exact rfl)
  exact⟨i+1,by show i+1≤_;omega,by show l.length-(i+1)<l.length-i;omega,(by repeat'(first|exact trivial|refine⟨rfl,?_⟩|refine⟨congrArg some ?_,?_⟩)),by rw[←hst];exact(by repeat with_reducible first|exact Take.nil|apply Take.c|apply Take.drop)⟩
 ·obtain rfl:i=l.length:=by omega
  rw[List.take_length,List.drop_length,List.append_nil]
  have hlen:=emap_len F l
  repeat'(first|apply zF|apply zB|apply zE|(apply o_g zC;exact rfl;exact rfl)|(apply o_toString zC;(iterate 6 exact rfl);(focus exact pk))|(apply yD;exact rfl;(focus first|omega))|apply zA|apply zK|apply zJ|apply zN|apply zV|((with_reducible apply Sd.mk);first|exact True.intro)|((with_reducible apply Ln.mk);first|exact ‹_›|(simp ;first|done|omega))|((with_reducible apply Su.mk);first|exact zQ)|exact True.intro|exact rfl)
  (apply zL;(exact(show ResS _ _ _ _ [_] from⟨rfl,trivial⟩));(focus exact⟨rfl,rfl⟩);(focus repeat with_reducible first|exact Take.nil|apply Take.c|apply Take.drop))
theorem brun_rep (b:UInt8)(k:Nat):Lib.repeatL [b] k=List.replicate k b:=by
 have:=Lib.repeatL_replicate b 1 k
 rwa [Nat.mul_one]at this
theorem Run_any (b:UInt8)(k:Int)(h:SH)(hk:0≤k∧k≤100000):SRun Tryz.prog 168 [S [b],I k] h fun r q=>r=S (List.replicate k.toNat b)∧q=h:=by
 obtain⟨n,rfl⟩:=Int.eq_ofNat_of_zero_le hk.1
 rw[Int.toNat_natCast,←brun_rep]
 exact Repeat_any [b] n h (by omega) (by simp;omega)

theorem nv_in (c:Int):0≤nv c∧nv c<256:=by unfold nv;(repeat' split) <;> omega
def inv (l:List UInt8):List UInt8:=if isV l then emap nv l else []
theorem Inverse_any (l:List UInt8)(h:SH)(hl:l.length≤9223372036854775807):SRun Tryz.prog 196 [S l] h fun r q=>r=S (inv l)∧q=h:=by
 by_cases hv:isV l
 ·rw[show inv l=emap nv l from if_pos hv]
  refine zR Tryz.func196 rfl rfl ?_
  repeat'(first|apply zF|apply zB|apply zE|(apply o_g zC;exact rfl;exact rfl)|(apply o_not;exact rfl;exact rfl)|(apply zD;exact rfl;exact rfl;(focus first|exact rfl);exact rfl;(focus exact⟨_,is_any l _ hl,by repeat with_reducible exact Take.nil⟩);rintro _ _ ⟨rfl,rfl⟩)|(apply zD;exact rfl;exact rfl;(focus first|exact rfl);exact rfl;(focus exact⟨_,each0_any l _ nv _ hl rfl (fun c _=>nv_in c) (fun c x _=>Inverse1_any c _),by repeat with_reducible exact Take.nil⟩);rintro _ _ ⟨rfl,rfl⟩)|(apply w_ifN;exact rfl;all_goals intro hc)|apply zA|apply zP|apply zI|apply zN|((with_reducible apply Sd.mk);first|exact True.intro))
  all_goals first|contradiction|(apply zL;(exact(show ResS _ _ _ _ [_] from⟨rfl,trivial⟩));(focus exact⟨rfl,rfl⟩);(focus repeat with_reducible first|exact Take.nil|apply Take.c|apply Take.drop))
 ·rw[show inv l=[] from if_neg hv]
  refine zR Tryz.func196 rfl rfl ?_
  repeat'(first|apply zF|apply zB|apply zE|(apply o_g zC;exact rfl;exact rfl)|(apply o_not;exact rfl;exact rfl)|(apply zD;exact rfl;exact rfl;(focus first|exact rfl);exact rfl;(focus exact⟨_,is_any l _ hl,by repeat with_reducible exact Take.nil⟩);rintro _ _ ⟨rfl,rfl⟩)|(apply yC;exact rfl;(focus first|omega))|apply zA|apply zP|apply zN|((with_reducible apply Sd.mk);first|exact True.intro))
  all_goals first|contradiction|(apply zL;(exact(show ResS _ _ _ _ [_] from⟨rfl,trivial⟩));(focus exact⟨rfl,rfl⟩);(focus repeat with_reducible first|exact Take.nil|apply Take.c|apply Take.drop))
theorem bat_emap (F:Int→Int)(l:List UInt8)(i:Nat)(hi:i<l.length)(hF:0≤F (bat l (i:Int))∧F (bat l (i:Int))<256):bat (emap F l) (i:Int)=F (bat l (i:Int)):=by
 rw[bat_get (show i<(emap F l).length by rw[emap_len];exact hi),bat_get hi]at *
 simp only[emap,List.getElem_map]
 exact b8_val hF
def addOk (a b:List UInt8):Prop:=isK a∧isK b∧a.length=b.length
instance (a b:List UInt8):Decidable (addOk a b):=inferInstanceAs (Decidable (_∧_∧_))
theorem Add_any (a b:List UInt8)(h:SH)(ha:a.length≤9223372036854775807)(hb:b.length≤9223372036854775807):SRun Tryz.prog 138 [S a,S b] h fun r q=>r=.tuple #[S (if addOk a b then dsum a b a.length 0 else []),B (decide (addOk a b))]∧q=h:=by
 by_cases hk:addOk a b
 ·rw[if_pos hk,decide_eq_true hk]
  obtain⟨h1,h2,h3⟩:=hk
  have g1:=(isK_iff a).1 h1
  have g2:=(isK_iff b).1 h2
  refine zY Tryz.func138 rfl rfl ?_
  repeat'(first|apply zF|apply zB|apply zE|(apply o_g zC;exact rfl;exact rfl)|(apply o_not;exact rfl;exact rfl)|(apply zD;exact rfl;exact rfl;(focus first|exact rfl);exact rfl;(focus exact⟨_,known_any _ _ ha,by repeat with_reducible exact Take.nil⟩);rintro _ _ ⟨rfl,rfl⟩)|(apply zD;exact rfl;exact rfl;(focus first|exact rfl);exact rfl;(focus exact⟨_,known_any _ _ hb,by repeat with_reducible exact Take.nil⟩);rintro _ _ ⟨rfl,rfl⟩)|(apply zD;exact rfl;exact rfl;(focus first|exact rfl);exact rfl;(focus exact⟨_,sum_any a b 0 _ g1.1.2.1 h3.symm (.inl rfl) g1.2 (fun i hi=>g2.2 i (by omega)),by repeat with_reducible exact Take.nil⟩);rintro _ _ ⟨rfl,rfl⟩)|(apply zU;exact rfl;exact rfl)|(apply yF;iterate 4 exact rfl)|(apply o_guardFN;(iterate 3 exact rfl);all_goals intro hc)|(apply yB;exact rfl)|(apply yD;exact rfl;(focus first|omega))|apply zA|apply zP|apply zI|apply zN|((with_reducible apply Sd.mk);first|exact True.intro))
  all_goals first|contradiction|(exfalso;omega)|(apply zL;(exact(show ResS _ _ _ _ [_,_] from⟨rfl,⟨rfl,trivial⟩⟩));(focus exact⟨rfl,rfl⟩);(focus repeat with_reducible first|exact Take.nil|apply Take.c|apply Take.drop))
 ·rw[if_neg hk,decide_eq_false hk]
  refine zY Tryz.func138 rfl rfl ?_
  repeat'((fail_if_success (show SWp _ _ (Code.seq (Code.region 3 _ _) _) _ _ _));(fail_if_success (show SWp _ _ (Code.region 3 _ _) _ _ _));first|apply zF|apply zB|apply zE|(apply o_g zC;exact rfl;exact rfl)|(apply o_not;exact rfl;exact rfl)|(apply zD;exact rfl;exact rfl;(focus first|exact rfl);exact rfl;(focus exact⟨_,known_any _ _ ha,by repeat with_reducible exact Take.nil⟩);rintro _ _ ⟨rfl,rfl⟩)|(apply zD;exact rfl;exact rfl;(focus first|exact rfl);exact rfl;(focus exact⟨_,known_any _ _ hb,by repeat with_reducible exact Take.nil⟩);rintro _ _ ⟨rfl,rfl⟩)|(apply zU;exact rfl;exact rfl)|(apply yF;iterate 4 exact rfl)|(apply o_guardFN;(iterate 3 exact rfl);all_goals intro hc)|(apply yB;exact rfl)|(apply w_ifN;exact rfl;all_goals intro hc)|apply zA|apply zP|apply zI|apply zN|((with_reducible apply Sd.mk);first|exact True.intro))
  all_goals first
   |(apply zL;(exact(show ResS _ _ _ _ [_,_] from⟨rfl,⟨rfl,trivial⟩⟩));(focus exact⟨rfl,rfl⟩);(focus repeat with_reducible first|exact Take.nil|apply Take.c|apply Take.drop))
   |(exfalso;exact hk ⟨by assumption,by assumption,by omega⟩)
theorem Difference_any (a b:List UInt8)(h:SH)(ha:a.length≤9223372036854775807)(hb:b.length≤9223372036854775807):SRun Tryz.prog 177 [S a,S b] h fun r q=>r=.tuple #[S (if addOk a b then dsum b (emap nv a) b.length 1 else []),B (decide (addOk a b))]∧q=h:=by
 by_cases hk:addOk a b
 ·rw[if_pos hk,decide_eq_true hk]
  obtain⟨h1,h2,h3⟩:=hk
  have g1:=(isK_iff a).1 h1
  have g2:=(isK_iff b).1 h2
  have hI:=fun h=>Inverse_any a h ha
  rw[show inv a=emap nv a from if_pos g1.1]at hI
  have hd:∀i:Nat,i<b.length→bat (emap nv a) (i:Int)=48∨bat (emap nv a) (i:Int)=49:=fun i hi=>by
   rw[bat_emap nv a i (by omega) (nv_in _)]
   rcases g1.2 i (by omega)with e|e <;> rw[e] <;> decide
  refine zY Tryz.func177 rfl rfl ?_
  repeat'(first|apply zF|apply zB|apply zE|(apply o_g zC;exact rfl;exact rfl)|(apply o_not;exact rfl;exact rfl)|(apply zD;exact rfl;exact rfl;(focus first|exact rfl);exact rfl;(focus exact⟨_,known_any _ _ ha,by repeat with_reducible exact Take.nil⟩);rintro _ _ ⟨rfl,rfl⟩)|(apply zD;exact rfl;exact rfl;(focus first|exact rfl);exact rfl;(focus exact⟨_,known_any _ _ hb,by repeat with_reducible exact Take.nil⟩);rintro _ _ ⟨rfl,rfl⟩)|(apply zD;exact rfl;exact rfl;(focus first|exact rfl);exact rfl;(focus exact⟨_,hI _,by repeat with_reducible exact Take.nil⟩);rintro _ _ ⟨rfl,rfl⟩)|(apply zD;exact rfl;exact rfl;(focus first|exact rfl);exact rfl;(focus exact⟨_,sum_any b (emap nv a) 1 _ g2.1.2.1 (by rw[emap_len];exact h3) (.inr rfl) g2.2 hd,by repeat with_reducible exact Take.nil⟩);rintro _ _ ⟨rfl,rfl⟩)|(apply zU;exact rfl;exact rfl)|(apply yF;iterate 4 exact rfl)|(apply o_guardFN;(iterate 3 exact rfl);all_goals intro hc)|(apply yB;exact rfl)|(apply yD;exact rfl;(focus first|omega))|apply zA|apply zP|apply zI|apply zN|((with_reducible apply Sd.mk);first|exact True.intro))
  all_goals first|contradiction|(exfalso;omega)|(apply zL;(exact(show ResS _ _ _ _ [_,_] from⟨rfl,⟨rfl,trivial⟩⟩));(focus exact⟨rfl,rfl⟩);(focus repeat with_reducible first|exact Take.nil|apply Take.c|apply Take.drop))
 ·rw[if_neg hk,decide_eq_false hk]
  refine zY Tryz.func177 rfl rfl ?_
  repeat'((fail_if_success (show SWp _ _ (Code.seq (Code.region 3 _ _) _) _ _ _));(fail_if_success (show SWp _ _ (Code.region 3 _ _) _ _ _));first|apply zF|apply zB|apply zE|(apply o_g zC;exact rfl;exact rfl)|(apply o_not;exact rfl;exact rfl)|(apply zD;exact rfl;exact rfl;(focus first|exact rfl);exact rfl;(focus exact⟨_,known_any _ _ ha,by repeat with_reducible exact Take.nil⟩);rintro _ _ ⟨rfl,rfl⟩)|(apply zD;exact rfl;exact rfl;(focus first|exact rfl);exact rfl;(focus exact⟨_,known_any _ _ hb,by repeat with_reducible exact Take.nil⟩);rintro _ _ ⟨rfl,rfl⟩)|(apply zU;exact rfl;exact rfl)|(apply yF;iterate 4 exact rfl)|(apply o_guardFN;(iterate 3 exact rfl);all_goals intro hc)|(apply yB;exact rfl)|(apply w_ifN;exact rfl;all_goals intro hc)|apply zA|apply zP|apply zI|apply zN|((with_reducible apply Sd.mk);first|exact True.intro))
  all_goals first
   |(apply zL;(exact(show ResS _ _ _ _ [_,_] from⟨rfl,⟨rfl,trivial⟩⟩));(focus exact⟨rfl,rfl⟩);(focus repeat with_reducible first|exact Take.nil|apply Take.c|apply Take.drop))
   |(exfalso;exact hk ⟨by assumption,by assumption,by omega⟩)

def sc (x:List UInt8):Prop:=(bat x 0=bat x 1∧bat x 0≠49)∨(bat x 0=48∧bat x 1=49)
instance (x:List UInt8):Decidable (sc x):=inferInstanceAs (Decidable (_∨_))
def bsh :List UInt8→List UInt8
 |a::b::r=>if sc (a::b::r)then bsh (b::r)else a::b::r
 |l=>l
theorem Shorten_any (l:List UInt8)(h:SH)(hl:l.length≤9223372036854775807):SRun Tryz.prog 157 [S l] h fun r q=>r=S (if isV l then bsh l else [])∧q=h:=by
 by_cases hv:isV l
 ·rw[if_pos hv]
  refine zR Tryz.func157 rfl rfl ?_
  repeat'((fail_if_success (show SWp _ _ (Code.seq (Code.region 3 _ _) _) _ _ _));(fail_if_success (show SWp _ _ (Code.region 3 _ _) _ _ _));first|apply zF|apply zB|apply zE|(apply o_g zC;exact rfl;exact rfl)|(apply o_not;exact rfl;exact rfl)|(apply zD;exact rfl;exact rfl;(focus first|exact rfl);exact rfl;(focus exact⟨_,is_any _ _ hl,by repeat with_reducible exact Take.nil⟩);rintro _ _ ⟨rfl,rfl⟩)|(apply w_ifN;exact rfl;all_goals intro hc)|apply zA|apply zP|apply zI|apply zN|apply zH|((with_reducible apply Sd.mk);first|exact True.intro))
  all_goals first
   |contradiction
   |skip
  rename_i q
  refine zZ (S:=List UInt8) (fun x=>[(0,S x)]) (fun _=>q) (fun x=>bsh x=bsh l∧1≤x.length∧x.length≤l.length) (fun x=>x.length) l ⟨rfl,hv.1,Nat.le_refl _⟩ (by repeat'(first|exact trivial|refine⟨rfl,?_⟩|refine⟨congrArg some ?_,?_⟩)) (by repeat with_reducible first|exact Take.nil|apply Take.c|apply Take.drop) ?_
  rintro x ⟨hs,h1,h2⟩
  match x,hs,h1,h2 with
  |[a],hs,h1,h2 =>
   rw[←hs]
   repeat'(first|apply zF|apply zB|apply zE|(apply yH;(focus kernel_rfl);(focus kernel_rfl))|(apply o_g zC;exact rfl;exact rfl)|(apply yF;iterate 4 exact rfl)|(apply o_skip_undef;iterate 3 exact rfl)|(apply zS;exact rfl)|apply zA|apply zK|apply zJ|apply zN|apply zV|((with_reducible apply Sd.mk);first|exact True.intro))
   all_goals first|(exfalso;omega)|(exfalso;revert h1 h2;simp at *;done)|(apply zL;(exact(show ResS _ _ _ _ [_] from⟨rfl,trivial⟩));(focus exact⟨rfl,rfl⟩);(focus repeat with_reducible first|exact Take.nil|apply Take.c|apply Take.drop))
  |a::b::r,hs,h1,h2 =>
   obtain⟨x,hx⟩:∃x,x=a::b::r:=⟨_,rfl⟩
   have hxl:x.length=r.length+2:=by rw[hx];rfl
   have hd:x.drop 1=b::r:=by rw[hx];rfl
   have hsx:bsh x=if sc x then bsh (b::r)else x:=by rw[hx];rfl
   rw[←hx]at hs h1 h2 ⊢
   have hgo:sc x→bsh (b::r)=bsh l:=fun g=>by rw[←hs,hsx,if_pos g]
   have hno:¬sc x→bsh l=x:=fun g=>by rw[←hs,hsx,if_neg g]
   unfold sc at hgo hno
   repeat'(first|apply zF|apply zB|apply zE|(apply yH;(focus kernel_rfl);(focus kernel_rfl))|(apply o_g zC;exact rfl;exact rfl)|(apply zU;exact rfl;exact rfl)|(apply yF;iterate 4 exact rfl)|(apply o_skip_undef;iterate 3 exact rfl)|(apply o_gT;(iterate 3 exact rfl);(focus first|omega))|(apply o_sF;(iterate 3 exact rfl);(focus first|omega);exact rfl)|(apply o_guardFN;(iterate 3 exact rfl);all_goals intro hc)|(apply o_guardT;(iterate 3 exact rfl);all_goals intro hc)|(apply yB;exact rfl)|(apply zS;exact rfl)|(apply w_if;exact rfl;all_goals intro hc)|apply zA|apply zK|apply zG|apply zJ|apply zI|apply zN|apply zV|apply zH|((with_reducible apply Sd.mk);first|exact True.intro|omega))
   all_goals first
    |(exfalso;omega)
    |exact⟨b::r,⟨hgo (by omega),by simp,by show r.length+1≤_;omega⟩,by show r.length+1<_;omega,(by rw[show List.drop (Int.toNat 1) x=b::r from hd];exact(by repeat'(first|exact trivial|refine⟨rfl,?_⟩|refine⟨congrArg some ?_,?_⟩))),(by repeat with_reducible first|exact Take.nil|apply Take.c|apply Take.drop)⟩
    |(rw[hno (by omega)];(apply zL;(exact(show ResS _ _ _ _ [_] from⟨rfl,trivial⟩));(focus exact⟨rfl,rfl⟩);(focus repeat with_reducible first|exact Take.nil|apply Take.c|apply Take.drop)))
 ·rw[if_neg hv]
  refine zR Tryz.func157 rfl rfl ?_
  repeat'((fail_if_success (show SWp _ _ (Code.seq (Code.region 3 _ _) _) _ _ _));(fail_if_success (show SWp _ _ (Code.region 3 _ _) _ _ _));first|apply zF|apply zB|apply zE|(apply o_g zC;exact rfl;exact rfl)|(apply o_not;exact rfl;exact rfl)|(apply zD;exact rfl;exact rfl;(focus first|exact rfl);exact rfl;(focus exact⟨_,is_any _ _ hl,by repeat with_reducible exact Take.nil⟩);rintro _ _ ⟨rfl,rfl⟩)|(apply yC;exact rfl;(focus first|omega))|apply zA|apply zP|apply zN|((with_reducible apply Sd.mk);first|exact True.intro))
  all_goals first
   |contradiction
   |(apply zL;(exact(show ResS _ _ _ _ [_] from⟨rfl,trivial⟩));(focus exact⟨rfl,rfl⟩);(focus repeat with_reducible first|exact Take.nil|apply Take.c|apply Take.drop))

theorem subAt_b1 {v:Int}(h:0≤v∧v<256):SubAt [.int .u8 v] 0 (bytesV [b8 v]):=by rw[bytesV_one h];exact zQ
def chs (l:List UInt8):Prop:=1≤l.length∧cn l 0+cn l 1+cn l 2+cn l 3=l.length
instance (l:List UInt8):Decidable (chs l):=inferInstanceAs (Decidable (_∧_))

def allR (w c:Int):List UInt8:=if 1≤w∧w≤128∧0≤cd c then List.replicate w.toNat (b8 c)else []
theorem All_any (w c:Int)(h:SH)(hc:0≤c∧c<256):SRun Tryz.prog 139 [I w,.int .u8 c] h fun r q=>r=S (allR w c)∧q=h:=by
 by_cases hk:1≤w∧w≤128∧0≤cd c
 ·rw[show allR w c=List.replicate w.toNat (b8 c)from if_pos hk]
  have hR:=fun h=>Run_any (b8 c) w h (by omega)
  obtain⟨h1,h2,h3⟩:=hk
  refine zY Tryz.func139 rfl rfl ?_
  repeat'(first|apply zF|apply zB|apply zE|(apply o_g zC;exact rfl;exact rfl)|(apply o_not;exact rfl;exact rfl)|(apply zT zC;(iterate 5 exact rfl);(focus decide);exact rfl;(focus decide);(focus repeat(first|exact CatR.nil|(apply CatR.one;exact rfl;exact rfl)));exact rfl)|(apply o_toString zC;(iterate 6 exact rfl);(focus exact pk))|(apply zD;exact rfl;exact rfl;(focus first|exact rfl);exact rfl;(focus exact⟨_,Valid1_any _ _,by repeat with_reducible exact Take.nil⟩);rintro _ _ ⟨rfl,rfl⟩)|(apply zD;exact rfl;exact rfl;(focus first|exact rfl);exact rfl;(focus exact⟨_,hR _,by repeat with_reducible exact Take.nil⟩);rintro _ _ ⟨rfl,rfl⟩)|(apply zU;exact rfl;exact rfl)|(apply o_gF;(iterate 3 exact rfl);(focus first|omega))|(apply yD;exact rfl;(focus first|omega))|apply zA|apply zI|apply zN|((with_reducible apply Sd.mk);first|exact True.intro)|((with_reducible apply Ln.mk);first|exact(rfl:[b8 _].length=1)|rfl)|((with_reducible apply Su.mk);first|exact subAt_b1 (by omega))|exact True.intro|intro A|exact rfl)
  all_goals first|contradiction|(exfalso;omega)|(apply zL;(exact(show ResS _ _ _ _ [_] from⟨rfl,trivial⟩));(focus exact⟨rfl,rfl⟩);(focus repeat with_reducible first|exact Take.nil|apply Take.c|apply Take.drop))
 ·rw[show allR w c=[] from if_neg hk]
  refine zY Tryz.func139 rfl rfl ?_
  repeat'((fail_if_success (show SWp _ _ (Code.seq (Code.region 3 _ _) _) _ _ _));(fail_if_success (show SWp _ _ (Code.region 3 _ _) _ _ _));first|apply zF|apply zB|apply zE|(apply o_g zC;exact rfl;exact rfl)|(apply o_not;exact rfl;exact rfl)|(apply zD;exact rfl;exact rfl;(focus first|exact rfl);exact rfl;(focus exact⟨_,Valid1_any _ _,by repeat with_reducible exact Take.nil⟩);rintro _ _ ⟨rfl,rfl⟩)|(apply zU;exact rfl;exact rfl)|(apply yF;iterate 4 exact rfl)|(apply o_guardF;(iterate 3 exact rfl);all_goals intro hc)|(apply yB;exact rfl)|(apply yC;exact rfl;(focus first|omega))|apply zA|apply zP|apply zN|((with_reducible apply Sd.mk);first|exact True.intro))
  all_goals first|(exfalso;omega)|(apply zL;(exact(show ResS _ _ _ _ [_] from⟨rfl,trivial⟩));(focus exact⟨rfl,rfl⟩);(focus repeat with_reducible first|exact Take.nil|apply Take.c|apply Take.drop))

def zmap (F:Int→Int→Int)(a b:List UInt8):List UInt8:=List.zipWith (fun x y=>b8 (F x.toNat y.toNat)) a b
theorem zmap_len (F:Int→Int→Int){a b:List UInt8}(h:a.length=b.length):(zmap F a b).length=a.length:=by unfold zmap;rw[List.length_zipWith];omega
theorem zmap_snoc (F:Int→Int→Int){a b:List UInt8}{i:Nat}(ha:i<a.length)(hb:i<b.length):zmap F (a.take i) (b.take i)++[b8 (F (bat a (i:Int)) (bat b (i:Int)))]=zmap F (a.take (i+1)) (b.take (i+1)):=by
 unfold zmap
 rw[btake_snoc ha,btake_snoc hb,List.zipWith_append (by rw[List.length_take,List.length_take];omega),bat_get ha,bat_get hb]
 rfl
theorem fill_at (X:List UInt8){n i:Nat}(hX:X.length=i)(h:i<n)(b:UInt8):(X++List.replicate (n-i) 0).set ((i:Int)).toNat b=(X++[b])++List.replicate (n-(i+1)) 0:=by
 rw[Int.toNat_natCast,List.set_append_right _ _ (by omega),hX,Nat.sub_self,show n-i=(n-(i+1))+1 by omega,List.replicate_succ,List.set_cons_zero]
 simp
theorem ch_in (k:Int):0≤ch k∧ch k<256:=by
 unfold ch;split
 ·exact⟨bat_lo _ _,bat_hi _ _⟩
 ·decide
def mxc (x y:Int):Int:=ch ((cd x+cd y)%2+2*((cd x/2+cd y/2)%2))
def mxR (a b:List UInt8):List UInt8 × Int:=if ¬(isV a∧isV b)then([],1)else if a.length≠b.length then([],8)else(zmap mxc a b,0)
theorem w_xor {x y:Int}(hx:0≤x∧x<4)(hy:0≤y∧y<4):IntKind.i64.wrap ((BitVec.ofInt IntKind.i64.bits x^^^BitVec.ofInt IntKind.i64.bits y).toNat:Int)=(x+y)%2+2*((x/2+y/2)%2):=by
 obtain rfl|rfl|rfl|rfl:x=0∨x=1∨x=2∨x=3:=by omega
 all_goals (obtain rfl|rfl|rfl|rfl:y=0∨y=1∨y=2∨y=3:=by omega) <;> decide
theorem Mix_any (a b:List UInt8)(h:SH)(ha:a.length≤9223372036854775807)(hb:b.length≤9223372036854775807):SRun Tryz.prog 140 [S a,S b] h fun r q=>r=.tuple #[S (mxR a b).1,I (mxR a b).2]∧q=h:=by
 by_cases hk:isV a∧isV b
 ·obtain⟨ka,kb⟩:=hk
  have h128:=ka.2.1
  have da:=ka.2.2
  have db:=kb.2.2
  by_cases hl:a.length=b.length
  ·rw[show mxR a b=(zmap mxc a b,0)by unfold mxR;rw[if_neg (fun g=>g ⟨ka,kb⟩),if_neg (fun g=>g hl)]]
   have hzr:zrow (.int .u8 0) (a.length*1)=bytesV (List.replicate a.length 0):=map_zrow (f:=byteV) 0 rfl rfl a.length
   refine zY Tryz.func140 rfl rfl ?_
   repeat'((fail_if_success (show SWp _ _ (Code.seq (Code.region 5 _ _) _) _ _ _));(fail_if_success (show SWp _ _ (Code.region 5 _ _) _ _ _));first|apply zF|apply zB|apply zE|(apply o_g zC;exact rfl;exact rfl)|(apply o_not;exact rfl;exact rfl)|(apply zD;exact rfl;exact rfl;(focus first|exact rfl);exact rfl;(focus exact⟨_,is_any _ _ ha,by repeat with_reducible exact Take.nil⟩);rintro _ _ ⟨rfl,rfl⟩)|(apply zD;exact rfl;exact rfl;(focus first|exact rfl);exact rfl;(focus exact⟨_,is_any _ _ hb,by repeat with_reducible exact Take.nil⟩);rintro _ _ ⟨rfl,rfl⟩)|(apply zU;exact rfl;exact rfl)|(apply yF;iterate 4 exact rfl)|(apply o_guardFN;(iterate 3 exact rfl);all_goals intro hc)|(apply yB;exact rfl)|(apply yD;exact rfl;(focus first|omega))|(apply w_ifN;exact rfl;all_goals intro hc)|apply zA|apply zP|apply zI|apply zN|((with_reducible apply Sd.mk);first|exact True.intro))
   all_goals first
    |contradiction
    |(exfalso;omega)
    |skip
   rename_i q
   repeat'(first|apply zF|apply zB|apply zE|(apply o_g zC;exact rfl;exact rfl)|(apply o_makeSlice zC;(iterate 6 exact rfl);(focus decide);(focus first|omega);(focus first|exact hzr);exact rfl)|apply zA|apply zH|((with_reducible apply Sd.mk);first|exact True.intro)|intro A)
   refine zZ (S:=Nat) (fun i=>[(0,S a),(1,S b),(6,gsl A 0 (a.length*1) a.length 1),(25,I a.length),(26,I i)]) (fun i=>(A,⟨bytesV (zmap mxc (a.take i) (b.take i)++List.replicate (a.length-i) 0),false⟩)::q) (fun i=>i≤a.length) (fun i=>a.length-i) 0 (Nat.zero_le _) (by repeat'(first|exact trivial|refine⟨rfl,?_⟩|refine⟨congrArg some ?_,?_⟩)) (.consE .head (by simp[zmap]) .nil) ?_
   intro i hi
   by_cases hil:i<a.length
   ·have hX:(zmap mxc (a.take i) (b.take i)).length=i:=by rw[zmap_len _ (by rw[List.length_take,List.length_take];omega),List.length_take];omega
    have hst:=zmap_snoc mxc hil (show i<b.length by omega)
    have hfi:=fill_at (n:=a.length) _ hX hil (b8 (mxc (bat a (i:Int)) (bat b (i:Int))))
    rw[hst]at hfi
    have hXl:(zmap mxc (a.take i) (b.take i)++List.replicate (a.length-i) 0).length=a.length:=by rw[List.length_append,hX,List.length_replicate];omega
    have g1:=da i hil
    have g2:=db i (by omega)
    have hc1:=cd_in (bat a (i:Int))
    have hc2:=cd_in (bat b (i:Int))
    have hc:0≤mxc (bat a (i:Int)) (bat b (i:Int))∧mxc (bat a (i:Int)) (bat b (i:Int))<256:=ch_in _
    have hC:=fun h=>Char_any ((cd (bat a (i:Int))+cd (bat b (i:Int)))%2+2*((cd (bat a (i:Int))/2+cd (bat b (i:Int))/2)%2)) h
    rw[show ch ((cd (bat a (i:Int))+cd (bat b (i:Int)))%2+2*((cd (bat a (i:Int))/2+cd (bat b (i:Int))/2)%2))=mxc (bat a (i:Int)) (bat b (i:Int))from rfl]at hC
    generalize zmap mxc (a.take i) (b.take i)++List.replicate (a.length-i) 0=X at hXl hfi ⊢
    generalize mxc (bat a (i:Int)) (bat b (i:Int))=c at *
    repeat'(first|apply zF|apply zB|apply zE|(apply yH;(focus kernel_rfl);(focus kernel_rfl))|(apply o_g zC;exact rfl;exact rfl)|(apply o_ar zC;exact rfl;exact rfl)|(apply zX zC;(iterate 4 exact rfl);(focus exact up))|(apply yS;(iterate 4 exact rfl);(focus exact⟨_,Code_any _ _,by repeat with_reducible exact Take.nil⟩);(focus exact fun _ _ h=>h.1);(focus(repeat(first|exact Flat.c rfl))))|(apply yS;(iterate 4 exact rfl);(focus exact⟨_,hC _,by repeat with_reducible exact Take.nil⟩);(focus exact fun _ _ h=>h.1);(focus(repeat(first|exact Flat.c rfl))))|(apply yC;exact rfl;(focus first|omega))|apply zA|apply zG|apply zI|apply zH|((with_reducible apply Sd.mk);first|exact True.intro|omega)|((with_reducible apply Ln.mk);first|(simp ;first|done|omega))|((with_reducible apply Wr.mk);first|exact w_xor (by omega) (by omega)|exact IntWalk.i64_in _ (by omega))|((with_reducible apply Se.mk);first|exact setAt_bytes (by omega) (by omega))|exact True.intro|exact Or.inl rfl|apply And.intro)
    all_goals first
     |exact⟨i+1,hil,by show a.length-(i+1)<a.length-i;omega,(by repeat'(first|exact trivial|refine⟨rfl,?_⟩|refine⟨congrArg some ?_,?_⟩)),by rw[←hfi];exact(by repeat with_reducible first|exact Take.nil|apply Take.c|apply Take.drop)⟩
   ·obtain rfl:i=a.length:=by omega
    rw[Nat.sub_self,List.replicate_zero,List.append_nil,List.take_length,List.take_of_length_le (by omega)]
    have hX:(zmap mxc a b).length=a.length:=zmap_len _ hl
    generalize zmap mxc a b=X at hX ⊢
    repeat'(first|apply zF|apply zB|apply zE|(apply o_g zC;exact rfl;exact rfl)|(apply o_toString zC;(iterate 6 exact rfl);(focus exact pk))|(apply yD;exact rfl;(focus first|omega))|apply zA|apply zK|apply zJ|apply zN|apply zV|((with_reducible apply Sd.mk);first|exact True.intro)|((with_reducible apply Ln.mk);first|exact ‹_›|(simp ;first|done|omega))|((with_reducible apply Su.mk);first|exact zQ)|exact True.intro|exact rfl)
    all_goals first|(exfalso;omega)|(apply zL;(exact(show ResS _ _ _ _ [_,_] from⟨rfl,⟨rfl,trivial⟩⟩));(focus exact⟨rfl,rfl⟩);(focus repeat with_reducible first|exact Take.nil|apply Take.c|apply Take.drop))
  ·rw[show mxR a b=([],8)by unfold mxR;rw[if_neg (fun g=>g ⟨ka,kb⟩),if_pos hl]]
   refine zY Tryz.func140 rfl rfl ?_
   repeat'((fail_if_success (show SWp _ _ (Code.seq (Code.region 5 _ _) _) _ _ _));(fail_if_success (show SWp _ _ (Code.region 5 _ _) _ _ _));first|apply zF|apply zB|apply zE|(apply o_g zC;exact rfl;exact rfl)|(apply o_not;exact rfl;exact rfl)|(apply zD;exact rfl;exact rfl;(focus first|exact rfl);exact rfl;(focus exact⟨_,is_any _ _ ha,by repeat with_reducible exact Take.nil⟩);rintro _ _ ⟨rfl,rfl⟩)|(apply zD;exact rfl;exact rfl;(focus first|exact rfl);exact rfl;(focus exact⟨_,is_any _ _ hb,by repeat with_reducible exact Take.nil⟩);rintro _ _ ⟨rfl,rfl⟩)|(apply zU;exact rfl;exact rfl)|(apply yF;iterate 4 exact rfl)|(apply o_guardFN;(iterate 3 exact rfl);all_goals intro hc)|(apply yB;exact rfl)|(apply yC;exact rfl;(focus first|omega))|(apply w_ifN;exact rfl;all_goals intro hc)|apply zA|apply zP|apply zI|apply zN|((with_reducible apply Sd.mk);first|exact True.intro))
   all_goals first|contradiction|(exfalso;omega)|(apply zL;(exact(show ResS _ _ _ _ [_,_] from⟨rfl,⟨rfl,trivial⟩⟩));(focus exact⟨rfl,rfl⟩);(focus repeat with_reducible first|exact Take.nil|apply Take.c|apply Take.drop))
 ·rw[show mxR a b=([],1)by unfold mxR;rw[if_pos hk]]
  refine zY Tryz.func140 rfl rfl ?_
  repeat'((fail_if_success (show SWp _ _ (Code.seq (Code.region 3 _ _) _) _ _ _));(fail_if_success (show SWp _ _ (Code.region 3 _ _) _ _ _));first|apply zF|apply zB|apply zE|(apply o_g zC;exact rfl;exact rfl)|(apply o_not;exact rfl;exact rfl)|(apply zD;exact rfl;exact rfl;(focus first|exact rfl);exact rfl;(focus exact⟨_,is_any _ _ ha,by repeat with_reducible exact Take.nil⟩);rintro _ _ ⟨rfl,rfl⟩)|(apply zD;exact rfl;exact rfl;(focus first|exact rfl);exact rfl;(focus exact⟨_,is_any _ _ hb,by repeat with_reducible exact Take.nil⟩);rintro _ _ ⟨rfl,rfl⟩)|(apply zU;exact rfl;exact rfl)|(apply yF;iterate 4 exact rfl)|(apply o_guardFN;(iterate 3 exact rfl);all_goals intro hc)|(apply yB;exact rfl)|(apply w_ifN;exact rfl;all_goals intro hc)|apply zA|apply zP|apply zI|apply zN|((with_reducible apply Sd.mk);first|exact True.intro))
  all_goals first
   |(apply zL;(exact(show ResS _ _ _ _ [_,_] from⟨rfl,⟨rfl,trivial⟩⟩));(focus exact⟨rfl,rfl⟩);(focus repeat with_reducible first|exact Take.nil|apply Take.c|apply Take.drop))
   |(exfalso;exact hk ⟨by assumption,by assumption⟩)

theorem Valid_any (w:Int)(l:List UInt8)(h:SH)(hl:l.length≤9223372036854775807):SRun Tryz.prog 95 [I w,S l] h fun r q=>r=B (decide (isV l∧(l.length:Int)=w))∧q=h:=by
 refine zY Tryz.func95 rfl rfl ?_
 repeat'(first|apply zF|apply zB|apply zE|(apply o_g zC;exact rfl;exact rfl)|(apply zD;exact rfl;exact rfl;(focus first|exact rfl);exact rfl;(focus exact⟨_,is_any _ _ hl,by repeat with_reducible exact Take.nil⟩);rintro _ _ ⟨rfl,rfl⟩)|(apply zU;exact rfl;exact rfl)|(apply yF;iterate 4 exact rfl)|(apply o_guardT;(iterate 3 exact rfl);all_goals intro hc)|apply zA|apply zN|((with_reducible apply Sd.mk);first|exact True.intro))
 all_goals (apply zL;(exact(show ResS _ _ _ _ [_] from⟨rfl,trivial⟩));(focus exact⟨by show B _=B _;simp[*],rfl⟩);(focus repeat with_reducible first|exact Take.nil|apply Take.c|apply Take.drop))

theorem BValid_any (w:Int)(L:List (List UInt8))(v:Value)(h:SH)(hv:Has h (L.map sV) 1 L.length v)(hl:L.length≤4096)(hw:1≤w∧w≤128)(hs:∀s∈L,isV s∧(s.length:Int)=w) :
  SRun Tryz.prog 54 [I w,v] h fun r q=>r=B true∧q=h:=by
 obtain⟨ad,fl,rfl,hh⟩:=hv
 have hlb:(L.map sV).length=L.length:=by simp
 refine zY Tryz.func54 rfl rfl ?_
 repeat'(first|apply zF|apply zB|apply zE|(apply o_g zC;exact rfl;exact rfl)|apply zA|apply zH|((with_reducible apply Sd.mk);first|exact True.intro))
 all_goals first|(exfalso;omega)|skip
 refine zZ (S:=Nat) (fun i=>[(0,I w),(1,.slice ad L.length fl),(7,.slice ad L.length fl),(8,I L.length),(9,I i)]) (fun _=>h) (fun i=>i≤L.length) (fun i=>L.length-i) 0 (Nat.zero_le _) (by repeat'(first|exact trivial|refine⟨rfl,?_⟩|refine⟨congrArg some ?_,?_⟩)) (by repeat with_reducible first|exact Take.nil|apply Take.c|apply Take.drop) ?_
 rintro i hi
 by_cases hil:i<L.length
 ·obtain⟨A',ro,h1,rfl,hp⟩:=hh (by omega)
  have hc1:(L.map sV)[0+((i:Int)).toNat*1]?=some (S L[i]!):=yM hil
  have hsi:=ihas_bang hs hil
  generalize L[i]! = s at *
  have hV:=fun h=>Valid_any w s h (by omega)
  rw[decide_eq_true hsi]at hV
  repeat'(first|apply zF|apply zB|apply zE|(apply o_g zC;exact rfl;exact rfl)|(apply o_ar zC;exact rfl;exact rfl)|(apply yR;exact rfl;exact rfl)|(apply zM zC;(iterate 3 exact rfl);(focus exact pk))|(apply zD;exact rfl;exact rfl;(focus first|exact rfl);exact rfl;(focus exact⟨_,hV _,by repeat with_reducible exact Take.nil⟩);rintro _ _ ⟨rfl,rfl⟩)|(apply zS;exact rfl)|(apply yC;exact rfl;(focus first|omega))|apply zA|apply zG|apply zI|apply zH|((with_reducible apply Sd.mk);first|exact True.intro|omega)|((with_reducible apply Ln.mk);first|(simp[hlb];first|done|omega))|((with_reducible apply Wr.mk);first|exact IntWalk.i64_in _ (by omega))|((with_reducible apply Ce.mk);first|exact hc1)|exact True.intro|exact rfl)
  all_goals first
   |contradiction
   |(exfalso;omega)
   |exact⟨i+1,hil,by show L.length-(i+1)<L.length-i;omega,(by repeat'(first|exact trivial|refine⟨rfl,?_⟩|refine⟨congrArg some ?_,?_⟩)),(by repeat with_reducible first|exact Take.nil|apply Take.c|apply Take.drop)⟩
 ·obtain rfl:i=L.length:=by omega
  repeat'(first|apply zF|apply zB|apply zE|(apply o_g zC;exact rfl;exact rfl)|(apply zU;exact rfl;exact rfl)|(apply o_gT;(iterate 3 exact rfl);(focus first|omega))|(apply yD;exact rfl;(focus first|omega))|apply zA|apply zK|apply zJ|apply zN|apply zV|((with_reducible apply Sd.mk);first|exact True.intro))
  all_goals first
   |contradiction
   |(exfalso;omega)
   |(apply zL;(exact(show ResS _ _ _ _ [_] from⟨rfl,trivial⟩));(focus exact⟨congrArg B (decide_eq_true (by omega)),rfl⟩);(focus repeat with_reducible first|exact Take.nil|apply Take.c|apply Take.drop))
def sh1 (l:List UInt8):List UInt8:=if isV l then bsh l else []
theorem short_gen (L:List (List UInt8))(v:Value)(h:SH)(hv:Has h (L.map sV) 1 L.length v)(hl:L.length≤4096)(hs:∀s∈L,s.length≤100000) :
  SRun Tryz.prog 156 [v] h fun r q=>∃A,r=gsl A 0 L.length L.length 1∧q=(A,⟨(L.map sh1).map sV,false⟩)::h:=by
 obtain⟨ad,fl,rfl,hh⟩:=hv
 have hlb:(L.map sV).length=L.length:=by simp
 have hgl:(L.map sh1).length=L.length:=by simp
 have hbg:=fun i (hi:i<L.length)=>map_bang (f:=sh1) hi
 generalize L.map sh1=X at *
 have hz:zrow (S []) (((L.length:Nat):Int).toNat*1)=(X.take 0++List.replicate (X.length-0) []).map sV:=by
  rw[List.take_zero,List.nil_append,Nat.sub_zero,hgl];exact map_zrow (f:=sV) [] rfl rfl _
 refine zR Tryz.func156 rfl rfl ?_
 repeat'(first|apply zF|apply zB|apply zE|(apply o_g zC;exact rfl;exact rfl)|(apply o_makeSlice zC;(iterate 6 exact rfl);(focus decide);(focus first|omega);(focus first|exact hz);exact rfl)|apply zA|apply zH|((with_reducible apply Sd.mk);first|exact True.intro)|intro A)
 all_goals first|(exfalso;omega)|skip
 revert A;intro A3
 refine zZ (S:=Nat) (fun i=>[(3,gsl A3 0 (L.length*1) L.length 1),(9,.slice ad L.length fl),(10,I L.length),(11,I i)])
  (fun i=>(A3,⟨(X.take i++List.replicate (X.length-i) []).map sV,false⟩)::h) (fun i=>i≤L.length) (fun i=>L.length-i) 0 (Nat.zero_le _) (by repeat'(first|exact trivial|refine⟨rfl,?_⟩|refine⟨congrArg some ?_,?_⟩)) (by repeat with_reducible first|exact Take.nil|apply Take.c|apply Take.drop) ?_
 rintro i hi
 by_cases hil:i<L.length
 ·obtain⟨A',ro,h1,rfl,hp⟩:=hh (by omega)
  have hc1:(L.map sV)[0+((i:Int)).toNat*1]?=some (S L[i]!):=yM hil
  have hst:=set_prog (X:=X) (z:=([]:List UInt8)) (i:=i) (by omega)
  rw[hbg i hil]at hst
  have hsi:=ihas_bang hs hil
  generalize L[i]! = s at *
  have hS:∀h,SRun Tryz.prog 157 [S s] h fun r q=>r=S (sh1 s)∧q=h:=fun h=>Shorten_any s h (by omega)
  generalize sh1 s=y at *
  have hml:(X.take i++List.replicate (X.length-i) []).length=L.length:=by simp;omega
  have hlen:((X.take i++List.replicate (X.length-i) []).map sV).length=L.length*1:=by rw[List.length_map,hml,Nat.mul_one]
  have hset:SetAt ((X.take i++List.replicate (X.length-i) []).map sV) (0+((i:Int)).toNat*1) (S y) ((X.take (i+1)++List.replicate (X.length-(i+1)) []).map sV):=by
   rw[←hst];exact setAt_mapZ (by omega)
  repeat'(first|apply zF|apply zB|apply zE|(apply o_g zC;exact rfl;exact rfl)|(apply o_ar zC;exact rfl;exact rfl)|(apply zM zC;(iterate 3 exact rfl);(focus exact pk))|(apply zX zC;(iterate 4 exact rfl);(focus exact up))|(apply zD;exact rfl;exact rfl;(focus first|exact rfl);exact rfl;(focus exact⟨_,hS _,by repeat with_reducible exact Take.nil⟩);rintro _ _ ⟨rfl,rfl⟩)|(apply yC;exact rfl;(focus first|omega))|apply zA|apply zG|apply zI|apply zH|((with_reducible apply Sd.mk);first|exact True.intro|omega)|((with_reducible apply Ln.mk);first|omega|(simp[hlb,hlen];first|done|omega))|((with_reducible apply Wr.mk);first|exact IntWalk.i64_in _ (by omega))|((with_reducible apply Ce.mk);first|exact hc1)|((with_reducible apply Se.mk);first|exact hset)|exact True.intro|exact rfl)
  all_goals first
   |contradiction
   |(exfalso;omega)
   |exact⟨i+1,hil,by show L.length-(i+1)<L.length-i;omega,(by repeat'(first|exact trivial|refine⟨rfl,?_⟩|refine⟨congrArg some ?_,?_⟩)),(by repeat with_reducible first|exact Take.nil|apply Take.c|apply Take.drop)⟩
 ·have e:i=L.length:=by omega
  subst e
  have hfin:X.take L.length++List.replicate (X.length-L.length) []=X:=by rw[←hgl,List.take_length,Nat.sub_self];simp
  rw[hfin]
  repeat'(first|apply zF|apply zB|apply zE|(apply o_g zC;exact rfl;exact rfl)|(apply yD;exact rfl;(focus first|omega))|apply zA|apply zK|apply zJ|apply zN|apply zV|((with_reducible apply Sd.mk);first|exact True.intro))
  all_goals first
   |(exfalso;omega)
   |(apply zL;(exact(show ResS _ _ _ _ [_] from⟨rfl,trivial⟩));(focus exact⟨A3,congrArg (fun z=>gsl A3 0 z L.length 1) (Nat.mul_one _),rfl⟩);(focus repeat with_reducible first|exact Take.nil|apply Take.c|apply Take.drop))
theorem hasS {X:List (List UInt8)}{n:Nat}(hX:X.length=n){q h1:SH}{A:Nat}(p:Pick q A ⟨X.map sV,false⟩ h1):Has q (X.map sV) 1 X.length (gsl A 0 n n 1):=by
 subst hX;exact⟨_,_,rfl,fun _=>⟨A,_,_,by rw[Nat.one_mul],p⟩⟩
theorem words_any (w:Int)(L:List (List UInt8))(v:Value)(h:SH)(hv:Has h (L.map sV) 1 L.length v)(hl:L.length≤4096)(hs:∀s∈L,s.length≤100000)(k:RlOk (L.map sh1)) :
  SRun Tryz.prog 129 [.agg ⟨[I w]⟩,v] h fun r q=>r=.tuple #[S (rlA (L.map sh1)),B true]∧q=h:=by
 have h1:=fun h hv=>short_gen L v h hv hl hs
 have h2:=fun v h hv=>REncode_any (L.map sh1) v h hv k
 have hX:(L.map sh1).length=L.length:=by simp
 generalize rlA (L.map sh1)=R at *
 clear k
 generalize L.map sh1=X at *
 refine zY Tryz.func129 rfl rfl ?_
 repeat'(first|apply zF|apply zB|apply zE|(apply o_g zC;exact rfl;exact rfl)|(apply o_box (tt:=tyT);iterate 5 exact rfl)|(apply zD;exact rfl;exact rfl;(focus first|exact rfl);exact rfl;(focus exact⟨_,h1 _ (hv.re (.drop .nil)),by repeat with_reducible exact Take.nil⟩);rintro _ _ ⟨A1,rfl,rfl⟩)|(apply zD;exact rfl;exact rfl;(focus first|exact rfl);exact rfl;(focus exact⟨_,h2 _ _ (hasS hX .head),by repeat with_reducible exact Take.nil⟩);rintro _ _ ⟨rfl,rfl⟩)|apply zA|apply zN|((with_reducible apply Sd.mk);first|exact True.intro)|intro A)
 all_goals first
  |contradiction
  |(apply zL;(exact(show ResS _ _ _ _ [_,_] from⟨rfl,⟨rfl,trivial⟩⟩));(focus exact⟨rfl,rfl⟩);(focus repeat with_reducible first|exact Take.nil|apply Take.c|apply Take.drop))
def mxs :List UInt8→List (List UInt8)→List (List UInt8)
 |_,[]=>[]
 |a,v::r=>(mxR v a).1::mxs v r
theorem mxs_len :∀(L:List (List UInt8)) (a:List UInt8),(mxs a L).length=L.length
 |[],_=>rfl
 |t::r,a=>congrArg (·+1) (mxs_len r t)
def mixE (w:Int)(L:List (List UInt8)):List UInt8:=rlA ((mxs (allR w 48) L).map sh1)
set_option maxHeartbeats 1000000 in
theorem mixed_any (w:Int)(L:List (List UInt8))(v:Value)(h:SH)(hv:Has h (L.map sV) 1 L.length v)(hl:L.length≤4096)(hs:∀s∈L,s.length≤128)(ha:(allR w 48).length≤128)(hx:∀s∈mxs (allR w 48) L,s.length≤100000)(k:RlOk ((mxs (allR w 48) L).map sh1)) :
  SRun Tryz.prog 128 [.agg ⟨[I w]⟩,v] h fun r q=>r=.tuple #[S (mixE w L),B true]∧q=h:=by
 obtain⟨ad,fl,rfl,hh⟩:=id hv
 have hlb:(L.map sV).length=L.length:=by simp
 have hA:=fun h=>All_any w 48 h (by decide)
 have hgl:=mxs_len L (allR w 48)
 have h1:=fun v h hv=>short_gen (mxs (allR w 48) L) v h hv (by omega) hx
 have h2:=fun v h hv=>REncode_any ((mxs (allR w 48) L).map sh1) v h hv k
 unfold mixE
 generalize rlA ((mxs (allR w 48) L).map sh1)=RR at *
 clear k hx
 obtain⟨X,hX⟩:∃X,mxs (allR w 48) L=X:=⟨_,rfl⟩
 rw[hX]at hgl h1 h2
 generalize allR w 48=a0 at *
 have hYl:(X.map sh1).length=L.length:=by simp[hgl]
 generalize X.map sh1=Y at *
 have hz:zrow (S []) (((L.length:Nat):Int).toNat*1)=(X.take 0++List.replicate (X.length-0) []).map sV:=by
  rw[List.take_zero,List.nil_append,Nat.sub_zero,hgl];exact map_zrow (f:=sV) [] rfl rfl _
 refine zY Tryz.func128 rfl rfl ?_
 repeat'(first|apply zF|apply zB|apply zE|(apply o_g zC;exact rfl;exact rfl)|(apply zM zC;(iterate 3 exact rfl);(focus exact pk))|(apply o_box (tt:=tyT);iterate 5 exact rfl)|(apply o_makeSlice zC;(iterate 6 exact rfl);(focus decide);(focus first|omega);(focus first|exact hz);exact rfl)|(apply zD;exact rfl;exact rfl;(focus first|exact rfl);exact rfl;(focus exact⟨_,hA _,by repeat with_reducible exact Take.nil⟩);rintro _ _ ⟨rfl,rfl⟩)|apply zA|apply zH|((with_reducible apply Sd.mk);first|exact True.intro)|((with_reducible apply Ln.mk);first|rfl)|((with_reducible apply Ce.mk);first|rfl)|exact True.intro|intro A|exact rfl)
 all_goals first|(exfalso;omega)|skip
 revert A;intro A6
 refine zZ (S:=Nat × List UInt8) (fun s=>[(6,gsl A6 0 (L.length*1) L.length 1),(7,S s.2),(18,.slice ad L.length fl),(19,I L.length),(20,I s.1)])
  (fun s=>(A6,⟨(X.take s.1++List.replicate (X.length-s.1) []).map sV,false⟩)::h) (fun s=>s.1≤L.length∧s.2.length≤128∧X.drop s.1=mxs s.2 (L.drop s.1)) (fun s=>L.length-s.1) (0,a0) ⟨Nat.zero_le _,ha,hX.symm⟩ (by repeat'(first|exact trivial|refine⟨rfl,?_⟩|refine⟨congrArg some ?_,?_⟩)) (by repeat with_reducible first|exact Take.nil|apply Take.c|apply Take.drop) ?_
 rintro⟨i,b⟩ ⟨hi,hbl,hd⟩
 dsimp only at hi hbl hd ⊢
 by_cases hil:i<L.length
 ·obtain⟨A',ro,h1',rfl,hp⟩:=hh (by omega)
  rw[drop_bang hil,drop_bang (show i<X.length by omega)]at hd
  obtain⟨hd1,hd2⟩:=List.cons.inj hd
  have hst:=set_prog (X:=X) (z:=([]:List UInt8)) (i:=i) (by omega)
  have hc1:(L.map sV)[0+((i:Int)).toNat*1]?=some (S L[i]!):=yM hil
  rw[hd1]at hst
  have hsi:=ihas_bang hs hil
  generalize L[i]! = s at *
  have hM:=fun h=>Mix_any s b h (by omega) (by omega)
  generalize mxR s b=y at *
  obtain⟨y,ye⟩:=y
  dsimp only at hst
  have hml:(X.take i++List.replicate (X.length-i) []).length=L.length:=by simp;omega
  have hlen:((X.take i++List.replicate (X.length-i) []).map sV).length=L.length*1:=by rw[List.length_map,hml,Nat.mul_one]
  have hset:SetAt ((X.take i++List.replicate (X.length-i) []).map sV) (0+((i:Int)).toNat*1) (S y) ((X.take (i+1)++List.replicate (X.length-(i+1)) []).map sV):=by
   rw[←hst];exact setAt_mapZ (by omega)
  repeat'(first|apply zF|apply zB|apply zE|(apply o_g zC;exact rfl;exact rfl)|(apply o_ar zC;exact rfl;exact rfl)|(apply zM zC;(iterate 3 exact rfl);(focus exact pk))|(apply zX zC;(iterate 4 exact rfl);(focus exact up))|(apply zD;exact rfl;exact rfl;(focus first|exact rfl);exact rfl;(focus exact⟨_,hM _,by repeat with_reducible exact Take.nil⟩);rintro _ _ ⟨rfl,rfl⟩)|(apply yC;exact rfl;(focus first|omega))|apply zA|apply zG|apply zI|apply zH|((with_reducible apply Sd.mk);first|exact True.intro|omega)|((with_reducible apply Ln.mk);first|omega|(simp[hlb,hlen];first|done|omega))|((with_reducible apply Wr.mk);first|exact IntWalk.i64_in _ (by omega))|((with_reducible apply Ce.mk);first|exact hc1)|((with_reducible apply Se.mk);first|exact hset)|exact True.intro|exact rfl)
  all_goals first
   |contradiction
   |(exfalso;omega)
   |exact⟨(i+1,s),⟨hil,hsi,hd2⟩,by show L.length-(i+1)<L.length-i;omega,(by repeat'(first|exact trivial|refine⟨rfl,?_⟩|refine⟨congrArg some ?_,?_⟩)),(by repeat with_reducible first|exact Take.nil|apply Take.c|apply Take.drop)⟩
 ·have e:i=L.length:=by omega
  subst e
  have hfin:X.take L.length++List.replicate (X.length-L.length) []=X:=by rw[←hgl,List.take_length,Nat.sub_self];simp
  rw[hfin,Nat.mul_one]
  have h1:∀v h,Has h (X.map sV) 1 X.length v→SRun Tryz.prog 156 [v] h fun r q=>∃A,r=gsl A 0 L.length L.length 1∧q=(A,⟨Y.map sV,false⟩)::h:=fun v h hv=>by rw[←hgl];exact h1 v h hv
  repeat'(first|apply zF|apply zB|apply zE|(apply o_g zC;exact rfl;exact rfl)|(apply zD;exact rfl;exact rfl;(focus first|exact rfl);exact rfl;(focus exact⟨_,h1 _ _ (hasS hgl .head),by repeat with_reducible exact Take.nil⟩);rintro _ _ ⟨A1,rfl,rfl⟩)|(apply zD;exact rfl;exact rfl;(focus first|exact rfl);exact rfl;(focus exact⟨_,h2 _ _ (hasS hYl .head),by repeat with_reducible exact Take.nil⟩);rintro _ _ ⟨rfl,rfl⟩)|(apply yD;exact rfl;(focus first|omega))|apply zA|apply zK|apply zJ|apply zN|apply zV|((with_reducible apply Sd.mk);first|exact True.intro))
  all_goals first
   |contradiction
   |(exfalso;omega)
   |(apply zL;(exact(show ResS _ _ _ _ [_,_] from⟨rfl,⟨rfl,trivial⟩⟩));(focus exact⟨rfl,rfl⟩);(focus repeat with_reducible first|exact Take.nil|apply Take.c|apply Take.drop))

def adR (a b:List UInt8):List UInt8:=if addOk a b then dsum a b a.length 0 else []
def dfR (a b:List UInt8):List UInt8:=if addOk a b then dsum b (emap nv a) b.length 1 else []
def badX (L:List (List UInt8))(st:List UInt8)(i:Nat):Bool:=decide (0<i) && decide (¬addOk L[i-1]! st∨adR L[i-1]! st≠L[i]!)
def xcN (L:List (List UInt8))(st:List UInt8)(n:Nat):List Int:=((List.range n).filter (badX L st)).map fun i:Nat=>(i:Int)
theorem xcN_step {L:List (List UInt8)}{st:List UInt8}{i:Nat}:xcN L st (i+1)=if badX L st i=true then xcN L st i++[(i:Int)] else xcN L st i:=by
 unfold xcN
 rw[List.range_succ,List.filter_append,List.map_append,filt1]
 by_cases h:badX L st i=true
 ·rw[if_pos h,if_pos h];rfl
 ·rw[if_neg h,if_neg h];exact List.append_nil _
theorem xcN_le (L:List (List UInt8))(st:List UInt8)(n:Nat):(xcN L st n).length≤n:=by
 unfold xcN
 rw[List.length_map]
 exact Nat.le_trans (List.length_filter_le _ _) (by simp)
set_option maxHeartbeats 1000000 in
theorem exceptions_any (L:List (List UInt8))(st:List UInt8)(v:Value)(h:SH)(hv:Has h (L.map sV) 1 L.length v)(hl:L.length≤4096)(hl0:1≤L.length)(hs:∀s∈L,s.length≤128)(hst:st.length≤1000)(hne:xcN L st L.length≠[]) :
  SRun Tryz.prog 155 [v,S st] h fun r q=>∃A,r=gsl A 0 (xcN L st L.length).length (xcN L st L.length).length 1∧q=(A,⟨nodes (xcN L st L.length),false⟩)::h:=by
 obtain⟨ad,fl,rfl,hh⟩:=id hv
 have hlb:(L.map sV).length=L.length:=by simp
 obtain⟨A',ro,h1,rfl,hp⟩:=hh (by omega)
 refine zY Tryz.func155 rfl rfl ?_
 repeat'(first|apply zF|apply zB|apply zE|(apply o_g zC;exact rfl;exact rfl)|apply zA|apply zH|((with_reducible apply Sd.mk);first|exact True.intro))
 all_goals first|(exfalso;omega)|skip
 refine zZ (S:=Nat × Value × SH) (fun s=>[(0,.slice (some ⟨A',0,some (1*L.length)⟩) L.length fl),(1,S st),(5,s.2.1),(6,I s.1)])
  (fun s=>s.2.2) (fun s=>1≤s.1∧s.1≤L.length∧GrO iV h (xcN L st s.1) s.2.1 s.2.2) (fun s=>L.length-s.1) (1,.slice none 0 0,h) ⟨Nat.le_refl _,hl0,(show xcN L st 1=[] by rw[xcN_step];rfl)▸.nil⟩ (by repeat'(first|exact trivial|refine⟨rfl,?_⟩|refine⟨congrArg some ?_,?_⟩)) (by repeat with_reducible first|exact Take.nil|apply Take.c|apply Take.drop) ?_
 rintro⟨i,u,q⟩ ⟨hi1,hi,hg⟩
 dsimp only at hi1 hi hg ⊢
 by_cases hil:i<L.length
 ·have hc1:(L.map sV)[0+((i:Int)).toNat*1]?=some (S L[i]!):=yM hil
  have hc2:(L.map sV)[0+((i:Int)-1).toNat*1]?=some (S L[i-1]!):=by
   rw[show((i:Int)-1).toNat=i-1 by omega];exact cell_map (by omega)
  have hs1:=ihas_bang hs hil
  have hs2:=ihas_bang hs (i:=i-1) (by omega)
  have hstp:=xcN_step (L:=L) (st:=st) (i:=i)
  have hbx:badX L st i=decide (¬addOk L[i-1]! st∨adR L[i-1]! st≠L[i]!):=by unfold badX;rw[decide_eq_true (by omega),Bool.true_and]
  rw[hbx]at hstp
  have hol:=xcN_le L st i
  have hgt:=hg.has.2
  generalize L[i]! = w at *
  generalize L[i-1]! = w1 at *
  have hA:∀h,SRun Tryz.prog 138 [S w1,S st] h fun r q=>r=.tuple #[S (adR w1 st),B (decide (addOk w1 st))]∧q=h:=fun h=>Add_any w1 st h (by omega) (by omega)
  obtain⟨h2,hp2,_⟩:=hgt.pick hp
  generalize adR w1 st=y at *
  by_cases hok:addOk w1 st∧y=w
  ·rw[if_neg (by rw[decide_eq_true_eq];intro g;rcases g with g|g;exact g hok.1;exact g hok.2)]at hstp
   rw[decide_eq_true hok.1]at hA
   have hyw:=hok.2
   repeat'(first|apply zF|apply zB|apply zE|(apply o_g zC;exact rfl;exact rfl)|(apply o_ar zC;exact rfl;exact rfl)|(apply yR;exact rfl;exact rfl)|(apply zM zC;(iterate 3 exact rfl);(focus exact pk))|(apply zT zC;(iterate 5 exact rfl);(focus decide);exact rfl;(focus decide);(focus repeat(first|exact CatR.nil|(apply CatR.one;exact rfl;exact rfl)));exact rfl)|(apply zD;exact rfl;exact rfl;(focus first|exact rfl);exact rfl;(focus exact⟨_,hA _,by repeat with_reducible exact Take.nil⟩);rintro _ _ ⟨rfl,rfl⟩)|(apply zU;exact rfl;exact rfl)|(apply yC;exact rfl;(focus first|omega))|(apply w_ifN;exact rfl;all_goals intro hc)|apply zA|apply zG|apply zI|apply zH|((with_reducible apply Sd.mk);first|exact True.intro|omega)|((with_reducible apply Ln.mk);first|(simp[hlb];first|done|omega))|((with_reducible apply Wr.mk);first|exact IntWalk.i64_in _ (by omega))|((with_reducible apply Ce.mk);first|exact hc1|exact hc2)|exact True.intro|intro A|exact rfl)
   all_goals first
    |contradiction
    |(exfalso;omega)
    |(rename SH=>q;exact⟨(i+1,u,q),⟨by show 1≤i+1;omega,hil,by show GrO iV h (xcN L st (i+1)) _ _;rw[hstp];exact hg⟩,by show L.length-(i+1)<L.length-i;omega,(by repeat'(first|exact trivial|refine⟨rfl,?_⟩|refine⟨congrArg some ?_,?_⟩)),(by repeat with_reducible first|exact Take.nil|apply Take.c|apply Take.drop)⟩)
  ·rw[if_pos (by
    rw[decide_eq_true_eq]
    by_cases g:addOk w1 st
    ·exact .inr fun e=>hok ⟨g,e⟩
    ·exact .inl g)]at hstp
   have hno:addOk w1 st→y≠w:=fun g e=>hok ⟨g,e⟩
   generalize xcN L st i=O at *
   have hob:(nodes O).length=O.length:=by simp
   by_cases hak:addOk w1 st
   ·have hyw:=hno hak
    rw[decide_eq_true hak]at hA
    cases hg with
    |nil =>
     repeat'(first|apply zF|apply zB|apply zE|(apply o_g zC;exact rfl;exact rfl)|(apply o_ar zC;exact rfl;exact rfl)|(apply yR;exact rfl;exact rfl)|(apply zM zC;(iterate 3 exact rfl);(focus exact pk))|(apply zT zC;(iterate 5 exact rfl);(focus decide);exact rfl;(focus decide);(focus repeat(first|exact CatR.nil|(apply CatR.one;exact rfl;exact rfl)));exact rfl)|(apply o_append_nil zC;(iterate 5 exact rfl);(focus exact⟨by decide⟩);(focus exact pk))|(apply zD;exact rfl;exact rfl;(focus first|exact rfl);exact rfl;(focus exact⟨_,hA _,by repeat with_reducible exact Take.nil⟩);rintro _ _ ⟨rfl,rfl⟩)|(apply zU;exact rfl;exact rfl)|(apply yC;exact rfl;(focus first|omega))|apply zA|apply zG|apply zI|apply zH|((with_reducible apply Sd.mk);first|exact True.intro|omega|(constructor <;> first|omega|(unfold maxLen;omega)))|((with_reducible apply Ln.mk);first|rfl|(simp[hlb];first|done|omega))|((with_reducible apply Wr.mk);first|exact IntWalk.i64_in _ (by omega))|((with_reducible apply Ce.mk);first|exact hc1|exact hc2)|((with_reducible apply Su.mk);first|exact zQ)|exact True.intro|intro A|exact rfl)
     all_goals first
      |contradiction
      |(exfalso;omega)
      |(rename SH=>h;exact⟨(i+1,gsl A 0 1 1 1,(A,⟨[I i],false⟩)::h),⟨by show 1≤i+1;omega,hil,by show GrO iV h (xcN L st (i+1)) (gsl A 0 1 1 1) _;rw[hstp];exact .ofc (n:=1) (k:=1) rfl rfl rfl⟩,by show L.length-(i+1)<L.length-i;omega,(by repeat'(first|exact trivial|refine⟨rfl,?_⟩|refine⟨congrArg some ?_,?_⟩)),(by repeat with_reducible first|exact Take.nil|apply Take.c|apply Take.drop)⟩)
    |some P1 _ =>
     repeat'(first|apply zF|apply zB|apply zE|(apply o_g zC;exact rfl;exact rfl)|(apply o_ar zC;exact rfl;exact rfl)|(apply yR;exact rfl;exact rfl)|(apply zM zC;(iterate 3 exact rfl);(focus exact pk))|(apply zT zC;(iterate 5 exact rfl);(focus decide);exact rfl;(focus decide);(focus repeat(first|exact CatR.nil|(apply CatR.one;exact rfl;exact rfl)));exact rfl)|(apply o_append zC;(iterate 5 exact rfl);(focus exact⟨by decide⟩);(focus exact up);(focus exact pk))|(apply zD;exact rfl;exact rfl;(focus first|exact rfl);exact rfl;(focus exact⟨_,hA _,by repeat with_reducible exact Take.nil⟩);rintro _ _ ⟨rfl,rfl⟩)|(apply zU;exact rfl;exact rfl)|(apply yC;exact rfl;(focus first|omega))|apply zA|apply zG|apply zI|apply zH|((with_reducible apply Sd.mk);first|exact True.intro|omega|(constructor <;> first|omega|(unfold maxLen;omega)))|((with_reducible apply Ln.mk);first|rfl|omega|(simp[hlb,hob];first|done|omega))|((with_reducible apply Wr.mk);first|exact IntWalk.i64_in _ (by omega))|((with_reducible apply Ce.mk);first|exact hc1|exact hc2)|((with_reducible apply Su.mk);first|exact zQ)|exact True.intro|intro A|exact rfl)
     all_goals first
      |contradiction
      |(exfalso;omega)
      |exact⟨(i+1,gsl P1 0 (O.length+1*1) (O.length+1) 1,(P1,⟨nodes O++[I i],false⟩)::h),⟨by show 1≤i+1;omega,hil,by show GrO iV h (xcN L st (i+1)) (gsl P1 0 (O.length+1*1) (O.length+1) 1) _;rw[hstp];exact .ofc (n:=O.length+1) (k:=O.length+1*1) (by simp) (by simp) (by omega)⟩,by show L.length-(i+1)<L.length-i;omega,(by repeat'(first|exact trivial|refine⟨rfl,?_⟩|refine⟨congrArg some ?_,?_⟩)),(by repeat with_reducible first|exact Take.nil|apply Take.c|apply Take.drop)⟩
   ·rw[decide_eq_false hak]at hA
    cases hg with
    |nil =>
     repeat'(first|apply zF|apply zB|apply zE|(apply o_g zC;exact rfl;exact rfl)|(apply o_ar zC;exact rfl;exact rfl)|(apply yR;exact rfl;exact rfl)|(apply zM zC;(iterate 3 exact rfl);(focus exact pk))|(apply zT zC;(iterate 5 exact rfl);(focus decide);exact rfl;(focus decide);(focus repeat(first|exact CatR.nil|(apply CatR.one;exact rfl;exact rfl)));exact rfl)|(apply o_append_nil zC;(iterate 5 exact rfl);(focus exact⟨by decide⟩);(focus exact pk))|(apply zD;exact rfl;exact rfl;(focus first|exact rfl);exact rfl;(focus exact⟨_,hA _,by repeat with_reducible exact Take.nil⟩);rintro _ _ ⟨rfl,rfl⟩)|(apply yF;iterate 4 exact rfl)|(apply yB;exact rfl)|(apply yC;exact rfl;(focus first|omega))|apply zA|apply zG|apply zI|apply zH|((with_reducible apply Sd.mk);first|exact True.intro|omega|(constructor <;> first|omega|(unfold maxLen;omega)))|((with_reducible apply Ln.mk);first|rfl|(simp[hlb,hob];first|done|omega))|((with_reducible apply Wr.mk);first|exact IntWalk.i64_in _ (by omega))|((with_reducible apply Ce.mk);first|exact hc2)|((with_reducible apply Su.mk);first|exact zQ)|exact True.intro|intro A|exact rfl)
     all_goals first
      |contradiction
      |(exfalso;omega)
      |(rename SH=>h;exact⟨(i+1,gsl A 0 1 1 1,(A,⟨[I i],false⟩)::h),⟨by show 1≤i+1;omega,hil,by show GrO iV h (xcN L st (i+1)) (gsl A 0 1 1 1) _;rw[hstp];exact .ofc (n:=1) (k:=1) rfl rfl rfl⟩,by show L.length-(i+1)<L.length-i;omega,(by repeat'(first|exact trivial|refine⟨rfl,?_⟩|refine⟨congrArg some ?_,?_⟩)),(by repeat with_reducible first|exact Take.nil|apply Take.c|apply Take.drop)⟩)
    |some P1 _ =>
     repeat'(first|apply zF|apply zB|apply zE|(apply o_g zC;exact rfl;exact rfl)|(apply o_ar zC;exact rfl;exact rfl)|(apply yR;exact rfl;exact rfl)|(apply zM zC;(iterate 3 exact rfl);(focus exact pk))|(apply zT zC;(iterate 5 exact rfl);(focus decide);exact rfl;(focus decide);(focus repeat(first|exact CatR.nil|(apply CatR.one;exact rfl;exact rfl)));exact rfl)|(apply o_append zC;(iterate 5 exact rfl);(focus exact⟨by decide⟩);(focus exact up);(focus exact pk))|(apply zD;exact rfl;exact rfl;(focus first|exact rfl);exact rfl;(focus exact⟨_,hA _,by repeat with_reducible exact Take.nil⟩);rintro _ _ ⟨rfl,rfl⟩)|(apply yF;iterate 4 exact rfl)|(apply yB;exact rfl)|(apply yC;exact rfl;(focus first|omega))|apply zA|apply zG|apply zI|apply zH|((with_reducible apply Sd.mk);first|exact True.intro|omega|(constructor <;> first|omega|(unfold maxLen;omega)))|((with_reducible apply Ln.mk);first|rfl|omega|(simp[hlb,hob];first|done|omega))|((with_reducible apply Wr.mk);first|exact IntWalk.i64_in _ (by omega))|((with_reducible apply Ce.mk);first|exact hc2)|((with_reducible apply Su.mk);first|exact zQ)|exact True.intro|intro A|exact rfl)
     all_goals first
      |contradiction
      |(exfalso;omega)
      |exact⟨(i+1,gsl P1 0 (O.length+1*1) (O.length+1) 1,(P1,⟨nodes O++[I i],false⟩)::h),⟨by show 1≤i+1;omega,hil,by show GrO iV h (xcN L st (i+1)) (gsl P1 0 (O.length+1*1) (O.length+1) 1) _;rw[hstp];exact .ofc (n:=O.length+1) (k:=O.length+1*1) (by simp) (by simp) (by omega)⟩,by show L.length-(i+1)<L.length-i;omega,(by repeat'(first|exact trivial|refine⟨rfl,?_⟩|refine⟨congrArg some ?_,?_⟩)),(by repeat with_reducible first|exact Take.nil|apply Take.c|apply Take.drop)⟩
 ·have e:i=L.length:=by omega
  subst e
  generalize xcN L st L.length=O at *
  cases hg with
  |nil=>exact absurd rfl hne
  |some P1 _ =>
   repeat'(first|apply zF|apply zB|apply zE|(apply o_g zC;exact rfl;exact rfl)|(apply yD;exact rfl;(focus first|omega))|apply zA|apply zK|apply zJ|apply zN|apply zV|((with_reducible apply Sd.mk);first|exact True.intro))
   all_goals first
    |contradiction
    |(exfalso;omega)
    |(apply zL;(exact(show ResS _ _ _ _ [_] from⟨rfl,trivial⟩));(focus exact⟨P1,rfl,rfl⟩);(focus repeat with_reducible first|exact Take.nil|apply Take.c|apply Take.drop))
end Go.Proofs.YteddogfolceahaaGreat
end
