/- Part 8 of the proof of the law TopDamage: texts merged. No condition. -/
import Derived.Test.YteddogfolceahaaGreatZTopDamageG
import Derived.RangeFuncNested
import Derived.RangeFuncBound
import Derived.RangeFuncCalls
import Derived.RangeFuncLeaves
import Derived.RangeFuncBox
import Derived.Shelf.Abstract
import Derived.Shelf.RegionOpen
import Derived.WalkKit
import Derived.OwnWalkIn
import Derived.TacticsInMore
import Derived.LoopNIn
import Derived.LoopIn
import Derived.Maps.AppendAt
set_option linter.unusedSimpArgs false
set_option linter.unusedVariables false
section
set_option maxRecDepth 4000
namespace Go.Proofs.YteddogfolceahaaGreat
open Go.Gh Go.RowKit

def wst (s:Ms × Enc)(t:Pc):Ms × Enc :=
 if t.2.1=0 then
  ({ s.1 with K:=(tenc 0 1 s.1.K s.2 1).1,P:=(benc s.1.P s.1.c (tenc 0 1 s.1.K s.2 1).2 t.2.2).1,c:=t.2.2 },(benc s.1.P s.1.c (tenc 0 1 s.1.K s.2 1).2 t.2.2).2)
 else
  ({ s.1 with K:=(tenc 1 1 s.1.K s.2 1).1,L:=(nenc s.1.L (tenc 1 1 s.1.K s.2 1).2 (t.1-2)).1,D:=(nenc s.1.D (nenc s.1.L (tenc 1 1 s.1.K s.2 1).2 (t.1-2)).2 (t.2.1-1)).1 },
   (nenc s.1.D (nenc s.1.L (tenc 1 1 s.1.K s.2 1).2 (t.1-2)).2 (t.2.1-1)).2)
def wrun (l:List Pc)(s:Ms × Enc):Ms × Enc:=l.foldl wst s
theorem wrun_cons (t:Pc)(l:List Pc)(s:Ms × Enc):wrun (t::l) s=wrun l (wst s t):=rfl
abbrev vPb (t:Pc):Prop:=vP t∧0≤t.2.2∧t.2.2≤255
def psum :List Pc→Nat
 |[]=>0
 |t::r=>t.1.toNat+psum r
theorem wst_ok {n:Nat}{s:Ms × Enc}{t:Pc}(hx:MsOk s.1)(hok:EncOk n s.2)(ht:vPb t):MsOk (wst s t).1∧EncOk (n+137*t.1.toNat) (wst s t).2:=by
 obtain⟨hv,hy⟩:=ht
 unfold wst
 split
 ·have h1:=tenc_ok (v:=0) (k:=1) (t:=s.1.K) (j:=1) hok
  have h2:=benc_ok (v:=t.2.2) h1.1 hx.P hx.c
  exact⟨⟨h1.2.trans hx.K,h2.2,hy,hx.L,hx.D⟩,h2.1.mono (by rcases hv with g|g <;> omega)⟩
 ·have h1:=tenc_ok (v:=1) (k:=1) (t:=s.1.K) (j:=1) hok
  have h2:=nenc_ok (t:=s.1.L) h1.1 (t.1-2)
  have h3:=nenc_ok (t:=s.1.D) h2.1 (t.2.1-1)
  exact⟨⟨h1.2.trans hx.K,hx.P,hx.c,h2.2.trans hx.L,h3.2.trans hx.D⟩,h3.1.mono (by rcases hv with g|g <;> omega)⟩
theorem wrun_ok :∀{l:List Pc} {n:Nat} {s:Ms × Enc},MsOk s.1→EncOk n s.2→(∀t∈l,vPb t)→MsOk (wrun l s).1∧EncOk (n+137*psum l) (wrun l s).2
 |[],n,s,hx,hok,_=>⟨hx,hok⟩
 |t::r,n,s,hx,hok,ht=>by
  have h1:=wst_ok hx hok (ht t (by simp))
  have h2:=wrun_ok (l:=r) h1.1 h1.2 (fun u hu=>ht u (by simp[hu]))
  rw[wrun_cons]
  exact⟨h2.1,h2.2.mono (by show _≤n+137*(t.1.toNat+psum r);omega)⟩
theorem EncT.add {n:Nat}{h p:SH}{a:Option Nat}{e:Enc}{x:Nat × Blk}(hb:EncT n h a e p):∃p',EncT n (x::h) a e p'∧Take (x::p) p':=by
 cases hb with
 |nil _ _ ha=>exact⟨_,.nil _ _ ha,.cons (.tail .head) .nil⟩
 |some _ _ _ _ ha ho=>exact⟨_,.some _ _ _ _ ha ho,.cons (.tail .head) (.cons (.tail .head) .nil)⟩
theorem Take.up8 {X A B C D E F G H:Nat × Blk}{h:SH}:Take (X::A::B::C::D::E::F::G::H::h) (A::B::C::D::E::F::G::H::X::h) :=
 .cons (.tail .head) (.cons (.tail .head) (.cons (.tail .head) (.cons (.tail .head) (.cons (.tail .head) (.cons (.tail .head) (.cons (.tail .head) (.cons (.tail .head) .nil)))))))
theorem Take.dn8 {X A B C D E F G H:Nat × Blk}{h:SH}:Take (A::B::C::D::E::F::G::H::X::h) (A::B::C::D::E::F::G::H::h) :=
 .cons .head (.cons .head (.cons .head (.cons .head (.cons .head (.cons .head (.cons .head (.cons .head (.drop .nil))))))))
theorem EncT.add8 {n:Nat}{a:Mad}{x:Ms}{h p:SH}{e:Enc}{y:Nat × Blk}(hb:EncT n (msB a x h) none e p):∃p',EncT n (msB a x (y::h)) none e p'∧Take (y::p) p':=by
 obtain⟨p1,h1,t1⟩:=hb.add (x:=y)
 obtain⟨p2,h2,t2⟩:=h1.re Take.up8
 exact⟨p2,h2,t1.trans t2⟩
theorem pk3 {a:Mad}{n A s c:Nat}{x:Ms}{bA bS bC:Blk}{h p:SH}{e:Enc}(hb:EncT n (msB a x ((A,bA)::(s,bS)::(c,bC)::h)) none e p):(∃p1,Pick p A bA p1)∧(∃p1,Pick p s bS p1)∧∃p1,Pick p c bC p1 :=
 ⟨hb.pick (.tail (.tail (.tail (.tail (.tail (.tail (.tail (.tail .head)))))))),hb.pick (.tail (.tail (.tail (.tail (.tail (.tail (.tail (.tail (.tail .head))))))))),hb.pick (.tail (.tail (.tail (.tail (.tail (.tail (.tail (.tail (.tail (.tail .head)))))))))) ⟩
theorem write_any (a:Mad)(n s c m:Nat)(x:Ms)(e:Enc)(t:Pc)(h p:SH)(hb:EncT n (msB a x ((s,⟨setC a,false⟩)::(c,⟨[gptr n 0 3],false⟩)::h)) none e p)(hx:MsOk x)(hok:EncOk m e)(hm:m+800≤999000)(ht:vPb t) :
  SRun Tryz.prog 41 [pcV t,gptr s 0 4,gptr c 0 1] p fun r q=>r=.tuple #[]∧EncT n (msB a (wst (x,e) t).1 ((s,⟨setC a,false⟩)::(c,⟨[gptr n 0 3],false⟩)::h)) none (wst (x,e) t).2 q:=by
 refine srun_post ?_
 obtain⟨hv,hy⟩:=ht
 obtain⟨l,d,y⟩:=t
 dsimp only at hv hy
 refine w_body3 Tryz.func41 rfl rfl ?_
 repeat'((fail_if_success (show SWp _ _ (Code.seq (Code.region 1 _ _) _) _ _ _));(fail_if_success (show SWp _ _ (Code.region 1 _ _) _ _ _));first|apply zF|apply zB|apply zE|(apply o_box (tt:=tyT);iterate 5 exact rfl)|apply zA|intro A)
 obtain⟨p1,hb1,t1⟩:=hb.add8 (y:=(A,(⟨pcC (l,d,y),false⟩:Blk)))
 obtain⟨⟨pA,hA⟩,⟨pS,hS⟩,⟨pC,hC⟩⟩:=pk3 hb1
 refine SWp.take (b:=[(1,gptr s 0 4),(2,gptr c 0 1),(3,gptr A 0 3)]) (by repeat'(first|exact trivial|refine⟨rfl,?_⟩|refine⟨congrArg some ?_,?_⟩)) t1 ?_
 unfold wst
 by_cases h0:d=0
 ·rw[if_pos h0]
  have hK:=(kEncW a n m x e 0 _ p1 hb1 hx hok (by omega)).mono fun _ q g=>And.intro g (pk3 g)
  have ok1:=tenc_ok (v:=0) (k:=1) (t:=x.K) (j:=1) hok
  have hB:=fun q g=>(bEncW a n (m+2) { x with K:=(tenc 0 1 x.K e 1).1 } (tenc 0 1 x.K e 1).2 y ((A,(⟨pcC (l,d,y),false⟩:Blk))::(s,⟨setC a,false⟩)::(c,⟨[gptr n 0 3],false⟩)::h) q g ⟨ok1.2.trans hx.K,hx.P,hx.c,hx.L,hx.D⟩ (ok1.1.mono (by omega)) (by omega) hy)
  generalize tenc 0 1 x.K e 1=T at *
  dsimp only at hB ⊢
  generalize benc x.P x.c T.2 y=W at *
  repeat'(first|apply zF|apply zB|apply zE|(apply o_g zC;exact rfl;exact rfl)|(apply zM zC;(iterate 3 exact rfl);(focus exact pk))|(apply zD;exact rfl;exact rfl;(focus first|exact rfl);exact rfl;(focus exact⟨_,hK,by repeat with_reducible exact Take.nil⟩);rintro _ _ ⟨hb2,⟨pA2,hA2⟩,⟨pS2,hS2⟩,⟨pC2,hC2⟩⟩)|(apply zD;exact rfl;exact rfl;(focus first|exact rfl);exact rfl;(focus exact⟨_,hB _ hb2,by repeat with_reducible exact Take.nil⟩);rintro _ _ hb3)|(apply yC;exact rfl;(focus first|omega))|apply zA|apply zP|apply zN|((with_reducible apply Sd.mk);first|exact True.intro)|((with_reducible apply Ln.mk);first|rfl)|((with_reducible apply Ce.mk);first|rfl)|exact True.intro|exact rfl)
  all_goals first
   |(exfalso;omega)
   |(apply zL;(exact(show ResS _ _ _ _ [] from trivial));(focus exact(hb3.re Take.dn8).imp fun _ g=>⟨⟨rfl,g.1⟩,g.2⟩);(focus repeat with_reducible first|exact Take.nil|apply Take.c|apply Take.drop))
 ·rw[if_neg h0]
  have hK:=(kEncW a n m x e 1 _ p1 hb1 hx hok (by omega)).mono fun _ q g=>And.intro g (pk3 g)
  have ok1:=tenc_ok (v:=1) (k:=1) (t:=x.K) (j:=1) hok
  have ok2:=nenc_ok (t:=x.L) ok1.1 (l-2)
  have hL:=fun q g=>(lEncW a n (m+2) { x with K:=(tenc 1 1 x.K e 1).1 } (tenc 1 1 x.K e 1).2 (l-2) ((A,(⟨pcC (l,d,y),false⟩:Blk))::(s,⟨setC a,false⟩)::(c,⟨[gptr n 0 3],false⟩)::h) q g ⟨ok1.2.trans hx.K,hx.P,hx.c,hx.L,hx.D⟩ (ok1.1.mono (by omega)) (by omega)).mono fun _ q g=>And.intro g (pk3 g)
  have hD:=fun q g=>(dEncW a n (m+138) { x with K:=(tenc 1 1 x.K e 1).1,L:=(nenc x.L (tenc 1 1 x.K e 1).2 (l-2)).1 } (nenc x.L (tenc 1 1 x.K e 1).2 (l-2)).2 (d-1) ((A,(⟨pcC (l,d,y),false⟩:Blk))::(s,⟨setC a,false⟩)::(c,⟨[gptr n 0 3],false⟩)::h) q g ⟨ok1.2.trans hx.K,hx.P,hx.c,ok2.2.trans hx.L,hx.D⟩ (ok2.1.mono (by omega)) (by omega))
  generalize tenc 1 1 x.K e 1=T at *
  dsimp only at hL hD ⊢
  generalize nenc x.L T.2 (l-2)=V at *
  generalize nenc x.D V.2 (d-1)=W at *
  have hdl:1≤d∧d≤4096∧2≤l∧l≤273:=by rcases hv with g|g <;> (dsimp only at g;omega)
  repeat'(first|apply zF|apply zB|apply zE|(apply o_g zC;exact rfl;exact rfl)|(apply o_ar zC;exact rfl;exact rfl)|(apply zM zC;(iterate 3 exact rfl);(focus exact pk))|(apply zD;exact rfl;exact rfl;(focus first|exact rfl);exact rfl;(focus exact⟨_,hK,by repeat with_reducible exact Take.nil⟩);rintro _ _ ⟨hb2,⟨pA2,hA2⟩,⟨pS2,hS2⟩,⟨pC2,hC2⟩⟩)|(apply zD;exact rfl;exact rfl;(focus first|exact rfl);exact rfl;(focus exact⟨_,hL _ hb2,by repeat with_reducible exact Take.nil⟩);rintro _ _ ⟨hb3,⟨pA3,hA3⟩,⟨pS3,hS3⟩,⟨pC3,hC3⟩⟩)|(apply zD;exact rfl;exact rfl;(focus first|exact rfl);exact rfl;(focus exact⟨_,hD _ hb3,by repeat with_reducible exact Take.nil⟩);rintro _ _ hb4)|(apply yD;exact rfl;(focus first|omega))|apply zA|apply zI|((with_reducible apply Sd.mk);first|exact True.intro)|((with_reducible apply Ln.mk);first|rfl)|((with_reducible apply Wr.mk);first|exact IntWalk.i64_in _ (by omega))|((with_reducible apply Ce.mk);first|rfl)|exact True.intro|exact rfl)
  all_goals first
   |(exfalso;omega)
   |(apply s_finN;(exact(show ResS _ _ _ _ [] from trivial));(focus exact(hb4.re Take.dn8).imp fun _ g=>⟨⟨rfl,g.1⟩,g.2⟩);(focus repeat with_reducible first|exact Take.nil|apply Take.c|apply Take.drop))

def lcst :Cst:=⟨9,12,1,1⟩
theorem lcst_ok :vC lcst:=by unfold vC one1 lcst;decide
def pcs (l:List UInt8):List Pc:=(parse lcst l 4096).1
theorem pcs_cov {l:List UInt8}(hl:l.length≤4096):Cov l 4096 0 (pcs l):=parse_cov lcst_ok (by decide) hl
theorem pcs_err (l:List UInt8):(parse lcst l 4096).2=if 4096<l.length then 9 else 0:=by
 unfold parse
 rw[if_pos ⟨lcst_ok,by decide⟩]
 split <;> rfl
theorem cov_vPb {l:List UInt8}{w:Int}(hw:w≤4096){ps:List Pc}{i:Nat}(h:Cov l w i ps):∀t∈ps,vPb t:=fun t ht=>⟨cov_vPs hw h t ht,cov_bytes h t ht⟩
theorem cov_psum {l:List UInt8}{w:Int}(hw:w≤4096):∀{ps:List Pc} {i:Nat},Cov l w i ps→i+psum ps=l.length
 |[],i,h=>by show i+0=_;have:i=l.length:=h;omega
 |t::r,i,h=>by
  have h1:=cov_psum hw h.2
  show i+(t.1.toNat+psum r)=_
  omega
theorem Pieces_any (l:List UInt8)(h:SH)(hl:l.length≤9223372036854775807):SRun Tryz.prog 17 [S l] h fun r q =>
  ∃v,r=.tuple #[v,I (if 4096<l.length then 9 else 0)]∧Has q (recs pcC (pcs l)) 3 (pcs l).length v∧Take q h:=by
 have hP:∀h,SRun Tryz.prog 35 [csV ⟨9,12,1,1⟩,S l,I 4096] h fun r q=>∃v,r=.tuple #[v,I (if 4096<l.length then 9 else 0)]∧Has q (recs pcC (pcs l)) 3 (pcs l).length v∧Take q h :=
  fun h=>(Parse_any lcst l 4096 h hl).mono fun r q ⟨v,g1,g2⟩=>⟨v,by rw[g1,pcs_err],g2.has⟩
 generalize pcs l=L at *
 generalize (if 4096<l.length then(9:Int)else 0)=E at *
 refine zR Tryz.func17 rfl rfl ?_
 repeat'(first|apply zF|apply zB|apply zE|(apply o_g zC;exact rfl;exact rfl)|(apply yT zC;exact rfl;exact rfl;(focus first|with_reducible exact pl49);exact rfl;(focus repeat(first|exact BuildR.nil|(apply BuildR.one;exact rfl;exact rfl;(first|(focus(repeat(first|exact SetAt.zero|apply SetAt.succ));done)))));exact rfl)|(apply zD;exact rfl;exact rfl;(focus first|exact rfl);exact rfl;(focus exact⟨_,hP _,by repeat with_reducible exact Take.nil⟩);rintro _ _ ⟨v,rfl,hv,ht⟩)|apply zA|apply zN|((with_reducible apply Sd.mk);first|exact True.intro))
 (apply zL;(exact(show ResS _ _ _ _ [_,_] from⟨rfl,⟨rfl,trivial⟩⟩));(focus exact⟨v,rfl,hv,ht⟩);(focus repeat with_reducible first|exact Take.nil|apply Take.c|apply Take.drop))
theorem psum_app (a b:List Pc):psum (a++b)=psum a+psum b:=by
 induction a with
 |nil=>exact(Nat.zero_add _).symm
 |cons t r ih=>show t.1.toNat+psum (r++b)=t.1.toNat+psum r+psum b;omega
theorem wrun_snoc (l:List Pc)(t:Pc)(s:Ms × Enc):wrun (l++[t]) s=wst (wrun l s) t:=by unfold wrun;rw[List.foldl_append];rfl
def zs0 :Ms × Enc:=(ms0,encZ)
def wrt (n:Nat)(ps:List Pc):List UInt8:=vnum n++fin (wrun ps zs0).2
def lzE (l:List UInt8):List UInt8 × Int:=if 4096<l.length then([],9)else(if l=[] then vnum 0 else wrt l.length (pcs l),0)
theorem ztake_bang {α:Type}[Inhabited α]{l:List α}{i:Nat}(h:i<l.length):l.take (i+1)=l.take i++[l[i]!]:=by
 rw[getElem!_pos l i h];exact(List.take_append_getElem h).symm
theorem psum_all {l:List Pc}{i:Nat}:psum (l.take i)≤psum l:=by
 have h1:=psum_app (l.take i) (l.drop i)
 rw[List.take_append_drop]at h1
 omega
theorem wrunT_ok {ps:List Pc}(hv:∀t∈ps,vPb t)(i:Nat):MsOk (wrun (ps.take i) zs0).1∧EncOk (137*psum ps) (wrun (ps.take i) zs0).2:=by
 have h:=wrun_ok (l:=ps.take i) (s:=zs0) ms0_ok encZ_ok (fun t ht=>hv t (List.mem_of_mem_take ht))
 have:=psum_all (l:=ps) (i:=i)
 exact⟨h.1,h.2.mono (by omega)⟩
abbrev WF (s c:Nat):Value:=.func (.func 41) ⟨[]⟩ ⟨[gptr s 0 4,gptr c 0 1]⟩
theorem Encode_any' (l:List UInt8)(h:SH)(hl:l.length≤9223372036854775807):SRun Tryz.prog 19 [S l] h fun r q=>r=.tuple #[S (lzE l).1,I (lzE l).2]∧q=h:=by
 have hP:=fun h=>Pieces_any l h hl
 have hN:=fun h=>Number_any (l.length:Int) h (by omega)
 by_cases hbig:4096<l.length
 ·rw[show lzE l=([],9)from if_pos hbig]
  simp only[if_pos hbig]at hP
  refine zR Tryz.func19 rfl rfl ?_
  repeat'(first|apply zF|apply zB|apply zE|(apply o_g zC;exact rfl;exact rfl)|(apply zD;exact rfl;exact rfl;(focus first|exact rfl);exact rfl;(focus exact⟨_,hP _,by repeat with_reducible exact Take.nil⟩);rintro _ _ ⟨v,rfl,hv,ht⟩)|(apply yB;exact rfl)|apply zA|apply zP|apply zN|((with_reducible apply Sd.mk);first|exact True.intro))
  all_goals first
   |(exfalso;omega)
   |(apply zL;(exact(show ResS _ _ _ _ [_,_] from⟨rfl,⟨rfl,trivial⟩⟩));(focus exact⟨rfl,rfl⟩);(focus repeat(first|with_reducible exact Take.nil|exact ht|with_reducible apply Take.c|with_reducible apply Take.drop)))
 ·simp only[if_neg hbig]at hP
  by_cases h0:l=[]
  ·subst h0
   rw[show lzE []=(vnum 0,0)from rfl]
   refine zR Tryz.func19 rfl rfl ?_
   repeat'(first|apply zF|apply zB|apply zE|(apply o_g zC;exact rfl;exact rfl)|(apply zD;exact rfl;exact rfl;(focus first|exact rfl);exact rfl;(focus exact⟨_,hP _,by repeat with_reducible exact Take.nil⟩);rintro _ _ ⟨v,rfl,hv,ht⟩)|(apply zD;exact rfl;exact rfl;(focus first|exact rfl);exact rfl;(focus exact⟨_,hN _,by repeat with_reducible exact Take.nil⟩);rintro _ _ ⟨rfl,rfl⟩)|(apply yB;exact rfl)|(apply zS;exact rfl)|apply zA|apply zP|apply zI|apply zN|((with_reducible apply Sd.mk);first|exact True.intro))
   all_goals first
    |contradiction
    |(apply zL;(exact(show ResS _ _ _ _ [_,_] from⟨rfl,⟨rfl,trivial⟩⟩));(focus exact⟨rfl,rfl⟩);(focus repeat(first|with_reducible exact Take.nil|exact ht|with_reducible apply Take.c|with_reducible apply Take.drop)))
  ·rw[show lzE l=(wrt l.length (pcs l),0)by unfold lzE;rw[if_neg hbig,if_neg h0]]
   have hcv:=pcs_cov (l:=l) (by omega)
   have hvp:=cov_vPb (by omega) hcv
   have hps:=cov_psum (by omega) hcv
   have hl0:l.length≠0:=fun g=>h0 (List.length_eq_zero_iff.1 g)
   have hpl:=cov_short (by omega) hcv
   unfold wrt
   generalize pcs l=ps at *
   have hpn:ps.length≠0:=fun g=>by
    rw[List.length_eq_zero_iff.1 g]at hps
    exact hl0 (by rw[←hps];rfl)
   refine zR Tryz.func19 rfl rfl ?_
   repeat'(first|apply zF|apply zB|apply zE|(apply o_g zC;exact rfl;exact rfl)|(apply zX zC;(iterate 4 exact rfl);(focus exact up))|(apply yE zC;(iterate 4 exact rfl);(focus exact⟨rfl⟩);(focus exact up))|(apply yG zC;iterate 5 exact rfl)|(apply o_makeFunc;iterate 3 exact rfl)|(apply zD;exact rfl;exact rfl;(focus first|exact rfl);exact rfl;(focus exact⟨_,hP _,by repeat with_reducible exact Take.nil⟩);rintro _ _ ⟨v,rfl,⟨ad,fl,rfl,hh⟩,ht⟩)|(apply zD;exact rfl;exact rfl;(focus first|exact rfl);exact rfl;(focus exact⟨_,hN _,by repeat with_reducible exact Take.nil⟩);rintro _ _ ⟨rfl,rfl⟩)|(apply zD;exact rfl;exact rfl;(focus first|exact rfl);exact rfl;(focus exact⟨_,newSet_any _,by repeat with_reducible exact Take.nil⟩);rintro _ _ ⟨a,rfl,rfl⟩)|(apply zD;exact rfl;exact rfl;(focus first|exact rfl);exact rfl;(focus exact⟨_,NewEncoderT _,by repeat with_reducible exact Take.nil⟩);rintro _ _ ⟨n,rfl,rfl⟩)|(apply zS;exact rfl)|(apply yD;exact rfl;(focus first|omega))|apply zA|apply zI|apply zH|((with_reducible apply Sd.mk);first|exact True.intro)|((with_reducible apply Ln.mk);first|rfl)|((with_reducible apply Se.mk);first|(focus(repeat(first|exact SetAt.zero));done))|((with_reducible apply Pu.mk);first|exact yA rfl)|exact True.intro|intro A)
   all_goals first|contradiction|skip
   rename_i q0 s
   refine zZ (S:=Nat × SH) (fun x=>[(6,S (vnum l.length)),(8,gptr A 0 1),(9,WF s A),(29,.slice ad ps.length fl),(30,I ps.length),(31,I x.1)]) (fun x=>x.2)
    (fun x=>x.1≤ps.length∧EncT n (msB a (wrun (ps.take x.1) zs0).1 ((s,⟨setC a,false⟩)::(A,⟨[gptr n 0 3],false⟩)::q0)) none (wrun (ps.take x.1) zs0).2 x.2) (fun x=>ps.length-x.1)
    (0,(n,⟨encC (.slice none 0 0) 0 4294967295,false⟩)::msB a ms0 ((s,⟨setC a,false⟩)::(A,⟨[gptr n 0 3],false⟩)::q0)) ⟨Nat.zero_le _,.nil _ _ rfl⟩ (by repeat'(first|exact trivial|refine⟨rfl,?_⟩|refine⟨congrArg some ?_,?_⟩)) (by repeat with_reducible first|exact Take.nil|apply Take.c|apply Take.drop) ?_
   rintro⟨i,p⟩ ⟨hi,hb⟩
   dsimp only at hi hb ⊢
   have hok:=wrunT_ok hvp i
   obtain⟨pC,hpC⟩:∃p1,Pick p A ⟨[gptr n 0 3],false⟩ p1:=hb.pick (.tail (.tail (.tail (.tail (.tail (.tail (.tail (.tail (.tail .head)))))))))
   by_cases hil:i<ps.length
   ·obtain⟨A',ro,h1,rfl,hp⟩:=hh (by omega)
    obtain⟨pA,hpA⟩:=hb.pick (.tail (.tail (.tail (.tail (.tail (.tail (.tail (.tail (.tail (.tail hp))))))))))
    have hW:∀A2 b2,SRun Tryz.prog 41 [pcV ps[i]!,gptr s 0 4,gptr A 0 1] ((A2,b2)::p) fun r q=>r=.tuple #[]∧EncT n (msB a (wrun (ps.take (i+1)) zs0).1 ((s,⟨setC a,false⟩)::(A,⟨[gptr n 0 3],false⟩)::q0)) none (wrun (ps.take (i+1)) zs0).2 q:=fun A2 b2=>by
     rw[ztake_bang hil,wrun_snoc]
     exact(write_any a n s A _ _ _ ps[i]! q0 p hb hok.1 hok.2 (by omega) (hvp _ (bang_mem hil))).take (.drop .nil)
    repeat'(first|apply zF|apply zB|apply zE|(apply o_g zC;exact rfl;exact rfl)|(apply o_ar zC;exact rfl;exact rfl)|(apply yQ zC;(iterate 3 exact rfl);(focus exact pk))|(apply yE zC;(iterate 4 exact rfl);(focus exact⟨rfl⟩);(focus exact up))|(apply yG zC;iterate 5 exact rfl)|(apply zD;exact rfl;exact rfl;(focus first|exact rfl);exact rfl;(focus exact⟨_,hW _ _,by repeat with_reducible exact Take.nil⟩);rintro _ _ ⟨rfl,hb2⟩)|(apply yC;exact rfl;(focus first|omega))|apply zA|apply zG|apply zI|apply zH|((with_reducible apply Sd.mk);first|exact True.intro|omega)|((with_reducible apply Ln.mk);first|rfl|(simp ;first|done|omega))|((with_reducible apply Wr.mk);first|exact IntWalk.i64_in _ (by omega))|((with_reducible apply Pu.mk);first|exact yA rfl)|((with_reducible apply Su.mk);first|exact zQ|exact subAt_recZ (fun _=>rfl) (by omega))|exact True.intro|intro A|exact rfl)
    all_goals first
     |(exfalso;omega)
     |exact⟨(i+1,_),⟨hil,hb2⟩,by show ps.length-(i+1)<ps.length-i;omega,(by repeat'(first|exact trivial|refine⟨rfl,?_⟩|refine⟨congrArg some ?_,?_⟩)),Take.nil⟩
   ·obtain rfl:i=ps.length:=by omega
    rw[List.take_length]at hb hok
    have hs1:=vnum_len (n:=(l.length:Int)) (by omega)
    have hs2:=(vk_ok (n:=(l.length:Int)) (by omega)).2
    have hs3:(fin (wrun ps zs0).2).length=(wrun ps zs0).2.out.length+4:=by simp[fin,tail4]
    have hs4:=hok.2.out
    have hF:=Finish_any n (wrun ps zs0).2 p hb.b.r (by omega) hok.2.low
    generalize fin (wrun ps zs0).2=F at *
    repeat'(first|apply zF|apply zB|apply zE|(apply o_g zC;exact rfl;exact rfl)|(apply zM zC;(iterate 3 exact rfl);(focus exact pk))|(apply zD;exact rfl;exact rfl;(focus first|exact rfl);exact rfl;(focus exact⟨_,hF,by repeat with_reducible exact Take.nil⟩);rintro _ _ ⟨rfl,rfl⟩)|(apply yD;exact rfl;(focus first|omega))|apply zA|apply zK|apply zJ|apply zN|apply zV|((with_reducible apply Sd.mk);first|exact True.intro|omega)|((with_reducible apply Ln.mk);first|rfl)|((with_reducible apply Ce.mk);first|rfl)|exact True.intro|exact rfl)
    all_goals first
     |(exfalso;omega)
     |(apply zL;(exact(show ResS _ _ _ _ [_,_] from⟨rfl,⟨rfl,trivial⟩⟩));(focus exact⟨rfl,rfl⟩);(focus repeat(first|with_reducible exact Take.nil|exact hb.b.take.trans (.drop (.drop (.drop (.drop (.drop (.drop (.drop (.drop (.drop (.drop ht))))))))))|with_reducible apply Take.c|with_reducible apply Take.drop)))

structure Rd1 where
 x:Ms
 d:Dec
 lit:Bool
 t:Pc
def zrd (x:Ms)(d:Dec):Rd1 :=
 if(tdec 1 x.K d 1).2.2=2 then
  ⟨{ x with K:=(tdec 1 x.K d 1).1,P:=(bdec x.P x.c (tdec 1 x.K d 1).2.1).1,c:=(bdec x.P x.c (tdec 1 x.K d 1).2.1).2.2 },(bdec x.P x.c (tdec 1 x.K d 1).2.1).2.1,true,(1,0,(bdec x.P x.c (tdec 1 x.K d 1).2.1).2.2)⟩
 else
  ⟨{ x with K:=(tdec 1 x.K d 1).1,L:=(ndec x.L (tdec 1 x.K d 1).2.1).1,D:=(ndec x.D (ndec x.L (tdec 1 x.K d 1).2.1).2.1).1 },(ndec x.D (ndec x.L (tdec 1 x.K d 1).2.1).2.1).2.1,false,
   ((ndec x.L (tdec 1 x.K d 1).2.1).2.2+2,(ndec x.D (ndec x.L (tdec 1 x.K d 1).2.1).2.1).2.2+1,0)⟩
abbrev okC (n:Nat)(o:List UInt8)(t:Pc):Prop:=2≤t.1∧t.1≤273∧t.1+o.length≤n∧1≤t.2.1∧t.2.1≤o.length
def rdP (n:Nat):Nat→Ms→Dec→List UInt8→Option (List Pc × Dec)
 |0,_,d,_=>some ([],d)
 |f+1,x,d,o=>if o.length<n then
   (if(zrd x d).lit=true∨okC n o (zrd x d).t then(rdP n f (zrd x d).x (zrd x d).d (estp o (zrd x d).t)).map fun r=>((zrd x d).t::r.1,r.2)else none)
  else some ([],d)
def exps (ps:List Pc)(o:List UInt8):List UInt8:=ps.foldl estp o
def lzR (D:List UInt8)(n:Nat):List UInt8 × Bool:=match rdP n n ms0 (dnew D) []with
 |some r=>(exps r.1 [],true)
 |none=>([],false)
theorem rstp_ok {x:Ms}{d:Dec}(hx:MsOk x)(hd:DecOk d):MsOk (zrd x d).x∧DecOk (zrd x d).d∧((zrd x d).lit=true→(zrd x d).t.1=1∧(zrd x d).t.2.1=0∧0≤(zrd x d).t.2.2∧(zrd x d).t.2.2≤255)∧((zrd x d).lit=false→(zrd x d).t.2.2=0):=by
 obtain⟨h1,h2,_⟩:=tdec_ok (k:=1) (t:=x.K) (j:=1) hd
 unfold zrd
 split
 ·obtain⟨g1,g2,g3⟩:=bdec_ok (P:=x.P) (c:=x.c) h1 hx.P hx.c
  exact⟨⟨h2.trans hx.K,g2,g3,hx.L,hx.D⟩,g1,fun _=>⟨rfl,rfl,g3⟩,fun g=>(by cases g)⟩
 ·obtain⟨g1,g2⟩:=ndec_ok (t:=x.L) h1 hx.L
  obtain⟨k1,k2⟩:=ndec_ok (t:=x.D) g1 hx.D
  exact⟨⟨h2.trans hx.K,hx.P,hx.c,g2,k2⟩,k1,fun g=>(by cases g),fun _=>rfl⟩
theorem rdP_go {n f:Nat}{x:Ms}{d:Dec}{o:List UInt8}(h:o.length<n)(hf:n-o.length≤f):∃f',f=f'+1∧rdP n f x d o=(if(zrd x d).lit=true∨okC n o (zrd x d).t then(rdP n f' (zrd x d).x (zrd x d).d (estp o (zrd x d).t)).map fun r=>((zrd x d).t::r.1,r.2)else none):=by
 cases f with
 |zero=>omega
 |succ f=>exact⟨f,rfl,if_pos h⟩
theorem rdP_end {n f:Nat}{x:Ms}{d:Dec}{o:List UInt8}(h:¬o.length<n):rdP n f x d o=some ([],d):=by
 cases f with
 |zero=>rfl
 |succ f=>exact if_neg h
inductive OR (a:Mad)(s nd:Nat)(x:Ms)(d:Dec)(h:SH):List UInt8→Value→SH→Prop
 |nil:OR a s nd x d h [] (.slice none 0 0) (decB nd d::msB a x ((s,⟨setC a,false⟩)::h))
 |some (A:Nat) (o:List UInt8):OR a s nd x d h o (gsl A 0 o.length o.length 1) (decB nd d::msB a x ((A,⟨bytesV o,false⟩)::(s,⟨setC a,false⟩)::h))
def outR (o:List UInt8)(r:Option (List Pc × Dec)):List UInt8 × Bool:=match r with
 |some r=>(exps r.1 o,true)
 |none=>([],false)
theorem outR_map {o:List UInt8}{t:Pc}{r:Option (List Pc × Dec)}:outR o (r.map fun r=>(t::r.1,r.2))=outR (estp o t) r:=by cases r <;> rfl
theorem rstp_lit {x:Ms}{d d1 d2:Dec}{K1 P2:List Int}{c2:Int}(h1:tdec 1 x.K d 1=(K1,d1,2))(h2:bdec x.P x.c d1=(P2,d2,c2)):zrd x d=⟨⟨K1,P2,c2,x.L,x.D⟩,d2,true,(1,0,c2)⟩:=by
 unfold zrd
 rw[h1]
 dsimp only
 rw[if_pos rfl,h2]
theorem rstp_cpy {x:Ms}{d d1 d2 d3:Dec}{j:Nat}{K1 L2 D3:List Int}{l2 dd:Int}(h1:tdec 1 x.K d 1=(K1,d1,j))(hj:j≠2)(h2:ndec x.L d1=(L2,d2,l2))(h3:ndec x.D d2=(D3,d3,dd)):zrd x d=⟨⟨K1,x.P,x.c,L2,D3⟩,d3,false,(l2+2,dd+1,0)⟩:=by
 unfold zrd
 rw[h1]
 dsimp only
 rw[if_neg hj,h2]
 dsimp only
 rw[h3]
theorem lzread_any (l:List UInt8)(n:Nat)(h:SH)(hl:l.length≤1000000)(hn:n≤4096) :
  SRun Tryz.prog 49 [S l,I n] h fun r q=>r=.tuple #[S (lzR l n).1,B (lzR l n).2]∧q=h:=by
 obtain⟨R,hR⟩:∃R,R=lzR l n:=⟨_,rfl⟩
 rw[←hR]
 have hR:outR [] (rdP n n ms0 (dnew l) [])=R:=hR.symm
 have hd0:=dnew_ok (l:=l) (by omega)
 have hND:∀h,SRun Tryz.prog 81 [S l] h fun r q=>∃n,r=gptr n 0 5∧q=decB n (dnew l)::h:=fun h=>NewDecoder_any l h (by omega)
 have hNS:∀h,SRun Tryz.prog 39 [] h fun r q=>∃a:Mad,r=.agg ⟨setC a⟩∧q=msB a ms0 h:=newSet_any
 have hm0:=ms0_ok
 generalize ms0=x0 at hR hm0 hNS
 generalize dnew l=d0 at hR hd0 hND
 refine zY Tryz.func49 rfl rfl ?_
 repeat'(first|apply zF|apply zB|apply zE|(apply o_g zC;exact rfl;exact rfl)|(apply yE zC;(iterate 4 exact rfl);(focus exact⟨rfl⟩);(focus exact up))|(apply yG zC;iterate 5 exact rfl)|(apply zD;exact rfl;exact rfl;(focus first|exact rfl);exact rfl;(focus exact⟨_,hNS _,by repeat with_reducible exact Take.nil⟩);rintro _ _ ⟨a,rfl,rfl⟩)|(apply zD;exact rfl;exact rfl;(focus first|exact rfl);exact rfl;(focus exact⟨_,hND _,by repeat with_reducible exact Take.nil⟩);rintro _ _ ⟨nd,rfl,rfl⟩)|apply zA|apply zH|((with_reducible apply Sd.mk);first|exact True.intro)|((with_reducible apply Ln.mk);first|rfl)|((with_reducible apply Pu.mk);first|exact yA rfl)|exact True.intro|intro A)
 obtain⟨s,rfl⟩:∃s,s=A:=⟨_,rfl⟩
 refine zZ (S:=Nat × Ms × Dec × List UInt8 × Value × SH) (fun y=>[(1,I n),(6,gptr s 0 4),(7,gptr nd 0 5),(8,y.2.2.2.2.1)]) (fun y=>y.2.2.2.2.2)
  (fun y=>n-y.2.2.2.1.length≤y.1∧MsOk y.2.1∧DecOk y.2.2.1∧y.2.2.2.1.length≤n∧OR a s nd y.2.1 y.2.2.1 h y.2.2.2.1 y.2.2.2.2.1 y.2.2.2.2.2∧outR y.2.2.2.1 (rdP n y.1 y.2.1 y.2.2.1 y.2.2.2.1)=R) (fun y=>y.1)
  (n,x0,d0,[],.slice none 0 0,decB nd d0::msB a x0 ((s,⟨setC a,false⟩)::h)) ⟨Nat.sub_le _ _,hm0,hd0,Nat.zero_le _,.nil,hR⟩ (by repeat'(first|exact trivial|refine⟨rfl,?_⟩|refine⟨congrArg some ?_,?_⟩)) (by repeat with_reducible first|exact Take.nil|apply Take.c|apply Take.drop) ?_
 rintro⟨f,x,d,o,w,p⟩ ⟨hf,hx,hd,ho,hb,he⟩
 dsimp only at hf hx hd ho hb he ⊢
 by_cases hlt:o.length<n
 ·obtain⟨f',rfl,e⟩:=rdP_go (x:=x) (d:=d) hlt hf
  rw[e]at he
  clear e
  have hrs:=rstp_ok hx hd
  have hK:=fun h=>kDecW a nd x d h hx hd
  obtain⟨h1,h2,h3⟩:=tdec_ok (k:=1) (t:=x.K) (j:=1) hd
  obtain⟨⟨K1,d1,j⟩,hT⟩:∃T,tdec 1 x.K d 1=T:=⟨_,rfl⟩
  rw[hT]at hK h1 h2 h3
  dsimp only at hK h1 h2 h3
  have h2':=h2.trans hx.K
  by_cases hj:j=2
  ·subst hj
   have hB:=fun h=>bDecW a nd { x with K:=K1 } d1 h ⟨h2',hx.P,hx.c,hx.L,hx.D⟩ h1
   obtain⟨⟨P2,d2,c2⟩,hV⟩:∃V,bdec x.P x.c d1=V:=⟨_,rfl⟩
   dsimp only at hB
   rw[hV]at hB
   dsimp only at hB
   rw[rstp_lit hT hV]at he hrs
   dsimp only at he hrs
   rw[if_pos (.inl rfl),outR_map,estp_lit o rfl]at he
   have hc2:=(hrs.2.2.1 rfl).2.2
   dsimp only at hc2 he
   cases hb with
   |nil =>
    repeat'(first|apply zF|apply zB|apply zE|(apply o_g zC;exact rfl;exact rfl)|(apply zM zC;(iterate 3 exact rfl);(focus exact pk))|(apply zT zC;(iterate 5 exact rfl);(focus decide);exact rfl;(focus decide);(focus repeat(first|exact CatR.nil|(apply CatR.one;exact rfl;exact rfl)));exact rfl)|(apply o_append_nil zC;(iterate 5 exact rfl);(focus exact⟨by decide⟩);(focus exact pk))|(apply zD;exact rfl;exact rfl;(focus first|exact rfl);exact rfl;(focus exact⟨_,hK _,by repeat with_reducible exact Take.nil⟩);rintro _ _ ⟨rfl,rfl⟩)|(apply zD;exact rfl;exact rfl;(focus first|exact rfl);exact rfl;(focus exact⟨_,hB _,by repeat with_reducible exact Take.nil⟩);rintro _ _ ⟨rfl,rfl⟩)|(apply yB;exact rfl)|(apply yC;exact rfl;(focus first|omega))|apply zA|apply zK|apply zJ|apply zI|apply zV|apply zH|((with_reducible apply Sd.mk);first|exact True.intro|(constructor <;> first|omega|(unfold maxLen;omega)))|((with_reducible apply Ln.mk);first|rfl)|((with_reducible apply Ce.mk);first|rfl)|((with_reducible apply Su.mk);first|exact zQ)|exact True.intro|intro A|exact rfl)
    all_goals first
     |(exfalso;omega)
     |skip
    all_goals (rw[show Y c2=byteV (byt c2)from byteV_byt hc2];exact⟨(f',⟨K1,P2,c2,x.L,x.D⟩,d2,[byt c2],gsl A 0 1 1 1,decB nd d2::msB a ⟨K1,P2,c2,x.L,x.D⟩ ((A,⟨bytesV [byt c2],false⟩)::(s,⟨setC a,false⟩)::h)),⟨by show n-1≤f';simp only[List.length_nil]at hf;omega,hrs.1,hrs.2.1,by show 1≤n;omega,  .some A [byt c2],he⟩,by show f'<f'+1;omega,(by repeat'(first|exact trivial|refine⟨rfl,?_⟩|refine⟨congrArg some ?_,?_⟩)),(by repeat with_reducible first|exact Take.nil|apply Take.c|apply Take.drop)⟩)
   |some A0 o =>
    repeat'(first|apply zF|apply zB|apply zE|(apply o_g zC;exact rfl;exact rfl)|(apply zM zC;(iterate 3 exact rfl);(focus exact pk))|(apply zT zC;(iterate 5 exact rfl);(focus decide);exact rfl;(focus decide);(focus repeat(first|exact CatR.nil|(apply CatR.one;exact rfl;exact rfl)));exact rfl)|(apply o_append zC;(iterate 5 exact rfl);(focus exact⟨by decide⟩);(focus exact up);(focus exact pk))|(apply zD;exact rfl;exact rfl;(focus first|exact rfl);exact rfl;(focus exact⟨_,hK _,by repeat with_reducible exact Take.nil⟩);rintro _ _ ⟨rfl,rfl⟩)|(apply zD;exact rfl;exact rfl;(focus first|exact rfl);exact rfl;(focus exact⟨_,hB _,by repeat with_reducible exact Take.nil⟩);rintro _ _ ⟨rfl,rfl⟩)|(apply yB;exact rfl)|(apply yC;exact rfl;(focus first|omega))|apply zA|apply zK|apply zJ|apply zI|apply zV|apply zH|((with_reducible apply Sd.mk);first|exact True.intro|(constructor <;> first|omega|(unfold maxLen;omega)))|((with_reducible apply Ln.mk);first|rfl|omega|(simp ;first|done|omega))|((with_reducible apply Ce.mk);first|rfl)|((with_reducible apply Su.mk);first|exact zQ)|exact True.intro|intro A|exact rfl)
    all_goals first
     |(exfalso;omega)
     |skip
    all_goals
     (rw[show Y c2=byteV (byt c2)from byteV_byt hc2]
      exact⟨(f',⟨K1,P2,c2,x.L,x.D⟩,d2,o++[byt c2],gsl A0 0 (o++[byt c2]).length (o++[byt c2]).length 1,decB nd d2::msB a ⟨K1,P2,c2,x.L,x.D⟩ ((A0,⟨bytesV (o++[byt c2]),false⟩)::(s,⟨setC a,false⟩)::h)),⟨by show n-(o++[byt c2]).length≤f';rw[List.length_append,List.length_singleton];omega,hrs.1,hrs.2.1,by show(o++[byt c2]).length≤n;rw[List.length_append,List.length_singleton];omega,.some A0 (o++[byt c2]),he⟩,by show f'<f'+1;omega,
        ⟨rfl,rfl,rfl,congrArg some (gslE rfl rfl (by simp) (by simp) rfl),trivial⟩,(by repeat(first|with_reducible exact Take.nil|with_reducible apply Take.c|((with_reducible apply Take.cE);first|exact rfl|(apply blkE;(focus first|exact rfl|exact yI rfl|exact yO rfl|exact congrArg (fun v=>[v]) (gslE rfl rfl (by first|rfl|exact ‹_›|omega|(simp ;first|done|omega)) (by first|rfl|exact ‹_›|omega|(simp ;first|done|omega)) rfl))))|with_reducible apply Take.drop))⟩)
  ·have hx1:MsOk { x with K:=K1 }:=⟨h2',hx.P,hx.c,hx.L,hx.D⟩
   have hL:=fun h=>lDecW a nd { x with K:=K1 } d1 h hx1 h1
   obtain⟨⟨L2,d2,l2⟩,hV⟩:∃V,ndec x.L d1=V:=⟨_,rfl⟩
   have okL:=ndec_ok (t:=x.L) h1 hx.L
   dsimp only at hL
   rw[hV]at hL okL
   dsimp only at hL okL
   have hD:=fun h=>dDecW a nd { x with K:=K1,L:=L2 } d2 h ⟨h2',hx.P,hx.c,okL.2,hx.D⟩ okL.1
   obtain⟨⟨D3,d3,dd⟩,hW⟩:∃V,ndec x.D d2=V:=⟨_,rfl⟩
   dsimp only at hD
   rw[hW]at hD
   dsimp only at hD
   rw[rstp_cpy hT hj hV hW]at he hrs
   dsimp only at he hrs
   have hj3:(j:Int)-2≠0:=by omega
   cases hb with
   |nil =>
    rw[if_neg (by rintro(g|g);cases g;unfold okC at g;simp only[List.length_nil]at g;omega)]at he
    repeat'(first|apply zF|apply zB|apply zE|(apply yH;(focus kernel_rfl);(focus kernel_rfl))|(apply o_g zC;exact rfl;exact rfl)|(apply o_ar zC;exact rfl;exact rfl)|(apply zM zC;(iterate 3 exact rfl);(focus exact pk))|(apply zD;exact rfl;exact rfl;(focus first|exact rfl);exact rfl;(focus exact⟨_,hK _,by repeat with_reducible exact Take.nil⟩);rintro _ _ ⟨rfl,rfl⟩)|(apply o_callE0;(iterate 4 exact rfl);(focus exact⟨hL _,by repeat with_reducible exact Take.nil⟩);(focus first|exact List.Perm.refl _);(focus(intro ρ D hρ hD;refine⟨?_,?_⟩;(focus repeat(first|exact VR.const rfl));(focus repeat(first|((apply SHR.same);(focus intro x hx;(repeat(first|exact hx|apply List.mem_cons_of_mem));done))|((apply SHR.keep);(focus(repeat(first|with_reducible exact List.mem_cons_self|apply List.mem_cons_of_mem));done))|(apply SHR.cons;(focus first|((apply rho_pick hρ);(exact pk)));(focus repeat(first|exact VR.const rfl|exact VRs.nil|((apply VRs.const);(focus first|exact map_const (fun _=>rfl)))|apply VRs.cons))))))))|(apply o_callE0;(iterate 4 exact rfl);(focus exact⟨hD _,by repeat with_reducible exact Take.nil⟩);(focus first|exact List.Perm.refl _);(focus(intro ρ D hρ hD;refine⟨?_,?_⟩;(focus repeat(first|exact VR.const rfl));(focus repeat(first|((apply SHR.same);(focus intro x hx;(repeat(first|exact hx|apply List.mem_cons_of_mem));done))|((apply SHR.keep);(focus(repeat(first|with_reducible exact List.mem_cons_self|apply List.mem_cons_of_mem));done))|(apply SHR.cons;(focus first|((apply rho_pick hρ);(exact pk)));(focus repeat(first|exact VR.const rfl|exact VRs.nil|((apply VRs.const);(focus first|exact map_const (fun _=>rfl)))|apply VRs.cons))))))))|(apply zU;exact rfl;exact rfl)|(apply yF;iterate 4 exact rfl)|(apply o_guardF;(iterate 3 exact rfl);all_goals intro hc)|(apply yB;exact rfl)|(apply yC;exact rfl;(focus first|omega))|(apply yD;exact rfl;(focus first|omega))|apply zA|apply zP|apply yP|apply zI|apply zN|apply zH|((with_reducible apply Sd.mk);first|exact True.intro)|((with_reducible apply Ln.mk);first|rfl)|((with_reducible apply Wr.mk);first|exact IntWalk.i64_in _ (by omega))|((with_reducible apply Ce.mk);first|rfl)|exact True.intro|refine Rc.mk ⟨_,_,pk,?_⟩|exact Or.inl rfl|refine Or.inr (And.intro ?_ ?_)|apply And.intro|exact rfl)
    all_goals first
     |(exfalso;omega)
     |(apply zL;(exact(show ResS _ _ _ _ [_,_] from⟨rfl,⟨rfl,trivial⟩⟩));(focus exact⟨by rw[←he];rfl,rfl⟩);(focus repeat with_reducible first|exact Take.nil|apply Take.c|apply Take.drop))
   |some A0 o =>
    repeat'(first|apply zF|apply zB|apply zE|(apply yH;(focus kernel_rfl);(focus kernel_rfl))|(apply o_g zC;exact rfl;exact rfl)|(apply o_ar zC;exact rfl;exact rfl)|(apply zM zC;(iterate 3 exact rfl);(focus exact pk))|(apply zD;exact rfl;exact rfl;(focus first|exact rfl);exact rfl;(focus exact⟨_,hK _,by repeat with_reducible exact Take.nil⟩);rintro _ _ ⟨rfl,rfl⟩)|(apply o_callE0;(iterate 4 exact rfl);(focus exact⟨hL _,by repeat with_reducible exact Take.nil⟩);(focus first|exact List.Perm.refl _);(focus(intro ρ D hρ hD;refine⟨?_,?_⟩;(focus repeat(first|exact VR.const rfl));(focus repeat(first|((apply SHR.same);(focus intro x hx;(repeat(first|exact hx|apply List.mem_cons_of_mem));done))|((apply SHR.keep);(focus(repeat(first|with_reducible exact List.mem_cons_self|apply List.mem_cons_of_mem));done))|(apply SHR.cons;(focus first|((apply rho_pick hρ);(exact pk)));(focus repeat(first|exact VR.const rfl|exact VRs.nil|((apply VRs.const);(focus first|exact map_const (fun _=>rfl)))|apply VRs.cons))))))))|(apply o_callE0;(iterate 4 exact rfl);(focus exact⟨hD _,by repeat with_reducible exact Take.nil⟩);(focus first|exact List.Perm.refl _);(focus(intro ρ D hρ hD;refine⟨?_,?_⟩;(focus repeat(first|exact VR.const rfl));(focus repeat(first|((apply SHR.same);(focus intro x hx;(repeat(first|exact hx|apply List.mem_cons_of_mem));done))|((apply SHR.keep);(focus(repeat(first|with_reducible exact List.mem_cons_self|apply List.mem_cons_of_mem));done))|(apply SHR.cons;(focus first|((apply rho_pick hρ);(exact pk)));(focus repeat(first|exact VR.const rfl|exact VRs.nil|((apply VRs.const);(focus first|exact map_const (fun _=>rfl)))|apply VRs.cons))))))))|(apply zU;exact rfl;exact rfl)|(apply yF;iterate 4 exact rfl)|(apply o_guardF;(iterate 3 exact rfl);all_goals intro hc)|(apply yB;exact rfl)|(apply yC;exact rfl;(focus first|omega))|(apply yD;exact rfl;(focus first|omega))|(apply w_if;exact rfl;all_goals intro hc)|apply zA|apply zP|apply yP|apply zI|apply zN|apply zH|((with_reducible apply Sd.mk);first|exact True.intro)|((with_reducible apply Ln.mk);first|rfl)|((with_reducible apply Wr.mk);first|exact IntWalk.i64_in _ (by omega))|((with_reducible apply Ce.mk);first|rfl)|exact True.intro|refine Rc.mk ⟨_,_,pk,?_⟩|exact Or.inl rfl|refine Or.inr (And.intro ?_ ?_)|apply And.intro|exact rfl)
    all_goals first
     |(exfalso;omega)
     |(rw[if_neg (by rintro(g|g);cases g;unfold okC at g;dsimp only at g;omega)]at he;(apply zL;(exact(show ResS _ _ _ _ [_,_] from⟨rfl,⟨rfl,trivial⟩⟩));(focus exact⟨by rw[←he];rfl,rfl⟩);(focus repeat with_reducible first|exact Take.nil|apply Take.c|apply Take.drop)))
     |skip
    have hg:2≤l2+2∧l2+2≤273∧l2+2+o.length≤n∧1≤dd+1∧dd+1≤o.length:=by omega
    rw[if_pos (.inr hg),outR_map,estp_cpy o (by show dd+1≠0;omega)]at he
    dsimp only at he
    obtain⟨N,hN⟩:∃N,N=(l2+2).toNat:=⟨_,rfl⟩
    obtain⟨D,hDD⟩:∃D,D=(dd+1).toNat:=⟨_,rfl⟩
    rw[←hN,←hDD]at he
    refine zZ (S:=Nat × List UInt8) (fun y=>[(1,I n),(6,gptr s 0 4),(7,gptr nd 0 5),(8,gsl A0 0 y.2.length y.2.length 1),(10,I dd),(64,I (l2+2)),(65,I y.1)])
     (fun y=>decB nd d3::msB a ⟨K1,x.P,x.c,L2,D3⟩ ((A0,⟨bytesV y.2,false⟩)::(s,⟨setC a,false⟩)::h))
     (fun y=>y.1≤N∧y.2.length=o.length+y.1∧copyN D (N-y.1) y.2=copyN D N o) (fun y=>N-y.1) (0,o) ⟨Nat.zero_le _,rfl,rfl⟩ (by repeat'(first|exact trivial|refine⟨rfl,?_⟩|refine⟨congrArg some ?_,?_⟩)) (by repeat with_reducible first|exact Take.nil|apply Take.c|apply Take.drop) ?_
    rintro⟨k,o2⟩ ⟨hk,hol,hcp⟩
    dsimp only at hk hol hcp ⊢
    by_cases hkN:k<N
    ·rw[show N-k=(N-(k+1))+1 by omega,copyN]at hcp
     have hbt:Value.int .u8 (bat o2 ((o2.length:Int)-dd-1))=byteV o2[o2.length-D]!:=by
      show _=Value.int .u8 _
      congr 1
      unfold bat
      rw[show((o2.length:Int)-dd-1).toNat=o2.length-D by omega,List.getD_eq_getElem?_getD,getElem!_pos o2 _ (by omega),List.getElem?_eq_getElem (by omega)];rfl
     repeat'(first|apply zF|apply zB|apply zE|(apply o_g zC;exact rfl;exact rfl)|(apply o_ar zC;exact rfl;exact rfl)|(apply zM zC;(iterate 3 exact rfl);(focus exact pk))|(apply zT zC;(iterate 5 exact rfl);(focus decide);exact rfl;(focus decide);(focus repeat(first|exact CatR.nil|(apply CatR.one;exact rfl;exact rfl)));exact rfl)|(apply o_append zC;(iterate 5 exact rfl);(focus exact⟨by decide⟩);(focus exact up);(focus exact pk))|(apply yC;exact rfl;(focus first|omega))|apply zA|apply zG|apply zI|apply zH|((with_reducible apply Sd.mk);first|exact True.intro|omega|(constructor <;> first|omega|(unfold maxLen;omega)))|((with_reducible apply Ln.mk);first|rfl|omega|(simp ;first|done|omega))|((with_reducible apply Wr.mk);first|exact IntWalk.i64_in _ (by omega))|((with_reducible apply Ce.mk);first|exact cell_bytes (by omega))|((with_reducible apply Su.mk);first|exact zQ)|exact True.intro|intro A|exact rfl)
     all_goals first
      |(exfalso;omega)
      |skip
     rw[hbt]
     exact⟨(k+1,o2++[o2[o2.length-D]!]),⟨hkN,by show(o2++[_]).length=_;rw[List.length_append,List.length_singleton];omega,hcp⟩,by show N-(k+1)<N-k;omega,⟨rfl,rfl,rfl,congrArg some (gslE rfl rfl (by simp) (by simp) rfl),by repeat'(first|exact trivial|refine⟨rfl,?_⟩)⟩,(by repeat(first|with_reducible exact Take.nil|with_reducible apply Take.c|((with_reducible apply Take.cE);first|exact rfl|(apply blkE;(focus first|exact rfl|exact yI rfl|exact yO rfl|exact congrArg (fun v=>[v]) (gslE rfl rfl (by first|rfl|exact ‹_›|omega|(simp ;first|done|omega)) (by first|rfl|exact ‹_›|omega|(simp ;first|done|omega)) rfl))))|with_reducible apply Take.drop))⟩
    ·obtain rfl:k=N:=by omega
     rw[Nat.sub_self,copyN]at hcp
     rw[←hcp]at he
     repeat'(first|apply zF|apply zB|apply zE|(apply o_g zC;exact rfl;exact rfl)|(apply yD;exact rfl;(focus first|omega))|apply zA|apply zK|apply zG|apply zJ|apply zV|((with_reducible apply Sd.mk);first|exact True.intro))
     all_goals first
      |(exfalso;omega)
      |skip
     exact⟨(f',⟨K1,x.P,x.c,L2,D3⟩,d3,o2,gsl A0 0 o2.length o2.length 1,decB nd d3::msB a ⟨K1,x.P,x.c,L2,D3⟩ ((A0,⟨bytesV o2,false⟩)::(s,⟨setC a,false⟩)::h)),⟨by show n-o2.length≤f';omega,hrs.1,hrs.2.1,by show o2.length≤n;omega,.some A0 o2,he⟩,by show f'<f'+1;omega,(by repeat'(first|exact trivial|refine⟨rfl,?_⟩|refine⟨congrArg some ?_,?_⟩)),(by repeat with_reducible first|exact Take.nil|apply Take.c|apply Take.drop)⟩
 ·rw[rdP_end hlt]at he
  have he:(o,true)=R:=he
  cases hb with
  |nil =>
   rw[List.length_nil]at hlt
   repeat'(first|apply zF|apply zB|apply zE|(apply o_g zC;exact rfl;exact rfl)|(apply o_toString_nil zC;iterate 7 exact rfl)|(apply yD;exact rfl;(focus first|omega))|apply zA|apply zK|apply zJ|apply zN|apply zV|((with_reducible apply Sd.mk);first|exact True.intro))
   all_goals first
    |(exfalso;omega)
    |(apply zL;(exact(show ResS _ _ _ _ [_,_] from⟨rfl,⟨rfl,trivial⟩⟩));(focus exact⟨by subst he;rfl,rfl⟩);(focus repeat with_reducible first|exact Take.nil|apply Take.c|apply Take.drop))
  |some A0 o =>
   repeat'(first|apply zF|apply zB|apply zE|(apply o_g zC;exact rfl;exact rfl)|(apply o_toString zC;(iterate 6 exact rfl);(focus exact pk))|(apply yD;exact rfl;(focus first|omega))|apply zA|apply zK|apply zJ|apply zN|apply zV|((with_reducible apply Sd.mk);first|exact True.intro)|((with_reducible apply Ln.mk);first|rfl|(simp ;first|done|omega))|((with_reducible apply Su.mk);first|exact zQ)|exact True.intro|exact rfl)
   all_goals first
    |(exfalso;omega)
    |(apply zL;(exact(show ResS _ _ _ _ [_,_] from⟨rfl,⟨rfl,trivial⟩⟩));(focus exact⟨by subst he;rfl,rfl⟩);(focus repeat with_reducible first|exact Take.nil|apply Take.c|apply Take.drop))

def lzD (D:List UInt8)(most:Int):List UInt8 × Int :=
 if(rdN D 4096).2.2≠0 then([],12)else if most<(rdN D 4096).1 then([],2)
 else if(lzR (rdN D 4096).2.1 (rdN D 4096).1.toNat).2=false then([],12)
 else if lzE (lzR (rdN D 4096).2.1 (rdN D 4096).1.toNat).1=(D,0)then((lzR (rdN D 4096).2.1 (rdN D 4096).1.toNat).1,0)else([],12)
theorem copyN_le {n:Nat}{o:List UInt8}{t:Pc}(h:okC n o t):(estp o t).length≤n:=by
 unfold okC at h
 rw[estp_cpy o (by omega),copyN_len];omega
theorem rdP_len {n:Nat}:∀{f:Nat} {x:Ms} {d:Dec} {o:List UInt8} {r:List Pc × Dec},MsOk x→DecOk d→o.length≤n→n-o.length≤f→rdP n f x d o=some r→(exps r.1 o).length=n
 |0,x,d,o,r,_,_,ho,hf,h=>by
  obtain rfl:=Option.some.inj h
  show o.length=n;omega
 |f+1,x,d,o,r,hx,hd,ho,hf,h=>by
  by_cases hlt:o.length<n
  ·rw[show rdP n (f+1) x d o=_ from if_pos hlt]at h
   obtain⟨h1,h2,h3,h4⟩:=rstp_ok hx hd
   split at h
   ·rename_i hg
    obtain⟨⟨ps,d'⟩,e1,rfl⟩:=Option.map_eq_some_iff.1 h
    have hel:o.length+1≤(estp o (zrd x d).t).length∧(estp o (zrd x d).t).length≤n:=by
     cases hl:(zrd x d).lit with
     |true =>
      have:=h3 hl
      rw[estp_lit o this.2.1,List.length_append,List.length_singleton];omega
     |false =>
      rw[hl]at hg
      rcases hg with hg|hg
      ·cases hg
      ·refine⟨?_,copyN_le hg⟩
       unfold okC at hg
       rw[estp_cpy o (by omega),copyN_len];omega
    exact rdP_len (r:=(ps,d')) h1 h2 hel.2 (by omega) e1
   ·cases h
  ·rw[rdP_end hlt]at h
   obtain rfl:=Option.some.inj h
   show o.length=n;omega
theorem lzR_len {l:List UInt8}{n:Nat}(hl:l.length≤1000000)(h:(lzR l n).2=true):(lzR l n).1.length=n:=by
 unfold lzR at h ⊢
 cases e:rdP n n ms0 (dnew l) []with
 |none=>rw[e]at h;cases h
 |some r=>exact rdP_len ms0_ok (dnew_ok hl) (Nat.zero_le _) (Nat.sub_le _ _) e
theorem Decode_any' (l:List UInt8)(most:Int)(h:SH)(hl:l.length≤1000000):SRun Tryz.prog 20 [S l,I most] h fun r q=>r=.tuple #[S (lzD l most).1,Er (lzD l most).2]∧q=h:=by
 have hR:=fun n h=>rNumber_any n l 4096 h hl
 have hok:=rdN_ok l 4096
 obtain⟨x,hx⟩:∃x,lzD l most=x:=⟨_,rfl⟩
 rw[hx]
 unfold lzD at hx
 generalize rdN l 4096=V at *
 obtain⟨k,d,e⟩:=V
 dsimp only at *
 have hT:=fun n h=>rTake_any n d (d.length:Int) h (by omega) (by omega)
 rw[show((d.length:Int)).toNat=d.length from rfl,List.take_length,List.drop_length]at hT
 by_cases he:e=0
 case neg =>
  rw[if_pos he]at hx
  refine zY Tryz.func20 rfl rfl ?_
  repeat'(first|apply zF|apply zB|apply zE|(apply o_g zC;exact rfl;exact rfl)|(apply zD;exact rfl;exact rfl;(focus first|exact rfl);exact rfl;(focus exact⟨_,yN _ _,by repeat with_reducible exact Take.nil⟩);rintro _ _ ⟨n,rfl,rfl⟩)|(apply zD;exact rfl;exact rfl;(focus first|exact rfl);exact rfl;(focus exact⟨_,hR _ _,by repeat with_reducible exact Take.nil⟩);rintro _ _ ⟨rfl,rfl⟩)|(apply zD;exact rfl;exact rfl;(focus first|exact rfl);exact rfl;(focus exact⟨_,rErr_any _ _ _ _,by repeat with_reducible exact Take.nil⟩);rintro _ _ ⟨rfl,rfl⟩)|(apply yC;exact rfl;(focus first|omega))|apply zA|apply zP|apply zN|((with_reducible apply Sd.mk);first|exact True.intro))
  all_goals first
   |contradiction
   |(apply zL;(exact(show ResS _ _ _ _ [_,_] from⟨rfl,⟨rfl,trivial⟩⟩));(focus exact⟨by subst hx;rfl,rfl⟩);(focus repeat with_reducible first|exact Take.nil|apply Take.c|apply Take.drop))
 subst he
 rw[if_neg (by decide)]at hx
 have hk:=hok.2 rfl
 by_cases h1:most<k
 case pos =>
  rw[if_pos h1]at hx
  refine zY Tryz.func20 rfl rfl ?_
  repeat'(first|apply zF|apply zB|apply zE|(apply o_g zC;exact rfl;exact rfl)|(apply zD;exact rfl;exact rfl;(focus first|exact rfl);exact rfl;(focus exact⟨_,yN _ _,by repeat with_reducible exact Take.nil⟩);rintro _ _ ⟨n,rfl,rfl⟩)|(apply zD;exact rfl;exact rfl;(focus first|exact rfl);exact rfl;(focus exact⟨_,hR _ _,by repeat with_reducible exact Take.nil⟩);rintro _ _ ⟨rfl,rfl⟩)|(apply zD;exact rfl;exact rfl;(focus first|exact rfl);exact rfl;(focus exact⟨_,rErr_any _ _ _ _,by repeat with_reducible exact Take.nil⟩);rintro _ _ ⟨rfl,rfl⟩)|(apply zS;exact rfl)|(apply yC;exact rfl;(focus first|omega))|apply zA|apply zP|apply zI|apply zN|((with_reducible apply Sd.mk);first|exact True.intro))
  all_goals first
   |contradiction
   |(apply zL;(exact(show ResS _ _ _ _ [_,_] from⟨rfl,⟨rfl,trivial⟩⟩));(focus exact⟨by subst hx;rfl,rfl⟩);(focus repeat with_reducible first|exact Take.nil|apply Take.c|apply Take.drop))
 rw[if_neg h1]at hx
 obtain⟨m,rfl⟩:=Int.eq_ofNat_of_zero_le hk.1
 rw[Int.toNat_natCast]at hx
 have hRd:=fun h=>lzread_any d m h (by omega) (by omega)
 have hlen:=lzR_len (l:=d) (n:=m) (by omega)
 obtain⟨⟨s,b⟩,hs⟩:∃R,lzR d m=R:=⟨_,rfl⟩
 rw[hs]at hRd hx hlen
 dsimp only at hRd hx hlen
 cases b with
 |false =>
  rw[if_pos rfl]at hx
  refine zY Tryz.func20 rfl rfl ?_
  repeat'(first|apply zF|apply zB|apply zE|(apply o_g zC;exact rfl;exact rfl)|(apply yR;exact rfl;exact rfl)|(apply zD;exact rfl;exact rfl;(focus first|exact rfl);exact rfl;(focus exact⟨_,yN _ _,by repeat with_reducible exact Take.nil⟩);rintro _ _ ⟨n,rfl,rfl⟩)|(apply zD;exact rfl;exact rfl;(focus first|exact rfl);exact rfl;(focus exact⟨_,hR _ _,by repeat with_reducible exact Take.nil⟩);rintro _ _ ⟨rfl,rfl⟩)|(apply zD;exact rfl;exact rfl;(focus first|exact rfl);exact rfl;(focus exact⟨_,rErr_any _ _ _ _,by repeat with_reducible exact Take.nil⟩);rintro _ _ ⟨rfl,rfl⟩)|(apply zD;exact rfl;exact rfl;(focus first|exact rfl);exact rfl;(focus exact⟨_,rLeft_any _ _ _ _,by repeat with_reducible exact Take.nil⟩);rintro _ _ ⟨rfl,rfl⟩)|(apply zD;exact rfl;exact rfl;(focus first|exact rfl);exact rfl;(focus exact⟨_,hT _ _,by repeat with_reducible exact Take.nil⟩);rintro _ _ ⟨rfl,rfl⟩)|(apply zD;exact rfl;exact rfl;(focus first|exact rfl);exact rfl;(focus exact⟨_,hRd _,by repeat with_reducible exact Take.nil⟩);rintro _ _ ⟨rfl,rfl⟩)|(apply yB;exact rfl)|(apply zS;exact rfl)|(apply yD;exact rfl;(focus first|omega))|apply zA|apply zP|apply zI|apply zN|((with_reducible apply Sd.mk);first|exact True.intro))
  all_goals first
   |contradiction
   |(apply zL;(exact(show ResS _ _ _ _ [_,_] from⟨rfl,⟨rfl,trivial⟩⟩));(focus exact⟨by subst hx;rfl,rfl⟩);(focus repeat with_reducible first|exact Take.nil|apply Take.c|apply Take.drop))
 |true =>
  rw[if_neg (by decide)]at hx
  have hlen:=hlen rfl
  have hE:=fun h=>Encode_any' s h (by omega)
  obtain⟨⟨t,g⟩,ht⟩:∃R,lzE s=R:=⟨_,rfl⟩
  rw[ht]at hE hx
  dsimp only at hE hx
  refine zY Tryz.func20 rfl rfl ?_
  repeat'(first|apply zF|apply zB|apply zE|(apply o_g zC;exact rfl;exact rfl)|(apply yR;exact rfl;exact rfl)|(apply zD;exact rfl;exact rfl;(focus first|exact rfl);exact rfl;(focus exact⟨_,yN _ _,by repeat with_reducible exact Take.nil⟩);rintro _ _ ⟨n,rfl,rfl⟩)|(apply zD;exact rfl;exact rfl;(focus first|exact rfl);exact rfl;(focus exact⟨_,hR _ _,by repeat with_reducible exact Take.nil⟩);rintro _ _ ⟨rfl,rfl⟩)|(apply zD;exact rfl;exact rfl;(focus first|exact rfl);exact rfl;(focus exact⟨_,rErr_any _ _ _ _,by repeat with_reducible exact Take.nil⟩);rintro _ _ ⟨rfl,rfl⟩)|(apply zD;exact rfl;exact rfl;(focus first|exact rfl);exact rfl;(focus exact⟨_,rLeft_any _ _ _ _,by repeat with_reducible exact Take.nil⟩);rintro _ _ ⟨rfl,rfl⟩)|(apply zD;exact rfl;exact rfl;(focus first|exact rfl);exact rfl;(focus exact⟨_,hT _ _,by repeat with_reducible exact Take.nil⟩);rintro _ _ ⟨rfl,rfl⟩)|(apply zD;exact rfl;exact rfl;(focus first|exact rfl);exact rfl;(focus exact⟨_,hRd _,by repeat with_reducible exact Take.nil⟩);rintro _ _ ⟨rfl,rfl⟩)|(apply zD;exact rfl;exact rfl;(focus first|exact rfl);exact rfl;(focus exact⟨_,hE _,by repeat with_reducible exact Take.nil⟩);rintro _ _ ⟨rfl,rfl⟩)|(apply zU;exact rfl;exact rfl)|(apply yF;iterate 4 exact rfl)|(apply o_guardFN;(iterate 3 exact rfl);all_goals intro hc)|(apply yB;exact rfl)|(apply zS;exact rfl)|(apply yD;exact rfl;(focus first|omega))|(apply w_ifN;exact rfl;all_goals intro hc)|apply zA|apply zP|apply zI|apply zN|((with_reducible apply Sd.mk);first|exact True.intro))
  all_goals first
   |contradiction
   |(rw[if_pos (by rw[show t=l by assumption,show g=0 by assumption])]at hx;(apply zL;(exact(show ResS _ _ _ _ [_,_] from⟨rfl,⟨rfl,trivial⟩⟩));(focus exact⟨by subst hx;rfl,rfl⟩);(focus repeat with_reducible first|exact Take.nil|apply Take.c|apply Take.drop)))
   |(rw[if_neg (fun e=>absurd (congrArg Prod.snd e) (by assumption))]at hx;(apply zL;(exact(show ResS _ _ _ _ [_,_] from⟨rfl,⟨rfl,trivial⟩⟩));(focus exact⟨by subst hx;rfl,rfl⟩);(focus repeat with_reducible first|exact Take.nil|apply Take.c|apply Take.drop)))
   |(rw[if_neg (fun e=>absurd (congrArg Prod.fst e) (by assumption))]at hx;(apply zL;(exact(show ResS _ _ _ _ [_,_] from⟨rfl,⟨rfl,trivial⟩⟩));(focus exact⟨by subst hx;rfl,rfl⟩);(focus repeat with_reducible first|exact Take.nil|apply Take.c|apply Take.drop)))

def hd2 (k:Int):List UInt8:=[b8 165,b8 k]
theorem hd2_len (k:Int):(hd2 k).length=2:=rfl
theorem hd2_sub {k:Int}(hk:0≤k∧k≤255):SubAt [Y 165,Y k] 0 (bytesV (hd2 k)):=by
 have e:bytesV (hd2 k)=[Y 165,Y k]:=by
  unfold hd2
  rw[show ∀a b:UInt8,[a,b]=[a]++[b] from fun _ _=>rfl,bytesV_app,bytesV_one (by omega),bytesV_one (by omega)]
  rfl
 rw[e];exact zQ
def frm (k:Int)(b:List UInt8):List UInt8:=hd2 k++(vnum b.length++b)
def sl (t:List UInt8):List UInt8:=t++le4 (crcV t)
abbrev frV (k:Int)(c:List UInt8):Value:=.agg ⟨[I k,S c]⟩
def wrp (k:Int)(c:List UInt8):List UInt8 × Int :=
 if k<0∨15<k then([],2)else if 4096<c.length then([],9)else(if(lzE c).1.length<c.length then sl (frm (k+16) (lzE c).1)else sl (frm k c),0)
theorem Wrap_any (k:Int)(c:List UInt8)(h:SH)(hl:c.length≤9223372036854775807):SRun Tryz.prog 26 [frV k c] h fun r q=>r=.tuple #[S (wrp k c).1,I (wrp k c).2]∧q=h:=by
 unfold wrp
 by_cases hk:k<0∨15<k
 ·rw[if_pos hk]
  rcases hk with hk|hk
  all_goals
   refine zR Tryz.func26 rfl rfl ?_
   repeat'(first|apply zF|apply zB|apply zE|(apply o_g zC;exact rfl;exact rfl)|(apply zM zC;(iterate 3 exact rfl);(focus exact pk))|(apply o_box (tt:=tyT);iterate 5 exact rfl)|(apply zU;exact rfl;exact rfl)|(apply yF;iterate 4 exact rfl)|(apply o_gF;(iterate 3 exact rfl);(focus first|omega))|(apply o_sT;(iterate 3 exact rfl);(focus first|omega);exact rfl)|(apply yB;exact rfl)|(apply yC;exact rfl;(focus first|omega))|apply zA|apply zP|apply zN|((with_reducible apply Sd.mk);first|exact True.intro)|((with_reducible apply Ln.mk);first|rfl)|((with_reducible apply Ce.mk);first|rfl)|exact True.intro|intro A|exact rfl)
   all_goals first
    |(exfalso;omega)
    |(apply zL;(exact(show ResS _ _ _ _ [_,_] from⟨rfl,⟨rfl,trivial⟩⟩));(focus exact⟨rfl,rfl⟩);(focus repeat with_reducible first|exact Take.nil|apply Take.c|apply Take.drop))
 rw[if_neg hk]
 have hE:=fun h=>Encode_any' c h hl
 by_cases h4:4096<c.length
 ·rw[if_pos h4]
  rw[show lzE c=([],9)from if_pos h4]at hE
  refine zR Tryz.func26 rfl rfl ?_
  repeat'(first|apply zF|apply zB|apply zE|(apply o_g zC;exact rfl;exact rfl)|(apply zM zC;(iterate 3 exact rfl);(focus exact pk))|(apply o_box (tt:=tyT);iterate 5 exact rfl)|(apply zD;exact rfl;exact rfl;(focus first|exact rfl);exact rfl;(focus exact⟨_,hE _,by repeat with_reducible exact Take.nil⟩);rintro _ _ ⟨rfl,rfl⟩)|(apply zU;exact rfl;exact rfl)|(apply o_gF;(iterate 3 exact rfl);(focus first|omega))|(apply yB;exact rfl)|(apply yD;exact rfl;(focus first|omega))|apply zA|apply zP|apply zI|apply zN|((with_reducible apply Sd.mk);first|exact True.intro)|((with_reducible apply Ln.mk);first|rfl)|((with_reducible apply Ce.mk);first|rfl)|exact True.intro|intro A|exact rfl)
  all_goals first
   |(exfalso;omega)
   |contradiction
   |(apply zL;(exact(show ResS _ _ _ _ [_,_] from⟨rfl,⟨rfl,trivial⟩⟩));(focus exact⟨rfl,rfl⟩);(focus repeat with_reducible first|exact Take.nil|apply Take.c|apply Take.drop))
 rw[if_neg h4]
 obtain⟨z,hz⟩:∃z,lzE c=(z,0):=⟨_,if_neg h4⟩
 rw[hz]at hE ⊢
 dsimp only at hE ⊢
 by_cases hs:z.length<c.length
 ·rw[if_pos hs]
  have hT:=fun h=>vText_any z h (by omega)
  have hs1:=vnum_len (n:=(z.length:Int)) (by omega)
  have hs2:=(vk_ok (n:=(z.length:Int)) (by omega)).2
  have hS:=fun h=>Seal_any (hd2 (k+16)++(vnum (z.length:Int)++z)) h (by rw[List.length_append,List.length_append,hd2_len];omega)
  have hsl:sl (frm (k+16) z)=hd2 (k+16)++(vnum (z.length:Int)++z)++le4 (crcV (hd2 (k+16)++(vnum (z.length:Int)++z))):=rfl
  rw[hsl]
  have hsub:=hd2_sub (k:=k+16) (by omega)
  generalize le4 (crcV (hd2 (k+16)++(vnum (z.length:Int)++z)))=L at *
  generalize vnum (z.length:Int)=V at *
  refine zR Tryz.func26 rfl rfl ?_
  repeat'(first|apply zF|apply zB|apply zE|(apply yH;(focus kernel_rfl);(focus kernel_rfl))|(apply o_g zC;exact rfl;exact rfl)|(apply o_ar zC;exact rfl;exact rfl)|(apply zM zC;(iterate 3 exact rfl);(focus exact pk))|(apply o_box (tt:=tyT);iterate 5 exact rfl)|(apply zT zC;(iterate 5 exact rfl);(focus decide);exact rfl;(focus decide);(focus repeat(first|exact CatR.nil|(apply CatR.one;exact rfl;exact rfl)));exact rfl)|(apply o_toString zC;(iterate 6 exact rfl);(focus exact pk))|(apply zD;exact rfl;exact rfl;(focus first|exact rfl);exact rfl;(focus exact⟨_,hE _,by repeat with_reducible exact Take.nil⟩);rintro _ _ ⟨rfl,rfl⟩)|(apply yS;(iterate 4 exact rfl);(focus exact⟨_,hT (lockS h),by repeat(first|with_reducible exact Take.nil|with_reducible apply yL|with_reducible apply Take.drop)⟩);(focus exact fun _ _ h=>h.1);(focus(repeat(first|exact Flat.c rfl))))|(apply yS;(iterate 4 exact rfl);(focus exact⟨_,hS (lockS h),by repeat(first|with_reducible exact Take.nil|with_reducible apply yL|with_reducible apply Take.drop)⟩);(focus exact fun _ _ h=>h.1);(focus(repeat(first|exact Flat.c rfl))))|(apply zU;exact rfl;exact rfl)|(apply o_gF;(iterate 3 exact rfl);(focus first|omega))|(apply zS;exact rfl)|(apply yC;exact rfl;(focus first|omega))|(apply yD;exact rfl;(focus first|omega))|apply zA|apply zI|apply zN|((with_reducible apply Sd.mk);first|exact True.intro|(rw[List.length_append,hd2_len];omega))|((with_reducible apply Ln.mk);first|rfl)|((with_reducible apply Wr.mk);first|exact IntWalk.i64_in _ (by omega)|exact IntWalk.u8_in _ (by omega))|((with_reducible apply Ce.mk);first|rfl)|((with_reducible apply Su.mk);first|exact hsub)|exact True.intro|exact Rd.mk ⟨_,hT (lockS h),by repeat(first|with_reducible exact Take.nil|with_reducible apply yL|with_reducible apply Take.drop)⟩|exact Or.inl rfl|apply And.intro|apply Or.inr|intro A|exact rfl)
  all_goals first
   |(exfalso;omega)
   |contradiction
   |(apply zL;(exact(show ResS _ _ _ _ [_,_] from⟨rfl,⟨rfl,trivial⟩⟩));(focus exact⟨rfl,rfl⟩);(focus repeat with_reducible first|exact Take.nil|apply Take.c|apply Take.drop))
 ·rw[if_neg hs]
  have hT:=fun h=>vText_any c h (by omega)
  have hs1:=vnum_len (n:=(c.length:Int)) (by omega)
  have hs2:=(vk_ok (n:=(c.length:Int)) (by omega)).2
  have hS:=fun h=>Seal_any (hd2 k++(vnum (c.length:Int)++c)) h (by rw[List.length_append,List.length_append,hd2_len];omega)
  have hsl:sl (frm k c)=hd2 k++(vnum (c.length:Int)++c)++le4 (crcV (hd2 k++(vnum (c.length:Int)++c))):=rfl
  rw[hsl]
  have hsub:=hd2_sub (k:=k) (by omega)
  generalize le4 (crcV (hd2 k++(vnum (c.length:Int)++c)))=L at *
  generalize vnum (c.length:Int)=V at *
  refine zR Tryz.func26 rfl rfl ?_
  repeat'(first|apply zF|apply zB|apply zE|(apply yH;(focus kernel_rfl);(focus kernel_rfl))|(apply o_g zC;exact rfl;exact rfl)|(apply o_ar zC;exact rfl;exact rfl)|(apply zM zC;(iterate 3 exact rfl);(focus exact pk))|(apply o_box (tt:=tyT);iterate 5 exact rfl)|(apply zT zC;(iterate 5 exact rfl);(focus decide);exact rfl;(focus decide);(focus repeat(first|exact CatR.nil|(apply CatR.one;exact rfl;exact rfl)));exact rfl)|(apply o_toString zC;(iterate 6 exact rfl);(focus exact pk))|(apply zD;exact rfl;exact rfl;(focus first|exact rfl);exact rfl;(focus exact⟨_,hE _,by repeat with_reducible exact Take.nil⟩);rintro _ _ ⟨rfl,rfl⟩)|(apply yS;(iterate 4 exact rfl);(focus exact⟨_,hT (lockS h),by repeat(first|with_reducible exact Take.nil|with_reducible apply yL|with_reducible apply Take.drop)⟩);(focus exact fun _ _ h=>h.1);(focus(repeat(first|exact Flat.c rfl))))|(apply yS;(iterate 4 exact rfl);(focus exact⟨_,hS (lockS h),by repeat(first|with_reducible exact Take.nil|with_reducible apply yL|with_reducible apply Take.drop)⟩);(focus exact fun _ _ h=>h.1);(focus(repeat(first|exact Flat.c rfl))))|(apply zU;exact rfl;exact rfl)|(apply o_gF;(iterate 3 exact rfl);(focus first|omega))|(apply zS;exact rfl)|(apply yD;exact rfl;(focus first|omega))|apply zA|apply zI|apply zN|((with_reducible apply Sd.mk);first|exact True.intro|(rw[List.length_append,hd2_len];omega))|((with_reducible apply Ln.mk);first|rfl)|((with_reducible apply Wr.mk);first|exact IntWalk.u8_in _ (by omega))|((with_reducible apply Ce.mk);first|rfl)|((with_reducible apply Su.mk);first|exact hsub)|exact True.intro|exact Rd.mk ⟨_,hT (lockS h),by repeat(first|with_reducible exact Take.nil|with_reducible apply yL|with_reducible apply Take.drop)⟩|exact Or.inl rfl|apply And.intro|apply Or.inr|intro A|exact rfl)
  all_goals first
   |(exfalso;omega)
   |contradiction
   |(apply zL;(exact(show ResS _ _ _ _ [_,_] from⟨rfl,⟨rfl,trivial⟩⟩));(focus exact⟨rfl,rfl⟩);(focus repeat with_reducible first|exact Take.nil|apply Take.c|apply Take.drop))

theorem lead_fin :∀f:Nat,f<256→(f<128→vlead (f:Int) 8 0=0∧vlow (f:Int) 0=f)∧(128≤f→f<192→vlead (f:Int) 8 0=1∧vlow (f:Int) 1=(f:Int)-128)∧(192≤f→2≤vlead (f:Int) 8 0):=by decide +kernel
theorem hd_fin :∀m:Nat,m<128→vhd 0 (m:Int)=m∧(m<64→vhd 1 (m:Int)=128+(m:Int)):=by decide +kernel
theorem vbnd0 :vbnd 0=0:=rfl
theorem vbnd1 :vbnd 1=128:=by decide
theorem vbnd2 :vbnd 2=16512:=by decide
theorem vk_lo {n:Int}(h:n<128):vk n=0:=by
 show(if vbnd 1≤n then vks n 7 1 else 0)=0
 rw[vbnd1,if_neg (by omega)]
theorem vk_hi {n:Int}(h:128≤n)(h2:n<16512):vk n=1:=by
 show(if vbnd 1≤n then(if vbnd 2≤n then vks n 6 2 else 1)else 0)=1
 rw[vbnd1,vbnd2,if_pos h,if_neg (by omega)]
theorem vnum_lo {n:Int}(h0:0≤n)(h:n<128):vnum n=[b8 n]:=by
 obtain⟨m,rfl⟩:=Int.eq_ofNat_of_zero_le h0
 unfold vnum
 rw[if_neg (by omega),vk_lo h,vbnd0,Int.sub_zero]
 show [b8 (vhd 0 (m:Int))]=_
 rw[(hd_fin m (by omega)).1]
theorem vnum_hi {n:Int}(h0:128≤n)(h:n<16512):vnum n=[b8 (128+(n-128)/256),b8 ((n-128)%256)]:=by
 unfold vnum
 rw[if_neg (by omega),vk_hi h0 h,vbnd1]
 show [b8 (vhd 1 ((n-128)/256)),b8 ((n-128)%256)]=_
 obtain⟨m,hm⟩:=Int.eq_ofNat_of_zero_le (show 0≤(n-128)/256 by omega)
 rw[hm,(hd_fin m (by omega)).2 (by omega)]
theorem bat_zero (x:UInt8)(r:List UInt8):bat (x::r) 0=x.toNat:=rfl
theorem vpeek_lo {x:UInt8}{r:List UInt8}(h:x.toNat<128):vpeek (x::r)=((x.toNat:Int),1,true):=by
 have hl:=(lead_fin x.toNat (by omega)).1 h
 unfold vpeek
 rw[if_neg (by simp),bat_zero,hl.1,if_neg (by simp),hl.2,vbnd0]
 rw[show vacc (x::r) 0 1 (x.toNat:Int)=x.toNat from rfl,if_neg (by omega),Int.add_zero]
 rfl
theorem vpeek_hi {x y:UInt8}{r:List UInt8}(h:128≤x.toNat)(h2:x.toNat<192):vpeek (x::y::r)=(((x.toNat:Int)-128)*256+y.toNat+128,2,true):=by
 have hl:=(lead_fin x.toNat (by omega)).2.1 h h2
 have hy:=y.toNat_lt
 unfold vpeek
 rw[if_neg (by simp),bat_zero,hl.1,if_neg (by simp),hl.2,vbnd1]
 rw[show vacc (x::y::r) 1 1 ((x.toNat:Int)-128)=((x.toNat:Int)-128)*256+y.toNat from rfl,if_neg (by omega)]
 rfl
theorem vpeek_num {n:Int}(h0:0≤n)(h:n≤4096)(r:List UInt8):vpeek (vnum n++r)=(n,((vnum n).length:Int),true):=by
 by_cases h1:n<128
 ·rw[vnum_lo h0 h1]
  have:=b8_val (n:=n) (by omega)
  show vpeek (b8 n::r)=_
  rw[vpeek_lo (by omega),this]
  rfl
 ·rw[vnum_hi (by omega) (by omega)]
  have e1:=b8_val (n:=128+(n-128)/256) (by omega)
  have e2:=b8_val (n:=(n-128)%256) (by omega)
  show vpeek (b8 (128+(n-128)/256)::b8 ((n-128)%256)::r)=_
  rw[vpeek_hi (by omega) (by omega),e1,e2]
  have:(128+(n-128)/256-128)*256+(n-128)%256+128=n:=by omega
  rw[this]
  rfl
theorem rdN_num {n:Int}(h0:0≤n)(h:n≤4096)(r:List UInt8):rdN (vnum n++r) 4096=(n,r,0):=by
 unfold rdN
 rw[vpeek_num h0 h]
 dsimp only
 rw[if_neg (by decide),if_neg (by omega),Int.toNat_natCast,List.drop_left]

theorem wst_in {n:Nat}{s:Ms × Enc}{t:Pc}(hok:EncOk n s.2)(hi:InB s.2):Within s.2 (wst s t).2∧InB (wst s t).2:=by
 unfold wst
 split
 ·have h1:=tenc_ok (v:=0) (k:=1) (t:=s.1.K) (j:=1) hok
  have g1:=tenc_in (v:=0) 1 (t:=s.1.K) (j:=1) hok hi
  have g2:=benc_in (P:=s.1.P) (c:=s.1.c) (v:=t.2.2) h1.1 g1.2
  exact⟨g1.1.trans g2.1,g2.2⟩
 ·have h1:=tenc_ok (v:=1) (k:=1) (t:=s.1.K) (j:=1) hok
  have h2:=nenc_ok (t:=s.1.L) h1.1 (t.1-2)
  have g1:=tenc_in (v:=1) 1 (t:=s.1.K) (j:=1) hok hi
  have g2:=nenc_in (t:=s.1.L) (v:=t.1-2) h1.1 g1.2
  have g3:=nenc_in (t:=s.1.D) (v:=t.2.1-1) h2.1 g2.2
  exact⟨(g1.1.trans g2.1).trans g3.1,g3.2⟩
theorem wrun_in (l:List Pc):∀{n:Nat} {s:Ms × Enc},MsOk s.1→EncOk n s.2→InB s.2→(∀t∈l,vPb t)→Within s.2 (wrun l s).2∧InB (wrun l s).2:=by
 induction l with
 |nil=>intro n s _ _ hi _;exact⟨.refl _,hi⟩
 |cons t r ih =>
  intro n s hx hok hi ht
  have h1:=wst_ok hx hok (ht t (by simp))
  have g1:=wst_in (t:=t) hok hi
  have g2:=ih h1.1 h1.2 g1.2 (fun u hu=>ht u (by simp[hu]))
  rw[wrun_cons]
  exact⟨g1.1.trans g2.1,g2.2⟩
theorem wst_read {D:List UInt8}{f:Enc}{n:Nat}{s:Ms × Enc}{d:Dec}{t:Pc}(hf:Beh D f)(sy:Syn D s.2 d)(hok:EncOk n s.2)(hi:InB s.2)(ht:vPb t)(w:Within (wst s t).2 f) :
  Syn D (wst s t).2 (zrd s.1 d).d∧(zrd s.1 d).x=(wst s t).1∧(zrd s.1 d).t=t∧((zrd s.1 d).lit=true↔t.2.1=0)∧(zrd s.1 d).d.full=d.full:=by
 obtain⟨hv,hy⟩:=ht
 obtain⟨a,b,y⟩:=t
 dsimp only at hv hy
 unfold wst at w ⊢
 dsimp only at w ⊢
 by_cases h0:b=0
 ·have ha:a=1:=by rcases hv with g|g <;> (dsimp only at g;omega)
  subst h0 ha
  rw[if_pos rfl]at w ⊢
  dsimp only at w ⊢
  have h1:=tenc_ok (v:=0) (k:=1) (t:=s.1.K) (j:=1) hok
  have g1:=tenc_in (v:=0) 1 (t:=s.1.K) (j:=1) hok hi
  have g2:=benc_in (P:=s.1.P) (c:=s.1.c) (v:=y) h1.1 g1.2
  obtain⟨k1,k2,k3⟩:=tenc_read (v:=0) hf 1 (t:=s.1.K) (j:=1) sy hok hi (g2.1.trans w)
  obtain⟨m1,m2,m3⟩:=benc_read hf k1 h1.1 g1.2 (P:=s.1.P) (c:=s.1.c) (v:=y) w
  have hj:(tdec 1 s.1.K d 1).2.2=2:=by
   have e:(2:Int)^1*((1:Nat):Int)+0%2^1=2:=by decide
   rw[e]at k3;omega
  have hfu:=tdec_full 1 (t:=s.1.K) (d:=d) (j:=1)
  have hfu2:=bdec_full (P:=s.1.P) (c:=s.1.c) (d:=(tdec 1 s.1.K d 1).2.1)
  have hyy:y%256=y:=by omega
  unfold zrd
  rw[if_pos hj]
  dsimp only
  rw[m2,m3,k2,hyy]
  exact⟨m1,rfl,rfl,⟨fun _=>rfl,fun _=>rfl⟩,hfu2.trans hfu⟩
 ·have hg:1≤b∧b≤4096∧2≤a∧a≤273∧y=0:=by rcases hv with g|g <;> (dsimp only at g;omega)
  rw[if_neg h0]at w ⊢
  dsimp only at w ⊢
  have h1:=tenc_ok (v:=1) (k:=1) (t:=s.1.K) (j:=1) hok
  have h2:=nenc_ok (t:=s.1.L) h1.1 (a-2)
  have g1:=tenc_in (v:=1) 1 (t:=s.1.K) (j:=1) hok hi
  have g2:=nenc_in (t:=s.1.L) (v:=a-2) h1.1 g1.2
  have g3:=nenc_in (t:=s.1.D) (v:=b-1) h2.1 g2.2
  obtain⟨k1,k2,k3⟩:=tenc_read (v:=1) hf 1 (t:=s.1.K) (j:=1) sy hok hi ((g2.1.trans g3.1).trans w)
  obtain⟨m1,m2,m3⟩:=nenc_read hf k1 h1.1 g1.2 (t:=s.1.L) (v:=a-2) (g3.1.trans w)
  obtain⟨p1,p2,p3⟩:=nenc_read hf m1 h2.1 g2.2 (t:=s.1.D) (v:=b-1) w
  have hj:¬(tdec 1 s.1.K d 1).2.2=2:=by
   have e:(2:Int)^1*((1:Nat):Int)+1%2^1=3:=by decide
   rw[e]at k3;omega
  have hfu:=tdec_full 1 (t:=s.1.K) (d:=d) (j:=1)
  have hfu2:=ndec_full (t:=s.1.L) (d:=(tdec 1 s.1.K d 1).2.1)
  have hfu3:=ndec_full (t:=s.1.D) (d:=(ndec s.1.L (tdec 1 s.1.K d 1).2.1).2.1)
  rw[show ncut (a-2)=a-2 from if_neg (by omega)]at m3
  rw[show ncut (b-1)=b-1 from if_neg (by omega)]at p3
  unfold zrd
  rw[if_neg hj]
  dsimp only
  rw[p2,p3,m2,m3,k2,Int.sub_add_cancel,Int.sub_add_cancel,hg.2.2.2.2]
  exact⟨p1,rfl,rfl,⟨fun g=>(by cases g),fun g=>absurd g h0⟩,(hfu3.trans hfu2).trans hfu⟩
def Fit (n:Nat):List UInt8→List Pc→Prop
 |o,[]=>o.length=n
 |o,t::r=>o.length<n∧(t.2.1=0∨okC n o t)∧Fit n (estp o t) r
theorem rdP_read {D:List UInt8}{f:Enc}{n:Nat}(hf:Beh D f)(ps:List Pc):∀{m k:Nat} {s:Ms × Enc} {d:Dec} {o:List UInt8},MsOk s.1→EncOk m s.2→InB s.2→Syn D s.2 d→Fit n o ps→(∀t∈ps,vPb t)→Within (wrun ps s).2 f→n-o.length≤k →
  ∃d',rdP n k s.1 d o=some (ps,d')∧Syn D (wrun ps s).2 d'∧d'.full=d.full:=by
 induction ps with
 |nil=>intro m k s d o _ _ _ sy hfit _ _ _;exact⟨d,rdP_end (by have:o.length=n:=hfit;omega),sy,rfl⟩
 |cons t r ih =>
  intro m k s d o hx hok hi sy hfit ht w hk
  obtain⟨f1,f2,f3⟩:=hfit
  have h1:=wst_ok hx hok (ht t (by simp))
  have g1:=wst_in (t:=t) hok hi
  have htr:∀u∈r,vPb u:=fun u hu=>ht u (by simp[hu])
  have g2:=wrun_in r h1.1 h1.2 g1.2 htr
  rw[wrun_cons]at w ⊢
  obtain⟨q1,q2,q3,q4,q5⟩:=wst_read hf sy hok hi (ht t (by simp)) (g2.1.trans w)
  obtain⟨k',rfl,e⟩:=rdP_go (x:=s.1) (d:=d) f1 hk
  have hlen:o.length+1≤(estp o t).length:=by
   have hv:=(ht t (by simp)).1
   have:=estp_len (o:=o) hv
   rcases hv with g|g <;> omega
  obtain⟨d',e1,e2,e3⟩:=ih (k:=k') (o:=estp o t) h1.1 h1.2 g1.2 q1 f3 htr w (by omega)
  rw[e,q3,q2,e1,if_pos (f2.imp q4.2 id)]
  exact⟨d',rfl,e2,e3.trans q5⟩
theorem cov_fit {l:List UInt8}{w:Int}(hw:w≤4096):∀{ps:List Pc} {i:Nat},i≤l.length→Cov l w i ps→Fit l.length (l.take i) ps∧exps ps (l.take i)=l
 |[],i,_,h=>by
  obtain rfl:i=l.length:=h
  rw[List.take_length];exact⟨rfl,rfl⟩
 |t::r,i,hi,h=>by
  have hl:(l.take i).length=i:=by rw[List.length_take];omega
  have hf:=h.1.fits hw
  have hest:estp (l.take i) t=l.take (i+t.1.toNat)∧(t.2.1=0∨okC l.length (l.take i) t):=by
   rcases h.1 with⟨hil,rfl⟩|⟨n,d,rfl,h1,h2,h3,h4,h5,h6,h7⟩
   ·refine⟨?_,.inl (litP_at l i)⟩
    unfold estp
    rw[if_pos (litP_at l i)]
    show l.take i++[byt (bat l i)]=l.take (i+1)
    rw[byt_bat hil,List.take_append_getElem hil]
   ·refine⟨?_,.inr (by unfold okC;rw[hl];dsimp only;omega)⟩
    unfold estp
    rw[if_neg (by show ¬(d:Int)=0;omega)]
    show copyN (d:Int).toNat (n:Int).toNat _=l.take (i+(n:Int).toNat)
    rw[Int.toNat_natCast,Int.toNat_natCast]
    exact copyN_take h3 n i h5 h6 h7
  have hn:=cov_fit hw (ps:=r) (i:=i+t.1.toNat) (by omega) h.2
  refine⟨⟨by rw[hl];omega,hest.2,by rw[hest.1];exact hn.1⟩,?_⟩
  show exps r (estp (l.take i) t)=l
  rw[hest.1];exact hn.2
theorem rstp_miss {x:Ms}{d:Dec}(h:(zrd x d).d.missing=false):d.missing=false:=by
 unfold zrd at h
 split at h
 ·exact tdec_miss 1 (bdec_miss h)
 ·exact tdec_miss 1 (ndec_miss (ndec_miss h).1).1
theorem rstp_ext {x:Ms}{d:Dec}{c:UInt8}(h:(zrd x d).d.missing=false):zrd x (ext d c)=⟨(zrd x d).x,ext (zrd x d).d c,(zrd x d).lit,(zrd x d).t⟩:=by
 unfold zrd at h ⊢
 by_cases hj:(tdec 1 x.K d 1).2.2=2
 ·rw[if_pos hj]at h ⊢
  have h1:=tdec_ext (c:=c) 1 (t:=x.K) (j:=1) (bdec_miss h)
  have h2:=bdec_ext (x:=c) h
  rw[h1]
  dsimp only
  rw[if_pos hj,h2]
 ·rw[if_neg hj]at h ⊢
  have h1:=tdec_ext (c:=c) 1 (t:=x.K) (j:=1) (ndec_miss (ndec_miss h).1).1
  have h2:=ndec_ext (x:=c) (ndec_miss h).1
  have h3:=ndec_ext (x:=c) h
  rw[h1]
  dsimp only
  rw[if_neg hj,h2]
  dsimp only
  rw[h3]
theorem rdP_miss {n:Nat}:∀{f:Nat} {x:Ms} {d:Dec} {o:List UInt8} {r:List Pc × Dec},rdP n f x d o=some r→r.2.missing=false→d.missing=false
 |0,x,d,o,r,h,hm=>by obtain rfl:=Option.some.inj h;exact hm
 |f+1,x,d,o,r,h,hm=>by
  by_cases hlt:o.length<n
  ·rw[show rdP n (f+1) x d o=_ from if_pos hlt]at h
   split at h
   ·obtain⟨r',e1,rfl⟩:=Option.map_eq_some_iff.1 h
    exact rstp_miss (rdP_miss e1 hm)
   ·cases h
  ·rw[rdP_end hlt]at h
   obtain rfl:=Option.some.inj h;exact hm
theorem rdP_ext {n:Nat}{c:UInt8}:∀{f:Nat} {x:Ms} {d:Dec} {o:List UInt8} {r:List Pc × Dec},rdP n f x d o=some r→r.2.missing=false→rdP n f x (ext d c) o=some (r.1,ext r.2 c)
 |0,x,d,o,r,h,hm=>by obtain rfl:=Option.some.inj h;rfl
 |f+1,x,d,o,r,h,hm=>by
  by_cases hlt:o.length<n
  ·rw[show rdP n (f+1) x d o=_ from if_pos hlt]at h
   rw[show rdP n (f+1) x (ext d c) o=_ from if_pos hlt]
   split at h
   ·rename_i hg
    obtain⟨r',e1,rfl⟩:=Option.map_eq_some_iff.1 h
    have hm1:=rdP_miss e1 hm
    rw[rstp_ext hm1]
    dsimp only
    rw[if_pos hg,rdP_ext e1 hm]
    rfl
   ·cases h
  ·rw[rdP_end hlt]at h ⊢
   obtain rfl:=Option.some.inj h;rfl
theorem lzR_wrt {l:List UInt8}{w:Int}{ps:List Pc}(hw:w≤4096)(hc:Cov l w 0 ps):∃d',rdP l.length l.length ms0 (dnew (fin (wrun ps zs0).2)) []=some (ps,d')∧dend d'=0∧(∀c,rdP l.length l.length ms0 (dnew (fin (wrun ps zs0).2++[c])) []=some (ps,ext d' c))∧exps ps []=l:=by
 have hv:=cov_vPb hw hc
 have h1:=wrun_ok (s:=zs0) ms0_ok encZ_ok hv
 have h2:=wrun_in ps (s:=zs0) ms0_ok encZ_ok e00_InB hv
 have hfit:=cov_fit hw (Nat.zero_le _) hc
 rw[List.take_zero]at hfit
 obtain⟨d',e1,e2,e3⟩:=rdP_read (n:=l.length) (Beh.fin h1.2) ps (k:=l.length) (s:=zs0) (o:=[]) ms0_ok encZ_ok e00_InB (start_syn h1.2 h2.1) hfit.1 hv (.refl _) (Nat.sub_le _ _)
 have hend:=inv_end h1.2.low e2 (e3.trans (start_full h1.2 h2.1))
 obtain⟨k1,_⟩:=dend_zero hend
 refine⟨d',e1,hend,fun c=>?_,hfit.2⟩
 rw[dnew_ext (by rw[fin_len];omega)]
 exact rdP_ext e1 k1

theorem lzE_ne {l:List UInt8}(hl:l.length≤4096)(h0:l≠[]):lzE l=(wrt l.length (pcs l),0):=by unfold lzE;rw[if_neg (by omega),if_neg h0]
theorem lzD_wrt {l:List UInt8}{w:Int}{ps:List Pc}(hl:l.length≤4096)(hw:w≤4096)(hc:Cov l w 0 ps)(most:Int) :
  lzD (wrt l.length ps) most=(if most<l.length then([],2)else if lzE l=(wrt l.length ps,0)then(l,0)else([],12)) ∧
  ∀c,lzD (wrt l.length ps++[c]) most=(if most<l.length then([],2)else if lzE l=(wrt l.length ps++[c],0)then(l,0)else([],12)):=by
 obtain⟨d',e1,e2,e3,e4⟩:=lzR_wrt hw hc
 have k1:lzR (fin (wrun ps zs0).2) l.length=(l,true):=by unfold lzR;rw[e1];dsimp only;rw[e4]
 have k2:∀c,lzR (fin (wrun ps zs0).2++[c]) l.length=(l,true):=fun c=>by unfold lzR;rw[e3 c];dsimp only;rw[e4]
 have key:∀(R:List UInt8),lzR R l.length=(l,true)→lzD (vnum l.length++R) most=(if most<l.length then([],2)else if lzE l=(vnum l.length++R,0)then(l,0)else([],12)):=fun R hR=>by
  unfold lzD
  rw[rdN_num (by omega) (by omega)]
  dsimp only
  rw[Int.toNat_natCast,hR]
  dsimp only
  rw[if_neg (by decide)]
  by_cases h:most<(l.length:Int)
  ·rw[if_pos h,if_pos h]
  ·rw[if_neg h,if_neg h,if_neg (by decide)]
 refine⟨key _ k1,fun c=>?_⟩
 unfold wrt
 rw[List.append_assoc]
 exact key _ (k2 c)

def bdy (d b:List UInt8):Option (List UInt8):=if 16≤bat d 1 then(if(lzD b 4096).2=0 then some (lzD b 4096).1 else none)else some b
def prs (d:List UInt8):Option (Int × List UInt8 × Nat × Bool) :=
 if d.length<2∨bat d 0≠165∨32≤bat d 1 then none else
 match txt (d.drop 2)with
 |none=>none
 |some (b,r)=>if r.length<4 then none else if(opn (d.take (d.length-(r.length-4)))).2≠0 then none else
  match bdy d b with
  |none=>none
  |some c=>if wrp (bat d 1%16) c=(d.take (d.length-(r.length-4)),0)then some (bat d 1%16,c,d.length-(r.length-4),decide (16≤bat d 1))else none
def prV :Option (Int × List UInt8 × Nat × Bool)→Value
 |none=>.tuple ⟨[frV 0 [],I 0,B false,B false]⟩
 |some (k,c,n,s)=>.tuple ⟨[frV k c,I n,B s,B true]⟩
theorem txt_len {l b r:List UInt8}(h:txt l=some (b,r)):b.length≤4096∧r.length≤l.length:=by
 obtain⟨k1,k2⟩:=rdN_ok l 4096
 unfold txt at h
 split at h
 ·rename_i g
  have:=k2 g.1
  obtain⟨rfl,rfl⟩:=Prod.mk.inj (Option.some.inj h)
  rw[List.length_take,List.length_drop]
  exact⟨by omega,by omega⟩
 ·cases h
theorem lzD_le {b:List UInt8}(hb:b.length≤1000000)(m:Int):(lzD b m).1.length≤4096:=by
 have h1:=rdN_ok b 4096
 unfold lzD
 split
 ·exact Nat.zero_le _
 ·rename_i g0
  have h2:=h1.2 (Classical.byContradiction g0)
  split
  ·exact Nat.zero_le _
  ·split
   ·exact Nat.zero_le _
   ·rename_i g
    split
    ·have:=lzR_len (l:=(rdN b 4096).2.1) (n:=(rdN b 4096).1.toNat) (by omega) (by simpa using g)
     show(lzR _ _).1.length≤4096
     omega
    ·exact Nat.zero_le _
theorem none_any (h:SH):SRun Tryz.prog 61 [] h fun r q=>r=prV none∧q=h:=by
 refine w_body0 Tryz.func61 rfl rfl ?_
 repeat'(first|apply zF|apply zB|apply zE|(apply o_g zC;exact rfl;exact rfl)|(apply yE zC;(iterate 4 exact rfl);(focus exact⟨rfl⟩);(focus exact up))|(apply yG zC;iterate 5 exact rfl)|(apply yT zC;exact rfl;exact rfl;(focus first|with_reducible exact pl33);exact rfl;(focus repeat(first|exact BuildR.nil));exact rfl)|apply zA|apply zN|((with_reducible apply Sd.mk);first|exact True.intro)|((with_reducible apply Ln.mk);first|rfl)|((with_reducible apply Pu.mk);first|exact yA rfl)|exact True.intro|intro A)
 (apply zL;(exact(show ResS _ _ _ _ [_,_,_,_] from(res_cell zC rfl rfl rfl (by exact pk) (by first|rfl|exact ‹_›|omega|(simp ;first|done|omega)) (by first|rfl|exact ‹_›|omega|(simp ;first|done|omega)) ⟨rfl,⟨rfl,⟨rfl,trivial⟩⟩⟩)));(focus exact⟨rfl,rfl⟩);(focus repeat with_reducible first|exact Take.nil|apply Take.c|apply Take.drop))
set_option maxHeartbeats 4000000 in
theorem parse_any (d:List UInt8)(h:SH)(hl:d.length≤1000000):SRun Tryz.prog 28 [S d] h fun r q=>r=prV (prs d)∧q=h:=by
 obtain⟨R,hR⟩:∃R,prs d=R:=⟨_,rfl⟩
 rw[hR]
 unfold prs at hR
 have hn:∀h,SRun Tryz.prog 61 [] h fun r q=>r=.tuple ⟨[frV 0 [],I 0,B false,B false]⟩∧q=h:=none_any
 have hb0:=bat_255 d 0
 have hb1:=bat_255 d 1
 by_cases h1:d.length<2∨bat d 0≠165∨32≤bat d 1
 ·rw[if_pos h1]at hR
  subst hR
  by_cases g1:d.length<2
  ·refine zR Tryz.func28 rfl rfl ?_
   repeat'(first|apply zF|apply zB|apply zE|(apply o_g zC;exact rfl;exact rfl)|(apply yE zC;(iterate 4 exact rfl);(focus exact⟨rfl⟩);(focus exact up))|(apply yG zC;iterate 5 exact rfl)|(apply zD;exact rfl;exact rfl;(focus first|exact rfl);exact rfl;(focus exact⟨_,hn _,by repeat with_reducible exact Take.nil⟩);rintro _ _ ⟨rfl,rfl⟩)|(apply yF;iterate 4 exact rfl)|(apply o_sT;(iterate 3 exact rfl);(focus first|omega);exact rfl)|(apply yB;exact rfl)|apply zA|apply zP|apply zN|((with_reducible apply Sd.mk);first|exact True.intro)|((with_reducible apply Ln.mk);first|rfl)|((with_reducible apply Pu.mk);first|exact yA rfl)|exact True.intro|intro A)
   all_goals first
    |(exfalso;omega)
    |(apply zL;(exact(show ResS _ _ _ _ [_,_,_,_] from(res_cell zC rfl rfl rfl (by exact pk) (by first|rfl|exact ‹_›|omega|(simp ;first|done|omega)) (by first|rfl|exact ‹_›|omega|(simp ;first|done|omega)) ⟨rfl,⟨rfl,⟨rfl,trivial⟩⟩⟩)));(focus exact⟨rfl,rfl⟩);(focus repeat with_reducible first|exact Take.nil|apply Take.c|apply Take.drop))
  by_cases g2:bat d 0=165
  ·refine zR Tryz.func28 rfl rfl ?_
   repeat'(first|apply zF|apply zB|apply zE|(apply o_g zC;exact rfl;exact rfl)|(apply yE zC;(iterate 4 exact rfl);(focus exact⟨rfl⟩);(focus exact up))|(apply yG zC;iterate 5 exact rfl)|(apply zD;exact rfl;exact rfl;(focus first|exact rfl);exact rfl;(focus exact⟨_,hn _,by repeat with_reducible exact Take.nil⟩);rintro _ _ ⟨rfl,rfl⟩)|(apply zU;exact rfl;exact rfl)|(apply o_gF;(iterate 3 exact rfl);(focus first|omega))|(apply yC;exact rfl;(focus first|omega))|apply zA|apply zP|apply zN|((with_reducible apply Sd.mk);first|exact True.intro|omega)|((with_reducible apply Ln.mk);first|rfl)|((with_reducible apply Pu.mk);first|exact yA rfl)|exact True.intro|intro A)
   all_goals first
    |(exfalso;omega)
    |(apply zL;(exact(show ResS _ _ _ _ [_,_,_,_] from(res_cell zC rfl rfl rfl (by exact pk) (by first|rfl|exact ‹_›|omega|(simp ;first|done|omega)) (by first|rfl|exact ‹_›|omega|(simp ;first|done|omega)) ⟨rfl,⟨rfl,⟨rfl,trivial⟩⟩⟩)));(focus exact⟨rfl,rfl⟩);(focus repeat with_reducible first|exact Take.nil|apply Take.c|apply Take.drop))
  ·refine zR Tryz.func28 rfl rfl ?_
   repeat'(first|apply zF|apply zB|apply zE|(apply o_g zC;exact rfl;exact rfl)|(apply yE zC;(iterate 4 exact rfl);(focus exact⟨rfl⟩);(focus exact up))|(apply yG zC;iterate 5 exact rfl)|(apply zD;exact rfl;exact rfl;(focus first|exact rfl);exact rfl;(focus exact⟨_,hn _,by repeat with_reducible exact Take.nil⟩);rintro _ _ ⟨rfl,rfl⟩)|(apply zU;exact rfl;exact rfl)|(apply yF;iterate 4 exact rfl)|(apply o_gF;(iterate 3 exact rfl);(focus first|omega))|(apply o_sT;(iterate 3 exact rfl);(focus first|omega);exact rfl)|(apply yB;exact rfl)|apply zA|apply zP|apply zN|((with_reducible apply Sd.mk);first|exact True.intro|omega)|((with_reducible apply Ln.mk);first|rfl)|((with_reducible apply Pu.mk);first|exact yA rfl)|exact True.intro|intro A)
   all_goals first
    |(exfalso;omega)
    |(apply zL;(exact(show ResS _ _ _ _ [_,_,_,_] from(res_cell zC rfl rfl rfl (by exact pk) (by first|rfl|exact ‹_›|omega|(simp ;first|done|omega)) (by first|rfl|exact ‹_›|omega|(simp ;first|done|omega)) ⟨rfl,⟨rfl,⟨rfl,trivial⟩⟩⟩)));(focus exact⟨rfl,rfl⟩);(focus repeat with_reducible first|exact Take.nil|apply Take.c|apply Take.drop))
 rw[if_neg h1]at hR
 have hd2:(d.drop 2).length≤1000000:=by rw[List.length_drop];omega
 have hX:=fun n h=>rText_any n (d.drop 2) h hd2
 have hK:=fun n l e h hl=>rTakeG_any n l e 4 h hl
 obtain⟨T,hT⟩:∃T,txt (d.drop 2)=T:=⟨_,rfl⟩
 have htl:=fun b r (g:txt (d.drop 2)=some (b,r))=>txt_len g
 unfold txtR at hX
 rw[hT]at hR hX htl
 cases T with
 |none =>
  dsimp only at hR hX
  subst hR
  have hK2:∀n e h,e≠0→SRun Tryz.prog 50 [gptr n 0 2,I 4] (rdB n (d.drop 2) e::h) fun r q=>r=S []∧q=rdB n (d.drop 2) e::h:=fun n e h he=>by
   have:=hK n (d.drop 2) e h hd2
   rw[show tkR (d.drop 2) e 4=([],d.drop 2,e)from if_pos he]at this
   exact this
  refine zR Tryz.func28 rfl rfl ?_
  repeat'(first|apply zF|apply zB|apply zE|(apply o_g zC;exact rfl;exact rfl)|(apply yE zC;(iterate 4 exact rfl);(focus exact⟨rfl⟩);(focus exact up))|(apply yG zC;iterate 5 exact rfl)|(apply zD;exact rfl;exact rfl;(focus first|exact rfl);exact rfl;(focus exact⟨_,hn _,by repeat with_reducible exact Take.nil⟩);rintro _ _ ⟨rfl,rfl⟩)|(apply zD;exact rfl;exact rfl;(focus first|exact rfl);exact rfl;(focus exact⟨_,yN _ _,by repeat with_reducible exact Take.nil⟩);rintro _ _ ⟨n,rfl,rfl⟩)|(apply zD;exact rfl;exact rfl;(focus first|exact rfl);exact rfl;(focus exact⟨_,hX _ _,by repeat with_reducible first|exact Take.nil|apply Take.c⟩);rintro _ _ ⟨e,he,rfl,rfl⟩)|(apply zD;exact rfl;exact rfl;(focus first|exact rfl);exact rfl;(focus exact⟨_,hK2 _ _ _ he,by repeat with_reducible exact Take.nil⟩);rintro _ _ ⟨rfl,rfl⟩)|(apply zD;exact rfl;exact rfl;(focus first|exact rfl);exact rfl;(focus exact⟨_,rErr_any _ _ _ _,by repeat with_reducible exact Take.nil⟩);rintro _ _ ⟨rfl,rfl⟩)|(apply zU;exact rfl;exact rfl)|(apply o_gF;(iterate 3 exact rfl);(focus first|omega))|(apply yC;exact rfl;(focus first|exact ‹_›))|(apply yD;exact rfl;(focus first|omega))|apply zA|apply zP|apply zI|apply zN|((with_reducible apply Sd.mk);first|exact True.intro|omega)|((with_reducible apply Ln.mk);first|rfl)|((with_reducible apply Pu.mk);first|exact yA rfl)|exact True.intro|intro A)
  all_goals first
   |(exfalso;omega)
   |contradiction
   |(apply zL;(exact(show ResS _ _ _ _ [_,_,_,_] from(res_cell zC rfl rfl rfl (by exact pk) (by first|rfl|exact ‹_›|omega|(simp ;first|done|omega)) (by first|rfl|exact ‹_›|omega|(simp ;first|done|omega)) ⟨rfl,⟨rfl,⟨rfl,trivial⟩⟩⟩)));(focus exact⟨rfl,rfl⟩);(focus repeat with_reducible first|exact Take.nil|apply Take.c|apply Take.drop))
 |some T =>
  obtain⟨b,r⟩:=T
  dsimp only at hR hX
  obtain⟨hbl,hrl⟩:=htl b r rfl
  rw[List.length_drop]at hrl
  by_cases h4:r.length<4
  ·rw[if_pos h4]at hR
   subst hR
   have hK2:∀n h,SRun Tryz.prog 50 [gptr n 0 2,I 4] (rdB n r 0::h) fun r' q=>r'=S []∧q=rdB n r 12::h:=fun n h=>by
    have:=hK n r 0 h (by omega)
    rw[show tkR r 0 4=([],r,12)by unfold tkR;rw[if_neg (fun k=>k rfl),if_neg (by omega),if_pos (by omega)]]at this
    exact this
   refine zR Tryz.func28 rfl rfl ?_
   repeat'(first|apply zF|apply zB|apply zE|(apply o_g zC;exact rfl;exact rfl)|(apply yE zC;(iterate 4 exact rfl);(focus exact⟨rfl⟩);(focus exact up))|(apply yG zC;iterate 5 exact rfl)|(apply zD;exact rfl;exact rfl;(focus first|exact rfl);exact rfl;(focus exact⟨_,hn _,by repeat with_reducible exact Take.nil⟩);rintro _ _ ⟨rfl,rfl⟩)|(apply zD;exact rfl;exact rfl;(focus first|exact rfl);exact rfl;(focus exact⟨_,yN _ _,by repeat with_reducible exact Take.nil⟩);rintro _ _ ⟨n,rfl,rfl⟩)|(apply zD;exact rfl;exact rfl;(focus first|exact rfl);exact rfl;(focus exact⟨_,hX _ _,by repeat with_reducible first|exact Take.nil|apply Take.c⟩);rintro _ _ ⟨rfl,rfl⟩)|(apply zD;exact rfl;exact rfl;(focus first|exact rfl);exact rfl;(focus exact⟨_,hK2 _ _,by repeat with_reducible exact Take.nil⟩);rintro _ _ ⟨rfl,rfl⟩)|(apply zD;exact rfl;exact rfl;(focus first|exact rfl);exact rfl;(focus exact⟨_,rErr_any _ _ _ _,by repeat with_reducible exact Take.nil⟩);rintro _ _ ⟨rfl,rfl⟩)|(apply zU;exact rfl;exact rfl)|(apply o_gF;(iterate 3 exact rfl);(focus first|omega))|(apply yB;exact rfl)|(apply yD;exact rfl;(focus first|omega))|apply zA|apply zP|apply zI|apply zN|((with_reducible apply Sd.mk);first|exact True.intro|omega)|((with_reducible apply Ln.mk);first|rfl)|((with_reducible apply Pu.mk);first|exact yA rfl)|exact True.intro|intro A)
   all_goals first
    |(exfalso;omega)
    |contradiction
    |(apply zL;(exact(show ResS _ _ _ _ [_,_,_,_] from(res_cell zC rfl rfl rfl (by exact pk) (by first|rfl|exact ‹_›|omega|(simp ;first|done|omega)) (by first|rfl|exact ‹_›|omega|(simp ;first|done|omega)) ⟨rfl,⟨rfl,⟨rfl,trivial⟩⟩⟩)));(focus exact⟨rfl,rfl⟩);(focus repeat with_reducible first|exact Take.nil|apply Take.c|apply Take.drop))
  rw[if_neg h4]at hR
  have hK2:∀n h,SRun Tryz.prog 50 [gptr n 0 2,I 4] (rdB n r 0::h) fun r' q=>r'=S (r.take 4)∧q=rdB n (r.drop 4) 0::h:=fun n h=>by
   have:=hK n r 0 h (by omega)
   rw[show tkR r 0 4=(r.take 4,r.drop 4,0)by unfold tkR;rw[if_neg (fun k=>k rfl),if_neg (by omega),if_neg (by omega)];rfl]at this
   exact this
  have hr4:(r.drop 4).length=r.length-4:=List.length_drop ..
  have hN:((d.length:Int)-((r.drop 4).length:Int)).toNat=d.length-(r.length-4):=by omega
  have hNi:(d.length:Int)-((r.drop 4).length:Int)=((d.length-(r.length-4):Nat):Int):=by omega
  rw[←hN]at hR
  have hO:=fun h=>Open_any (d.take ((d.length:Int)-((r.drop 4).length:Int)).toNat) h (by rw[List.length_take];omega)
  generalize opn (d.take ((d.length:Int)-((r.drop 4).length:Int)).toNat)=O at *
  obtain⟨o1,o2⟩:=O
  dsimp only at hR hO
  by_cases ho:o2=0
  ·subst ho
   rw[if_neg (fun k=>k rfl)]at hR
   have hr16:(bat d 1).tmod 16=bat d 1%16:=Int.tmod_eq_emod_of_nonneg hb1.1
   unfold bdy at hR
   by_cases hs:16≤bat d 1
   ·rw[if_pos hs]at hR
    have hD:=fun h=>Decode_any' b 4096 h (by omega)
    have hle:=lzD_le (b:=b) (by omega) 4096
    obtain⟨⟨c,e⟩,hc⟩:∃V,lzD b 4096=V:=⟨_,rfl⟩
    rw[hc]at hR hD hle
    dsimp only at hR hD hle
    by_cases he:e=0
    ·subst he
     rw[if_pos rfl]at hR
     dsimp only at hR
     have hW:=fun h=>Wrap_any (bat d 1%16) c h (by omega)
     obtain⟨⟨w,e⟩,hw⟩:∃V,wrp (bat d 1%16) c=V:=⟨_,rfl⟩
     rw[hw]at hR hW
     dsimp only at hW
     by_cases hq:e=0∧w=d.take ((d.length:Int)-((r.drop 4).length:Int)).toNat
     ·obtain⟨rfl,hq⟩:=hq
      rw[if_pos (by rw[hq]),hN,decide_eq_true hs]at hR
      subst hR
      clear hw
      subst hq
      refine zR Tryz.func28 rfl rfl ?_
      repeat'(first|apply zF|apply zB|apply zE|(apply o_g zC;exact rfl;exact rfl)|(apply o_ar zC;exact rfl;exact rfl)|(apply o_ex;exact rfl;exact rfl)|(apply yQ zC;(iterate 3 exact rfl);(focus exact pk))|(apply zX zC;(iterate 4 exact rfl);(focus exact up))|(apply yE zC;(iterate 4 exact rfl);(focus exact⟨rfl⟩);(focus exact up))|(apply yG zC;iterate 5 exact rfl)|(apply yT zC;exact rfl;exact rfl;(focus first|with_reducible exact pl33);exact rfl;(focus repeat(first|exact BuildR.nil|(apply BuildR.one;exact rfl;exact rfl;(first|(focus(repeat(first|exact SetAt.zero|apply SetAt.succ));done)))));exact rfl)|(apply zD;exact rfl;exact rfl;(focus first|exact rfl);exact rfl;(focus exact⟨_,hn _,by repeat with_reducible exact Take.nil⟩);rintro _ _ ⟨rfl,rfl⟩)|(apply zD;exact rfl;exact rfl;(focus first|exact rfl);exact rfl;(focus exact⟨_,yN _ _,by repeat with_reducible exact Take.nil⟩);rintro _ _ ⟨n,rfl,rfl⟩)|(apply zD;exact rfl;exact rfl;(focus first|exact rfl);exact rfl;(focus exact⟨_,hX _ _,by repeat with_reducible first|exact Take.nil|apply Take.c⟩);rintro _ _ ⟨rfl,rfl⟩)|(apply zD;exact rfl;exact rfl;(focus first|exact rfl);exact rfl;(focus exact⟨_,hK2 _ _,by repeat with_reducible exact Take.nil⟩);rintro _ _ ⟨rfl,rfl⟩)|(apply zD;exact rfl;exact rfl;(focus first|exact rfl);exact rfl;(focus exact⟨_,rErr_any _ _ _ _,by repeat with_reducible exact Take.nil⟩);rintro _ _ ⟨rfl,rfl⟩)|(apply zD;exact rfl;exact rfl;(focus first|exact rfl);exact rfl;(focus exact⟨_,rLeft_any _ _ _ _,by repeat with_reducible exact Take.nil⟩);rintro _ _ ⟨rfl,rfl⟩)|(apply zD;exact rfl;exact rfl;(focus first|exact rfl);exact rfl;(focus exact⟨_,hO _,by repeat with_reducible exact Take.nil⟩);rintro _ _ ⟨rfl,rfl⟩)|(apply zD;exact rfl;exact rfl;(focus first|exact rfl);exact rfl;(focus exact⟨_,hD _,by repeat with_reducible exact Take.nil⟩);rintro _ _ ⟨rfl,rfl⟩)|(apply zD;exact rfl;exact rfl;(focus first|exact rfl);exact rfl;(focus exact⟨_,hW _,by repeat with_reducible exact Take.nil⟩);rintro _ _ ⟨rfl,rfl⟩)|(apply zU;exact rfl;exact rfl)|(apply o_gF;(iterate 3 exact rfl);(focus first|omega))|(apply zS;exact rfl)|(apply yC;exact rfl;(focus first|omega))|(apply yD;exact rfl;(focus first|omega))|(apply w_ifN;exact rfl;all_goals intro hc)|apply zA|apply zP|apply zI|apply zN|((with_reducible apply Sd.mk);first|exact True.intro|omega)|((with_reducible apply Ln.mk);first|rfl)|((with_reducible apply Wr.mk);first|exact IntWalk.i64_in _ (by omega))|((with_reducible apply Ex.mk);first|exact Int.tmod_eq_emod_of_nonneg (by omega))|((with_reducible apply Se.mk);first|(focus(repeat(first|exact SetAt.zero|apply SetAt.succ));done))|((with_reducible apply Pu.mk);first|exact yA rfl)|((with_reducible apply Su.mk);first|exact zQ)|exact True.intro|intro A|exact rfl)
      all_goals first
       |(exfalso;omega)
       |contradiction
       |(apply zL;(exact(show ResS _ _ _ _ [_,_,_,_] from(res_cell zC rfl rfl rfl (by exact pk) (by first|rfl|exact ‹_›|omega|(simp ;first|done|omega)) (by first|rfl|exact ‹_›|omega|(simp ;first|done|omega)) ⟨rfl,⟨rfl,⟨rfl,trivial⟩⟩⟩)));(focus exact⟨by rw[hNi,decide_eq_true hs];rfl,rfl⟩);(focus repeat with_reducible first|exact Take.nil|apply Take.c|apply Take.drop))
     ·rw[if_neg (fun k=>hq ⟨congrArg Prod.snd k,congrArg Prod.fst k⟩)]at hR
      subst hR
      refine zR Tryz.func28 rfl rfl ?_
      repeat'(first|apply zF|apply zB|apply zE|(apply o_g zC;exact rfl;exact rfl)|(apply o_ar zC;exact rfl;exact rfl)|(apply o_ex;exact rfl;exact rfl)|(apply yQ zC;(iterate 3 exact rfl);(focus exact pk))|(apply zX zC;(iterate 4 exact rfl);(focus exact up))|(apply yE zC;(iterate 4 exact rfl);(focus exact⟨rfl⟩);(focus exact up))|(apply yG zC;iterate 5 exact rfl)|(apply yT zC;exact rfl;exact rfl;(focus first|with_reducible exact pl33);exact rfl;(focus repeat(first|exact BuildR.nil|(apply BuildR.one;exact rfl;exact rfl;(first|(focus(repeat(first|exact SetAt.zero|apply SetAt.succ));done)))));exact rfl)|(apply zD;exact rfl;exact rfl;(focus first|exact rfl);exact rfl;(focus exact⟨_,hn _,by repeat with_reducible exact Take.nil⟩);rintro _ _ ⟨rfl,rfl⟩)|(apply zD;exact rfl;exact rfl;(focus first|exact rfl);exact rfl;(focus exact⟨_,yN _ _,by repeat with_reducible exact Take.nil⟩);rintro _ _ ⟨n,rfl,rfl⟩)|(apply zD;exact rfl;exact rfl;(focus first|exact rfl);exact rfl;(focus exact⟨_,hX _ _,by repeat with_reducible first|exact Take.nil|apply Take.c⟩);rintro _ _ ⟨rfl,rfl⟩)|(apply zD;exact rfl;exact rfl;(focus first|exact rfl);exact rfl;(focus exact⟨_,hK2 _ _,by repeat with_reducible exact Take.nil⟩);rintro _ _ ⟨rfl,rfl⟩)|(apply zD;exact rfl;exact rfl;(focus first|exact rfl);exact rfl;(focus exact⟨_,rErr_any _ _ _ _,by repeat with_reducible exact Take.nil⟩);rintro _ _ ⟨rfl,rfl⟩)|(apply zD;exact rfl;exact rfl;(focus first|exact rfl);exact rfl;(focus exact⟨_,rLeft_any _ _ _ _,by repeat with_reducible exact Take.nil⟩);rintro _ _ ⟨rfl,rfl⟩)|(apply zD;exact rfl;exact rfl;(focus first|exact rfl);exact rfl;(focus exact⟨_,hO _,by repeat with_reducible exact Take.nil⟩);rintro _ _ ⟨rfl,rfl⟩)|(apply zD;exact rfl;exact rfl;(focus first|exact rfl);exact rfl;(focus exact⟨_,hD _,by repeat with_reducible exact Take.nil⟩);rintro _ _ ⟨rfl,rfl⟩)|(apply zD;exact rfl;exact rfl;(focus first|exact rfl);exact rfl;(focus exact⟨_,hW _,by repeat with_reducible exact Take.nil⟩);rintro _ _ ⟨rfl,rfl⟩)|(apply zU;exact rfl;exact rfl)|(apply yF;iterate 4 exact rfl)|(apply o_gF;(iterate 3 exact rfl);(focus first|omega))|(apply o_guardFN;(iterate 3 exact rfl);all_goals intro hc)|(apply yB;exact rfl)|(apply zS;exact rfl)|(apply yC;exact rfl;(focus first|omega))|(apply yD;exact rfl;(focus first|omega))|(apply w_ifN;exact rfl;all_goals intro hc)|apply zA|apply zP|apply zI|apply zN|((with_reducible apply Sd.mk);first|exact True.intro|omega)|((with_reducible apply Ln.mk);first|rfl)|((with_reducible apply Wr.mk);first|exact IntWalk.i64_in _ (by omega))|((with_reducible apply Ex.mk);first|exact Int.tmod_eq_emod_of_nonneg (by omega))|((with_reducible apply Se.mk);first|(focus(repeat(first|exact SetAt.zero|apply SetAt.succ));done))|((with_reducible apply Pu.mk);first|exact yA rfl)|((with_reducible apply Su.mk);first|exact zQ)|exact True.intro|intro A|exact rfl)
      all_goals first
       |(exfalso;omega)
       |contradiction
       |(exfalso;exact hq ⟨by assumption,by assumption⟩)
       |(apply zL;(exact(show ResS _ _ _ _ [_,_,_,_] from(res_cell zC rfl rfl rfl (by exact pk) (by first|rfl|exact ‹_›|omega|(simp ;first|done|omega)) (by first|rfl|exact ‹_›|omega|(simp ;first|done|omega)) ⟨rfl,⟨rfl,⟨rfl,trivial⟩⟩⟩)));(focus exact⟨rfl,rfl⟩);(focus repeat with_reducible first|exact Take.nil|apply Take.c|apply Take.drop))
    ·rw[if_neg he]at hR
     dsimp only at hR
     subst hR
     refine zR Tryz.func28 rfl rfl ?_
     repeat'(first|apply zF|apply zB|apply zE|(apply o_g zC;exact rfl;exact rfl)|(apply o_ar zC;exact rfl;exact rfl)|(apply o_ex;exact rfl;exact rfl)|(apply yE zC;(iterate 4 exact rfl);(focus exact⟨rfl⟩);(focus exact up))|(apply yG zC;iterate 5 exact rfl)|(apply yT zC;exact rfl;exact rfl;(focus first|with_reducible exact pl33);exact rfl;(focus repeat(first|exact BuildR.nil|(apply BuildR.one;exact rfl;exact rfl;(first|(focus(repeat(first|exact SetAt.zero|apply SetAt.succ));done)))));exact rfl)|(apply zD;exact rfl;exact rfl;(focus first|exact rfl);exact rfl;(focus exact⟨_,hn _,by repeat with_reducible exact Take.nil⟩);rintro _ _ ⟨rfl,rfl⟩)|(apply zD;exact rfl;exact rfl;(focus first|exact rfl);exact rfl;(focus exact⟨_,yN _ _,by repeat with_reducible exact Take.nil⟩);rintro _ _ ⟨n,rfl,rfl⟩)|(apply zD;exact rfl;exact rfl;(focus first|exact rfl);exact rfl;(focus exact⟨_,hX _ _,by repeat with_reducible first|exact Take.nil|apply Take.c⟩);rintro _ _ ⟨rfl,rfl⟩)|(apply zD;exact rfl;exact rfl;(focus first|exact rfl);exact rfl;(focus exact⟨_,hK2 _ _,by repeat with_reducible exact Take.nil⟩);rintro _ _ ⟨rfl,rfl⟩)|(apply zD;exact rfl;exact rfl;(focus first|exact rfl);exact rfl;(focus exact⟨_,rErr_any _ _ _ _,by repeat with_reducible exact Take.nil⟩);rintro _ _ ⟨rfl,rfl⟩)|(apply zD;exact rfl;exact rfl;(focus first|exact rfl);exact rfl;(focus exact⟨_,rLeft_any _ _ _ _,by repeat with_reducible exact Take.nil⟩);rintro _ _ ⟨rfl,rfl⟩)|(apply zD;exact rfl;exact rfl;(focus first|exact rfl);exact rfl;(focus exact⟨_,hO _,by repeat with_reducible exact Take.nil⟩);rintro _ _ ⟨rfl,rfl⟩)|(apply zD;exact rfl;exact rfl;(focus first|exact rfl);exact rfl;(focus exact⟨_,hD _,by repeat with_reducible exact Take.nil⟩);rintro _ _ ⟨rfl,rfl⟩)|(apply zU;exact rfl;exact rfl)|(apply o_gF;(iterate 3 exact rfl);(focus first|omega))|(apply zS;exact rfl)|(apply yC;exact rfl;(focus first|omega))|(apply yD;exact rfl;(focus first|omega))|apply zA|apply zP|apply zI|apply zN|((with_reducible apply Sd.mk);first|exact True.intro|omega)|((with_reducible apply Ln.mk);first|rfl)|((with_reducible apply Wr.mk);first|exact IntWalk.i64_in _ (by omega))|((with_reducible apply Ex.mk);first|exact Int.tmod_eq_emod_of_nonneg (by omega))|((with_reducible apply Pu.mk);first|exact yA rfl)|exact True.intro|intro A)
     all_goals first
      |(exfalso;omega)
      |contradiction
      |(apply zL;(exact(show ResS _ _ _ _ [_,_,_,_] from(res_cell zC rfl rfl rfl (by exact pk) (by first|rfl|exact ‹_›|omega|(simp ;first|done|omega)) (by first|rfl|exact ‹_›|omega|(simp ;first|done|omega)) ⟨rfl,⟨rfl,⟨rfl,trivial⟩⟩⟩)));(focus exact⟨rfl,rfl⟩);(focus repeat with_reducible first|exact Take.nil|apply Take.c|apply Take.drop))
   ·rw[if_neg hs]at hR
    dsimp only at hR
    have hW:=fun h=>Wrap_any (bat d 1%16) b h (by omega)
    obtain⟨⟨w,e⟩,hw⟩:∃V,wrp (bat d 1%16) b=V:=⟨_,rfl⟩
    rw[hw]at hR hW
    dsimp only at hW
    by_cases hq:e=0∧w=d.take ((d.length:Int)-((r.drop 4).length:Int)).toNat
    ·obtain⟨rfl,hq⟩:=hq
     rw[if_pos (by rw[hq]),hN,decide_eq_false hs]at hR
     subst hR
     clear hw
     subst hq
     refine zR Tryz.func28 rfl rfl ?_
     repeat'(first|apply zF|apply zB|apply zE|(apply o_g zC;exact rfl;exact rfl)|(apply o_ar zC;exact rfl;exact rfl)|(apply o_ex;exact rfl;exact rfl)|(apply yQ zC;(iterate 3 exact rfl);(focus exact pk))|(apply yE zC;(iterate 4 exact rfl);(focus exact⟨rfl⟩);(focus exact up))|(apply yG zC;iterate 5 exact rfl)|(apply yT zC;exact rfl;exact rfl;(focus first|with_reducible exact pl33);exact rfl;(focus repeat(first|exact BuildR.nil|(apply BuildR.one;exact rfl;exact rfl;(first|(focus(repeat(first|exact SetAt.zero|apply SetAt.succ));done)))));exact rfl)|(apply zD;exact rfl;exact rfl;(focus first|exact rfl);exact rfl;(focus exact⟨_,hn _,by repeat with_reducible exact Take.nil⟩);rintro _ _ ⟨rfl,rfl⟩)|(apply zD;exact rfl;exact rfl;(focus first|exact rfl);exact rfl;(focus exact⟨_,yN _ _,by repeat with_reducible exact Take.nil⟩);rintro _ _ ⟨n,rfl,rfl⟩)|(apply zD;exact rfl;exact rfl;(focus first|exact rfl);exact rfl;(focus exact⟨_,hX _ _,by repeat with_reducible first|exact Take.nil|apply Take.c⟩);rintro _ _ ⟨rfl,rfl⟩)|(apply zD;exact rfl;exact rfl;(focus first|exact rfl);exact rfl;(focus exact⟨_,hK2 _ _,by repeat with_reducible exact Take.nil⟩);rintro _ _ ⟨rfl,rfl⟩)|(apply zD;exact rfl;exact rfl;(focus first|exact rfl);exact rfl;(focus exact⟨_,rErr_any _ _ _ _,by repeat with_reducible exact Take.nil⟩);rintro _ _ ⟨rfl,rfl⟩)|(apply zD;exact rfl;exact rfl;(focus first|exact rfl);exact rfl;(focus exact⟨_,rLeft_any _ _ _ _,by repeat with_reducible exact Take.nil⟩);rintro _ _ ⟨rfl,rfl⟩)|(apply zD;exact rfl;exact rfl;(focus first|exact rfl);exact rfl;(focus exact⟨_,hO _,by repeat with_reducible exact Take.nil⟩);rintro _ _ ⟨rfl,rfl⟩)|(apply zD;exact rfl;exact rfl;(focus first|exact rfl);exact rfl;(focus exact⟨_,hW _,by repeat with_reducible exact Take.nil⟩);rintro _ _ ⟨rfl,rfl⟩)|(apply zU;exact rfl;exact rfl)|(apply o_gF;(iterate 3 exact rfl);(focus first|omega))|(apply zS;exact rfl)|(apply yD;exact rfl;(focus first|omega))|(apply w_ifN;exact rfl;all_goals intro hc)|apply zA|apply zP|apply zI|apply zN|((with_reducible apply Sd.mk);first|exact True.intro|omega)|((with_reducible apply Ln.mk);first|rfl)|((with_reducible apply Wr.mk);first|exact IntWalk.i64_in _ (by omega))|((with_reducible apply Ex.mk);first|exact Int.tmod_eq_emod_of_nonneg (by omega))|((with_reducible apply Pu.mk);first|exact yA rfl)|((with_reducible apply Su.mk);first|exact zQ)|exact True.intro|intro A|exact rfl)
     all_goals first
      |(exfalso;omega)
      |contradiction
      |(apply zL;(exact(show ResS _ _ _ _ [_,_,_,_] from(res_cell zC rfl rfl rfl (by exact pk) (by first|rfl|exact ‹_›|omega|(simp ;first|done|omega)) (by first|rfl|exact ‹_›|omega|(simp ;first|done|omega)) ⟨rfl,⟨rfl,⟨rfl,trivial⟩⟩⟩)));(focus exact⟨by rw[hNi,decide_eq_false hs];rfl,rfl⟩);(focus repeat with_reducible first|exact Take.nil|apply Take.c|apply Take.drop))
    ·rw[if_neg (fun k=>hq ⟨congrArg Prod.snd k,congrArg Prod.fst k⟩)]at hR
     subst hR
     refine zR Tryz.func28 rfl rfl ?_
     repeat'(first|apply zF|apply zB|apply zE|(apply o_g zC;exact rfl;exact rfl)|(apply o_ar zC;exact rfl;exact rfl)|(apply o_ex;exact rfl;exact rfl)|(apply yQ zC;(iterate 3 exact rfl);(focus exact pk))|(apply yE zC;(iterate 4 exact rfl);(focus exact⟨rfl⟩);(focus exact up))|(apply yG zC;iterate 5 exact rfl)|(apply yT zC;exact rfl;exact rfl;(focus first|with_reducible exact pl33);exact rfl;(focus repeat(first|exact BuildR.nil|(apply BuildR.one;exact rfl;exact rfl;(first|(focus(repeat(first|exact SetAt.zero|apply SetAt.succ));done)))));exact rfl)|(apply zD;exact rfl;exact rfl;(focus first|exact rfl);exact rfl;(focus exact⟨_,hn _,by repeat with_reducible exact Take.nil⟩);rintro _ _ ⟨rfl,rfl⟩)|(apply zD;exact rfl;exact rfl;(focus first|exact rfl);exact rfl;(focus exact⟨_,yN _ _,by repeat with_reducible exact Take.nil⟩);rintro _ _ ⟨n,rfl,rfl⟩)|(apply zD;exact rfl;exact rfl;(focus first|exact rfl);exact rfl;(focus exact⟨_,hX _ _,by repeat with_reducible first|exact Take.nil|apply Take.c⟩);rintro _ _ ⟨rfl,rfl⟩)|(apply zD;exact rfl;exact rfl;(focus first|exact rfl);exact rfl;(focus exact⟨_,hK2 _ _,by repeat with_reducible exact Take.nil⟩);rintro _ _ ⟨rfl,rfl⟩)|(apply zD;exact rfl;exact rfl;(focus first|exact rfl);exact rfl;(focus exact⟨_,rErr_any _ _ _ _,by repeat with_reducible exact Take.nil⟩);rintro _ _ ⟨rfl,rfl⟩)|(apply zD;exact rfl;exact rfl;(focus first|exact rfl);exact rfl;(focus exact⟨_,rLeft_any _ _ _ _,by repeat with_reducible exact Take.nil⟩);rintro _ _ ⟨rfl,rfl⟩)|(apply zD;exact rfl;exact rfl;(focus first|exact rfl);exact rfl;(focus exact⟨_,hO _,by repeat with_reducible exact Take.nil⟩);rintro _ _ ⟨rfl,rfl⟩)|(apply zD;exact rfl;exact rfl;(focus first|exact rfl);exact rfl;(focus exact⟨_,hW _,by repeat with_reducible exact Take.nil⟩);rintro _ _ ⟨rfl,rfl⟩)|(apply zU;exact rfl;exact rfl)|(apply yF;iterate 4 exact rfl)|(apply o_gF;(iterate 3 exact rfl);(focus first|omega))|(apply o_guardFN;(iterate 3 exact rfl);all_goals intro hc)|(apply yB;exact rfl)|(apply zS;exact rfl)|(apply yD;exact rfl;(focus first|omega))|(apply w_ifN;exact rfl;all_goals intro hc)|apply zA|apply zP|apply zI|apply zN|((with_reducible apply Sd.mk);first|exact True.intro|omega)|((with_reducible apply Ln.mk);first|rfl)|((with_reducible apply Wr.mk);first|exact IntWalk.i64_in _ (by omega))|((with_reducible apply Ex.mk);first|exact Int.tmod_eq_emod_of_nonneg (by omega))|((with_reducible apply Pu.mk);first|exact yA rfl)|((with_reducible apply Su.mk);first|exact zQ)|exact True.intro|intro A|exact rfl)
     all_goals first
      |(exfalso;omega)
      |contradiction
      |(exfalso;exact hq ⟨by assumption,by assumption⟩)
      |(apply zL;(exact(show ResS _ _ _ _ [_,_,_,_] from(res_cell zC rfl rfl rfl (by exact pk) (by first|rfl|exact ‹_›|omega|(simp ;first|done|omega)) (by first|rfl|exact ‹_›|omega|(simp ;first|done|omega)) ⟨rfl,⟨rfl,⟨rfl,trivial⟩⟩⟩)));(focus exact⟨rfl,rfl⟩);(focus repeat with_reducible first|exact Take.nil|apply Take.c|apply Take.drop))
  ·rw[if_pos ho]at hR
   subst hR
   refine zR Tryz.func28 rfl rfl ?_
   repeat'(first|apply zF|apply zB|apply zE|(apply o_g zC;exact rfl;exact rfl)|(apply o_ar zC;exact rfl;exact rfl)|(apply yE zC;(iterate 4 exact rfl);(focus exact⟨rfl⟩);(focus exact up))|(apply yG zC;iterate 5 exact rfl)|(apply zD;exact rfl;exact rfl;(focus first|exact rfl);exact rfl;(focus exact⟨_,hn _,by repeat with_reducible exact Take.nil⟩);rintro _ _ ⟨rfl,rfl⟩)|(apply zD;exact rfl;exact rfl;(focus first|exact rfl);exact rfl;(focus exact⟨_,yN _ _,by repeat with_reducible exact Take.nil⟩);rintro _ _ ⟨n,rfl,rfl⟩)|(apply zD;exact rfl;exact rfl;(focus first|exact rfl);exact rfl;(focus exact⟨_,hX _ _,by repeat with_reducible first|exact Take.nil|apply Take.c⟩);rintro _ _ ⟨rfl,rfl⟩)|(apply zD;exact rfl;exact rfl;(focus first|exact rfl);exact rfl;(focus exact⟨_,hK2 _ _,by repeat with_reducible exact Take.nil⟩);rintro _ _ ⟨rfl,rfl⟩)|(apply zD;exact rfl;exact rfl;(focus first|exact rfl);exact rfl;(focus exact⟨_,rErr_any _ _ _ _,by repeat with_reducible exact Take.nil⟩);rintro _ _ ⟨rfl,rfl⟩)|(apply zD;exact rfl;exact rfl;(focus first|exact rfl);exact rfl;(focus exact⟨_,rLeft_any _ _ _ _,by repeat with_reducible exact Take.nil⟩);rintro _ _ ⟨rfl,rfl⟩)|(apply zD;exact rfl;exact rfl;(focus first|exact rfl);exact rfl;(focus exact⟨_,hO _,by repeat with_reducible exact Take.nil⟩);rintro _ _ ⟨rfl,rfl⟩)|(apply zU;exact rfl;exact rfl)|(apply o_gF;(iterate 3 exact rfl);(focus first|omega))|(apply zS;exact rfl)|(apply yC;exact rfl;(focus first|omega))|(apply yD;exact rfl;(focus first|omega))|apply zA|apply zP|apply zI|apply zN|((with_reducible apply Sd.mk);first|exact True.intro|omega)|((with_reducible apply Ln.mk);first|rfl)|((with_reducible apply Wr.mk);first|exact IntWalk.i64_in _ (by omega))|((with_reducible apply Pu.mk);first|exact yA rfl)|exact True.intro|intro A)
   all_goals first
    |(exfalso;omega)
    |contradiction
    |(apply zL;(exact(show ResS _ _ _ _ [_,_,_,_] from(res_cell zC rfl rfl rfl (by exact pk) (by first|rfl|exact ‹_›|omega|(simp ;first|done|omega)) (by first|rfl|exact ‹_›|omega|(simp ;first|done|omega)) ⟨rfl,⟨rfl,⟨rfl,trivial⟩⟩⟩)));(focus exact⟨rfl,rfl⟩);(focus repeat with_reducible first|exact Take.nil|apply Take.c|apply Take.drop))
def unwV :Option (Int × List UInt8 × Nat × Bool)→Value
 |none=>.tuple ⟨[frV 0 [],I 0,I 12]⟩
 |some (k,c,n,_)=>.tuple ⟨[frV k c,I n,I 0]⟩
theorem Unwrap_any (d:List UInt8)(h:SH)(hl:d.length≤1000000):SRun Tryz.prog 10 [S d] h fun r q=>r=unwV (prs d)∧q=h:=by
 have hP:=fun h=>parse_any d h hl
 cases hp:prs d with
 |none =>
  rw[hp]at hP
  refine zR Tryz.func10 rfl rfl ?_
  repeat'(first|apply zF|apply zB|apply zE|(apply o_g zC;exact rfl;exact rfl)|(apply yR;exact rfl;exact rfl)|(apply yE zC;(iterate 4 exact rfl);(focus exact⟨rfl⟩);(focus exact up))|(apply yG zC;iterate 5 exact rfl)|(apply yT zC;exact rfl;exact rfl;(focus first|with_reducible exact pl33);exact rfl;(focus repeat(first|exact BuildR.nil));exact rfl)|(apply zD;exact rfl;exact rfl;(focus first|exact rfl);exact rfl;(focus exact⟨_,hP _,by repeat with_reducible exact Take.nil⟩);rintro _ _ ⟨rfl,rfl⟩)|(apply yB;exact rfl)|apply zA|apply zP|apply zN|((with_reducible apply Sd.mk);first|exact True.intro)|((with_reducible apply Ln.mk);first|rfl)|((with_reducible apply Pu.mk);first|exact yA rfl)|exact True.intro|intro A)
  all_goals first
   |contradiction
   |(apply zL;(exact(show ResS _ _ _ _ [_,_,_] from(res_cell zC rfl rfl rfl (by exact pk) (by first|rfl|exact ‹_›|omega|(simp ;first|done|omega)) (by first|rfl|exact ‹_›|omega|(simp ;first|done|omega)) ⟨rfl,⟨rfl,trivial⟩⟩)));(focus exact⟨rfl,rfl⟩);(focus repeat with_reducible first|exact Take.nil|apply Take.c|apply Take.drop))
 |some V =>
  obtain⟨k,c,n,s⟩:=V
  rw[hp]at hP
  refine zR Tryz.func10 rfl rfl ?_
  repeat'(first|apply zF|apply zB|apply zE|(apply o_g zC;exact rfl;exact rfl)|(apply yR;exact rfl;exact rfl)|(apply yQ zC;(iterate 3 exact rfl);(focus exact pk))|(apply yE zC;(iterate 4 exact rfl);(focus exact⟨rfl⟩);(focus exact up))|(apply yG zC;iterate 5 exact rfl)|(apply zD;exact rfl;exact rfl;(focus first|exact rfl);exact rfl;(focus exact⟨_,hP _,by repeat with_reducible exact Take.nil⟩);rintro _ _ ⟨rfl,rfl⟩)|(apply zS;exact rfl)|apply zA|apply zI|apply zN|((with_reducible apply Sd.mk);first|exact True.intro)|((with_reducible apply Ln.mk);first|rfl)|((with_reducible apply Pu.mk);first|exact yA rfl)|((with_reducible apply Su.mk);first|exact zQ)|exact True.intro|intro A|exact rfl)
  all_goals first
   |contradiction
   |(apply zL;(exact(show ResS _ _ _ _ [_,_,_] from(res_cell zC rfl rfl rfl (by exact pk) (by first|rfl|exact ‹_›|omega|(simp ;first|done|omega)) (by first|rfl|exact ‹_›|omega|(simp ;first|done|omega)) ⟨rfl,⟨rfl,trivial⟩⟩)));(focus exact⟨rfl,rfl⟩);(focus repeat with_reducible first|exact Take.nil|apply Take.c|apply Take.drop))
def cmpr (d:List UInt8):Bool:=match prs d with
 |none=>false
 |some (_,_,_,s)=>s
theorem Compressed_any (d:List UInt8)(h:SH)(hl:d.length≤1000000):SRun Tryz.prog 9 [S d] h fun r q=>r=B (cmpr d)∧q=h:=by
 have hP:=fun h=>parse_any d h hl
 unfold cmpr
 cases hp:prs d with
 |none =>
  rw[hp]at hP
  refine zR Tryz.func9 rfl rfl ?_
  repeat'(first|apply zF|apply zB|apply zE|(apply o_g zC;exact rfl;exact rfl)|(apply yE zC;(iterate 4 exact rfl);(focus exact⟨rfl⟩);(focus exact up))|(apply yG zC;iterate 5 exact rfl)|(apply zD;exact rfl;exact rfl;(focus first|exact rfl);exact rfl;(focus exact⟨_,hP _,by repeat with_reducible exact Take.nil⟩);rintro _ _ ⟨rfl,rfl⟩)|(apply yF;iterate 4 exact rfl)|apply zA|apply zN|((with_reducible apply Sd.mk);first|exact True.intro)|((with_reducible apply Ln.mk);first|rfl)|((with_reducible apply Pu.mk);first|exact yA rfl)|exact True.intro|intro A)
  all_goals first
   |contradiction
   |(apply zL;(exact(show ResS _ _ _ _ [_] from⟨rfl,trivial⟩));(focus exact⟨rfl,rfl⟩);(focus repeat with_reducible first|exact Take.nil|apply Take.c|apply Take.drop))
 |some V =>
  obtain⟨k,c,n,s⟩:=V
  rw[hp]at hP
  cases s
  all_goals
   refine zR Tryz.func9 rfl rfl ?_
   repeat'(first|apply zF|apply zB|apply zE|(apply o_g zC;exact rfl;exact rfl)|(apply yE zC;(iterate 4 exact rfl);(focus exact⟨rfl⟩);(focus exact up))|(apply yG zC;iterate 5 exact rfl)|(apply zD;exact rfl;exact rfl;(focus first|exact rfl);exact rfl;(focus exact⟨_,hP _,by repeat with_reducible exact Take.nil⟩);rintro _ _ ⟨rfl,rfl⟩)|(apply zU;exact rfl;exact rfl)|apply zA|apply zN|((with_reducible apply Sd.mk);first|exact True.intro)|((with_reducible apply Ln.mk);first|rfl)|((with_reducible apply Pu.mk);first|exact yA rfl)|exact True.intro|intro A)
   all_goals first
    |contradiction
    |(apply zL;(exact(show ResS _ _ _ _ [_] from⟨rfl,trivial⟩));(focus exact⟨rfl,rfl⟩);(focus repeat with_reducible first|exact Take.nil|apply Take.c|apply Take.drop))
end Go.Proofs.YteddogfolceahaaGreat
end
section
set_option maxRecDepth 4000
namespace Go.Gh
open Go.RowKit

theorem vrel_det {φ:Nat→Loc}{L:Lens}{as0:List Value}{vs:Array Value}(hc:as0.all yJ=true)(h:VRel φ L as0 vs):vs=as0.toArray:=by
 obtain⟨hs,hg⟩:=h
 refine Array.ext (by simpa using hs) fun i hi hi'=>?_
 have hl:i<as0.length:=by simpa using hi'
 obtain⟨v,g1,g2⟩:=hg i as0[i] (by simp[hl])
 have:=Val.det ((List.all_eq_true.1 hc) as0[i] (List.getElem_mem hl)) g2
 rw[Array.getElem?_eq_getElem hi]at g1
 simp only[Option.some.injEq]at g1
 rw[g1,this];simp
theorem srun_lib {P:Program}{f:FuncId}{as0:List Value}{v:Value}{h:SH}(hc:as0.all yJ=true)(hv:yJ v=true)
  (k:∀w:World,Calls P f as0.toArray w fun e w'=>e=.returned v∧Below w.heap.size w w'):SRun P f as0 h fun r q=>r=v∧q=h:=by
 unfold SRun
 intro H i
 unfold Run
 intro B0 w0 φs Ls φ w vs he hr hvs
 rw[vrel_det hc hvs]
 refine(k w).mono ?_
 rintro e w' ⟨rfl,hb⟩
 exact⟨φ,v,H,v,he,hr.later hb,rfl,Val.const hv,h,⟨rfl,rfl⟩,i⟩
end Go.Gh
end
section
set_option maxRecDepth 4000
namespace Go.Proofs.YteddogfolceahaaGreat
open Go.Gh Go.RowKit

abbrev Fd :Type:=Nat × Nat × Int × List UInt8
def wkL (d:List UInt8):Nat→Nat→List Fd
 |0,_=>[]
 |f+1,at_=>if at_<d.length then match prs (d.drop at_)with
   |none=>wkL d f (at_+1)
   |some (k,c,n,_)=>(at_,n,k,c)::wkL d f (at_+n)
  else []
abbrev fdC (x:Fd):List Value:=[I x.1,I x.2.1,I x.2.2.1,S x.2.2.2]
theorem det_t {φ:Nat→Go.Gh.Loc}{L:Lens}{cs:List Value}{v:Value}(hs:cs.all yJ=true)(h:Val φ L (.tuple ⟨cs⟩) v):v=.tuple ⟨cs⟩:=by
 cases h with
 |tuple a b h1 h2 =>
  congr 1
  refine Array.ext h1.symm fun i hi hi'=>?_
  exact Val.det ((List.all_eq_true.1 hs) (Array.mk cs)[i] (Array.mem_toList_iff.2 (Array.getElem_mem hi'))) (h2 i hi' hi)
theorem calls_t {P:Program}{f:FuncId}{xs cs:List Value}(h:SRun P f xs [] fun r _=>r=.tuple ⟨cs⟩)(hc:xs.all yJ=true)(hs:cs.all yJ=true)(W:World) :
  Calls P f xs.toArray W fun e W'=>e=.returned (.tuple ⟨cs⟩)∧Below W.heap.size W W':=by
 unfold SRun at h
 have h1:=h [] (.start (fun x hx=>(by cases hx)) List.nodup_nil)
 unfold Run at h1
 have h2:=h1 W.heap.size W (fun _=>⟨0,0,0,false⟩) (lens []) (fun _=>⟨0,0,0,false⟩) W xs.toArray (.refl _ _)
  ⟨Below.refl _ _,Nat.le_refl _,fun A g hA=>(by cases hA),fun A g hA=>(by cases hA),fun A A' g _ hA=>(by cases hA)⟩ (vrel_const hc)
 refine h2.mono ?_
 rintro e W' ⟨φ',r,H',v,g1,g2,rfl,g4,q,rfl,g5⟩
 rw[det_t hs g4]
 exact⟨rfl,g2.below⟩
theorem unw_some {d:List UInt8}{k:Int}{c:List UInt8}{n:Nat}{s:Bool}(hl:d.length≤1000000)(hp:prs d=some (k,c,n,s))(W:World) :
  Calls Tryz.prog 10 #[S d] W fun e W'=>e=.returned (.tuple #[frV k c,I n,I 0])∧Below W.heap.size W W' :=
 calls_t (xs:=[S d]) (cs:=[frV k c,I n,I 0]) ((Unwrap_any d [] hl).mono fun r q g=>by rw[g.1,hp];rfl) rfl rfl W
theorem unw_none {d:List UInt8}(hl:d.length≤1000000)(hp:prs d=none)(W:World) :
  Calls Tryz.prog 10 #[S d] W fun e W'=>e=.returned (.tuple #[frV 0 [],I 0,I 12])∧Below W.heap.size W W' :=
 calls_t (xs:=[S d]) (cs:=[frV 0 [],I 0,I 12]) ((Unwrap_any d [] hl).mono fun r q g=>by rw[g.1,hp];rfl) rfl rfl W
end Go.Proofs.YteddogfolceahaaGreat
end
section
set_option maxRecDepth 4000
namespace Go.Proofs.YteddogfolceahaaGreat
open Go.Gh Go.RowKit Go.Shelf

attribute [local go_sem] Oper.semAt_some

theorem below_grown {W W':World}(h:Below W.heap.size W W'):W.grownBy W' none:=⟨h.os,h.tape,h.output,h.size,fun k hk _=>h.block k hk⟩
def KpB (Bn:Nat)(X Y:World):Prop:=Y.heap[Bn]?=X.heap[Bn]?∧X.heap.size≤Y.heap.size
theorem KpB.t {Bn:Nat}{X Y Z:World}(h:KpB Bn X Y)(k:KpB Bn Y Z):KpB Bn X Z:=⟨k.1.trans h.1,Nat.le_trans h.2 k.2⟩
theorem KpB.cell {Bn:Nat}{X Y:World}{v:Value}(h:KpB Bn X Y)(hc:X.cell? ⟨Bn,0,none⟩=some v):Y.cell? ⟨Bn,0,none⟩=some v:=(World.cell?_of_block (w:=X) (a:=⟨Bn,0,none⟩) h.1).trans hc
theorem KpB.below {Bn:Nat}{X Y:World}(h:Below X.heap.size X Y)(hB:Bn<X.heap.size):KpB Bn X Y:=⟨h.block Bn hB,h.size⟩
set_option maxRecDepth 100000 in
set_option maxHeartbeats 4000000 in
theorem walk1_in (n:Nat)(hn:1≤n)(l Bn:Nat)(d:List UInt8)(hd:d.length≤1000000)(hlen:∀at_ k c n s,prs (d.drop at_)=some (k,c,n,s)→1≤n∧at_+n≤d.length)(J Jx:List Fd→World→Prop)(W:World)(hJ:AbidesFrom W.heap.size J)(hB0:Bn<W.heap.size)
  (hY:∀pre x W,J pre W→pre.length<(wkL d d.length 0).length→YieldAt Fence.wide (n-1) Tryz.prog l #[.agg ⟨fdC x⟩] W fun e W' =>
   (e=.returned (.bool true)∧J (pre++[x]) W'∧KpB Bn W W')∨(e=.returned (.bool false)∧Jx (pre++[x]) W'))
  (hBn:W.cell? ⟨Bn,0,none⟩=some (S d)) (h0:J [] W) :
  CallsIn Fence.wide n Tryz.prog 60 #[.func (.yield l) #[] #[],.pointer (some ⟨Bn,0,none⟩)] W fun e W'=>(∃v,e=.returned v) ∧
   ((∃ys,ys=wkL d d.length 0∧J ys W')∨(∃pre,pre <+: wkL d d.length 0∧Jx pre W')):=by
 refine callsIn_of_wp Tryz.func60 rfl trivial ?_ rfl
 simp only[Tryz.ntmps60,List.size_toArray,List.length_cons,List.length_nil,Nat.reduceAdd,Nat.reduceSub,Array.replicate_succ,Array.replicate_zero,List.push_toArray,List.append_toArray,List.nil_append,List.cons_append]
 gi_wp2
 gi_loopw [3] (fun p wr=>∃(pre:List Fd) (at_ f:Nat),p=.int .i64 at_∧d.length-at_≤f∧wkL d d.length 0=pre++wkL d f at_∧J pre wr∧wr.cell? ⟨Bn,0,none⟩=some (S d)∧Bn<wr.heap.size)
  (fun p wr=>d.length-(intOf p).toNat)
 case atStart =>
  exact⟨[],0,d.length,rfl,Nat.sub_le _ _,rfl,h0,hBn,hB0⟩
 case round =>
  obtain⟨pre,at_,f,rfl,hf,hx,hJs,hcell,hsz⟩:=hrel
  by_cases hlt:at_<d.length
  ·have hex:(⟨⟨d⟩⟩:ByteArray).extract at_ d.length=⟨⟨d.drop at_⟩⟩:=by
    rw[ext_mk,List.take_length]
   have hdl:(d.drop at_).length≤1000000:=by rw[List.length_drop];omega
   obtain⟨f',rfl⟩:∃f',f=f'+1:=⟨f-1,by omega⟩
   cases hp:prs (d.drop at_)with
   |none =>
    have hxn:wkL d (f'+1) at_=wkL d f' (at_+1):=by
     show(if at_<d.length then _ else _)=_
     rw[if_pos hlt,hp]
    rw[hxn]at hx
    have hU:=unw_none hdl hp wr
    gi_wp2
    refine⟨trivial,?_⟩
    refine(callsIn_wide.2 hU).mono ?_
    rintro e w2 ⟨rfl,hb⟩
    have hJ2:J pre w2:=hJ pre wr w2 none hJs (below_grown hb) (fun r e=>by cases e)
    have hk2:=KpB.below hb hsz
    have hc2:=hk2.cell hcell
    have hs2:Bn<w2.heap.size:=Nat.lt_of_lt_of_le hsz hk2.2
    gi_wp2
    refine⟨⟨pre,at_+1,f',congrArg (Value.int .i64) (by omega),by omega,hx,hJ pre w2 _ none hJ2 (World.grownBy_alloc _ _ _) (fun r e=>by cases e),?_,by rw[World.size_alloc];omega⟩,?_⟩
    ·exact(((Below.refl _ w2).alloc (Nat.le_refl _) _).cell (p:=⟨Bn,0,none⟩) hs2).trans hc2
    ·show d.length-((at_:Int)+1).toNat<d.length-((at_:Int)).toNat
     omega
   |some V =>
    obtain⟨k,c,m,s⟩:=V
    obtain⟨hm1,hm2⟩:=hlen at_ k c m s hp
    have hxn:wkL d (f'+1) at_=(at_,m,k,c)::wkL d f' (at_+m):=by
     show(if at_<d.length then _ else _)=_
     rw[if_pos hlt,hp]
    rw[hxn]at hx
    have hU:=unw_some hdl hp wr
    gi_wp2
    refine⟨trivial,?_⟩
    refine(callsIn_wide.2 hU).mono ?_
    rintro e w2 ⟨rfl,hb⟩
    have hJ2:J pre w2:=hJ pre wr w2 none hJs (below_grown hb) (fun r e=>by cases e)
    have hk2:=KpB.below hb hsz
    have hc2:=hk2.cell hcell
    have hs2:Bn<w2.heap.size:=Nat.lt_of_lt_of_le hsz hk2.2
    obtain⟨fn,tmps,assign,body,hy,hR⟩:=hY pre (at_,m,k,c) (w2.alloc (.cells #[.int .i64 k,.string ⟨⟨c⟩⟩] 33)) (hJ pre w2 _ none hJ2 (World.grownBy_alloc _ _ _) (fun r e=>by cases e)) (by rw[hx,List.length_append,List.length_cons];omega)
    have hy2:Sem.run Tryz.prog (Instr.yield l #[.agg #[.int .i64 at_,.int .i64 m,.int .i64 k,.string ⟨⟨c⟩⟩]]) (w2.alloc (.cells #[.int .i64 k,.string ⟨⟨c⟩⟩] 33))=.ok (.round l fn tmps assign body) (w2.alloc (.cells #[.int .i64 k,.string ⟨⟨c⟩⟩] 33)):=hy
    clear hy
    gi_wp2
    refine hR.mono ?_
    rintro e W3 (⟨rfl,hJ3,hk3⟩|⟨rfl,hJx3⟩)
    ·have hk4:KpB Bn w2 W3:=(KpB.below ((Below.refl _ w2).alloc (Nat.le_refl _) _) hs2).t hk3
     have hc3:=hk4.cell hc2
     gi_wp2
     refine⟨⟨pre++[(at_,m,k,c)],at_+m,f',congrArg (Value.int .i64) (by omega),by omega,by rw[hx];simp,hJ3,hc3,Nat.lt_of_lt_of_le hs2 hk4.2⟩,?_⟩
     show d.length-((at_:Int)+((m:Int)-1)+1).toNat<d.length-((at_:Int)).toNat
     omega
    ·gi_wp2
     refine bodyPost_ret (results_none rfl _ _ _) rfl ?_
     exact⟨⟨_,rfl⟩,.inr ⟨pre++[(at_,m,k,c)],⟨wkL d f' (at_+m),by rw[hx];simp⟩,hJx3⟩⟩
  ·have hxe:wkL d f at_=[]:=by
    cases f with
    |zero=>rfl
    |succ f=>exact if_neg hlt
   gi_wp2
   go_end0
   exact⟨⟨_,rfl⟩,.inl ⟨pre,by rw[hx,hxe,List.append_nil],hJs⟩⟩

attribute [local go_sem] Oper.semAt_some

theorem wkL_len (d:List UInt8):∀f at_,(wkL d f at_).length≤f
 |0,_=>Nat.le_refl _
 |f+1,at_=>by
  unfold wkL
  split
  ·split
   ·exact Nat.le_succ_of_le (wkL_len d f _)
   ·exact Nat.succ_le_succ (wkL_len d f _)
  ·exact Nat.zero_le _
set_option maxHeartbeats 1000000 in
theorem wlk_in (n:Nat)(d:List UInt8)(w:World) :
  CallsIn Fence.wide n Tryz.prog 27 #[S d] w fun e w'=>e=.returned (.func (.func 60) #[] #[.pointer (some ⟨w.heap.size,0,none⟩)])∧w'=w.alloc (.cells #[S d] 9):=by
 refine callsIn_of_wp Tryz.func27 rfl trivial ?_ rfl
 simp only[Tryz.ntmps27,List.size_toArray,List.length_cons,List.length_nil,Nat.reduceAdd,Nat.reduceSub,Array.replicate_succ,Array.replicate_zero,List.push_toArray,List.append_toArray,List.nil_append,List.cons_append]
 gi_wp2
 go_ret
 exact⟨rfl,rfl⟩
theorem walk1_stops (n:Nat)(hn:1≤n)(Bn:Nat)(d:List UInt8)(hd:d.length≤1000000)(hlen:∀at_ k c n s,prs (d.drop at_)=some (k,c,n,s)→1≤n∧at_+n≤d.length)(w:World)(hB0:Bn<w.heap.size)(hc:w.cell? ⟨Bn,0,none⟩=some (S d)) :
  SeqStopsK Fence.wide n Tryz.prog 60 #[.pointer (some ⟨Bn,0,none⟩)] (fun x:Fd=>#[.agg ⟨fdC x⟩]) (KpB Bn) (fun ys=>ys=wkL d d.length 0) (fun pre=>pre <+: wkL d d.length 0) (wkL d d.length 0).length w :=
 fun l J Jx W hW hJ _ hY h0=>walk1_in n hn l Bn d hd hlen J Jx W hJ (Nat.lt_of_lt_of_le hB0 hW.size) hY ((hW.cell (p:=⟨Bn,0,none⟩) hB0).trans hc) h0
theorem cells4_new (w:World)(a b c e:Value)(t:TypeId):∀j u,[a,b,c,e][j]?=some u→(w.alloc (.cells #[a,b,c,e] t)).cell? ((⟨w.heap.size,0,none⟩:Addr).add j)=some u:=by
 intro j u hj
 have h:(w.alloc (.cells #[a,b,c,e] t)).heap[w.heap.size]?=some (.cells #[a,b,c,e] t):=World.alloc_heap_new w _
 match j,hj with
 |0,hj=>show(match (w.alloc (.cells #[a,b,c,e] t)).heap[w.heap.size]? with|some (.cells c _ _)=>c[0]?|_=>none)=some u;rw[h];simpa using hj
 |1,hj=>show(match (w.alloc (.cells #[a,b,c,e] t)).heap[w.heap.size]? with|some (.cells c _ _)=>c[1]?|_=>none)=some u;rw[h];simpa using hj
 |2,hj=>show(match (w.alloc (.cells #[a,b,c,e] t)).heap[w.heap.size]? with|some (.cells c _ _)=>c[2]?|_=>none)=some u;rw[h];simpa using hj
 |3,hj=>show(match (w.alloc (.cells #[a,b,c,e] t)).heap[w.heap.size]? with|some (.cells c _ _)=>c[3]?|_=>none)=some u;rw[h];simpa using hj
 |j+4,hj=>simp at hj
theorem block4_own (B:Nat)(o:Obj)(ho:o.isCells=true):Own (fun(_:Unit) W=>W.heap[B]?=some o):=fun s X Y row hs hg hrow =>
 (hg.block B (Array.getElem?_eq_some_iff.1 hs).1 (fun e=>by obtain⟨o',h1,h2⟩:=hrow B e.symm;rw[hs]at h1;cases h1;rw[ho]at h2;cases h2)).trans hs
theorem info46 :(Tryz.prog.info? 35).map (fun i=>(i.zero,i.size,i.bytes))=some (some (.agg #[.int .i64 0,.int .i64 0,.int .i64 0,.string ⟨⟨[]⟩⟩]),4,40):=by kernel_rfl
set_option maxRecDepth 100000 in
set_option maxHeartbeats 4000000 in
theorem Walk_in (n:Nat)(hn:3≤n)(d:List UInt8)(hd:d.length≤1000000)(hlen:∀at_ k c n s,prs (d.drop at_)=some (k,c,n,s)→1≤n∧at_+n≤d.length)(w:World) :
  CallsIn Fence.wide n Tryz.prog 8 #[S d] w fun e W'=>∃v,e=.returned v∧W'.ownsRow w.heap.size 35 4 v (wkL d d.length 0).length ((wkL d d.length 0).flatMap fdC)∧(v=.slice none 0 0↔wkL d d.length 0=[])∧Below w.heap.size w W':=by
 have h1:1≤n:=by omega
 obtain⟨i0,hi,hz0,hz1,hz2⟩:=info_parts info46
 refine callsIn_of_wp_marks Tryz.func8 rfl trivial ?_ rfl
 simp only[Tryz.ntmps8,List.size_toArray,List.length_cons,List.length_nil,Nat.reduceAdd,Nat.reduceSub,Array.replicate_succ,Array.replicate_zero,List.push_toArray,List.append_toArray,List.nil_append,List.cons_append]
 gi_wp2
 refine⟨trivial,?_⟩
 refine(wlk_in _ d _).mono ?_
 rintro e w2 ⟨rfl,rfl⟩
 gi_wp2
 have bO:=(Boxed.new w 30 (.slice none 0 0)).alloc (.cells #[S d] 9)
 have bD:=Boxed.new (w.alloc (.cells #[.slice none 0 0] 30)) 9 (S d)
 simp only[World.size_alloc]at bD
 have hB0:Below w.heap.size w ((w.alloc (.cells #[.slice none 0 0] 30)).alloc (.cells #[S d] 9)):=((Below.refl _ w).alloc (Nat.le_refl _) _).alloc (by simp) _
 have hsz:((w.alloc (.cells #[.slice none 0 0] 30)).alloc (.cells #[S d] 9)).heap.size=w.heap.size+2:=by simp
 obtain⟨W0,hW0⟩:∃W0,(w.alloc (.cells #[.slice none 0 0] 30)).alloc (.cells #[S d] 9)=W0:=⟨_,rfl⟩
 rw[hW0]at bO bD hB0 hsz ⊢
 clear hW0
 have hN:=wkL_len d d.length 0
 refine wpIn_rangeFunc_ownH rfl h1 (gf:=60) (lb:=#[.pointer (some ⟨w.heap.size+1,0,none⟩)]) rfl trivial (enters_of Tryz.func60 (by kernel_rfl) rfl)
  (walk1_stops (n-1) (by omega) (w.heap.size+1) d hd hlen W0 (by omega) bD.cell) KpB.t
  (fun W l o o' hl h _ _=>⟨World.putObj_heap_other (by omega),(grownBy_putObj' W l o').size⟩) (Below.refl _ _) (fun _=>rfl)
  (fun pre W=>((∃v,Boxed W w.heap.size 30 v∧W.ownsRow w.heap.size 35 4 v pre.length (pre.flatMap fdC)∧(v=.slice none 0 0↔pre=[]))∧Boxed W (w.heap.size+1) 9 (S d))∧Below w.heap.size w W)
  (fun _ _ _=>False)
  (OwnFrom.and (OwnFrom.and (Own.from (holdsRow_own w.heap.size w.heap.size 30 35 4 (fun pre:List Fd=>pre.length) (fun pre=>pre.flatMap fdC) (fun pre v=>v=.slice none 0 0↔pre=[])) _) (Own.from (boxed_own (w.heap.size+1) 9 (fun _=>S d)) _)) (ownFrom_below (Nat.le_refl _) (by omega)))
  (fun _ _ _ _ _ hs _ _=>hs)
  ⟨⟨⟨_,bO,World.ownsRow_nil _ _ _ _,by simp⟩,bD⟩,hB0⟩
  (fun x a' W=>∃Bx,w.heap.size+1<Bx∧W.heap[Bx]?=some (.cells #[I x.1,I x.2.1,I x.2.2.1,S x.2.2.2] 35 (0,0))∧a'={ tmps:=#[S d,undef,Value.slice none 0 0,Value.pointer (some { block:=w.heap.size,off:=0 }),Value.pointer (some { block:=Bx,off:=0 }),S d,
     Value.func (Fn.func 60) #[] #[Value.pointer (some { block:=w.heap.size+1,off:=0 })],.agg #[I x.1,I x.2.1,I x.2.2.1,S x.2.2.2],undef,undef,undef,undef,undef],defers:=[] })
  (fun x a' _ X Y row hs hg hr=>by obtain⟨Bx,h1,h2,h3⟩:=hs;exact⟨Bx,h1,block4_own Bx _ rfl () X Y row h2 hg (fun r e=>(hr r e).2),h3⟩)
  ?assign ?body ?done ?stop
 case assign =>
  rintro l pre x W K ⟨⟨⟨v,hv,hrow,hnil⟩,hD⟩,hB⟩ hK
  gi_wp2
  exact hK _ _ ((KeepsOthers.alloc _ _).from _) ⟨(hD.alloc _).trans hD.symm,by simp⟩ ⟨⟨⟨v,hv.alloc _,hrow.alloc _,hnil⟩,hD.alloc _⟩,hB.alloc hB.size _⟩ ⟨W.heap.size,hD.lt,World.alloc_heap_new W _,rfl⟩
 case body =>
  rintro l pre x a' W hl ⟨r,hr⟩ ⟨⟨⟨v,hv,hrow,hnil⟩,hD⟩,hB⟩ ⟨Bx,hBx,hX,rfl⟩ hlt
  have hc:=hv.cell
  have c0:W.cell? ⟨Bx,0,none⟩=some (I x.1):=by simp[World.cell?,hX]
  have c1:W.cell? ⟨Bx,1,none⟩=some (I x.2.1):=by simp[World.cell?,hX]
  have c2:W.cell? ⟨Bx,2,none⟩=some (I x.2.2.1):=by simp[World.cell?,hX]
  have c3:W.cell? ⟨Bx,3,none⟩=some (S x.2.2.2):=by simp[World.cell?,hX]
  gi_wp2_with (gi_at_builtin;refine wpListIn_append_own _ rfl _ _ 30 rfl w.heap.size 35 i0 _ 4 40 Tryz.underlying30 hi hz0 hz1 hz2 rfl (by decide) _ _ _ rfl (hrow.alloc _) ⟨W.heap.size,0,none⟩ 1 1 (fdC x) rfl rfl (cells4_new _ _ _ _ _ _) (by simp[Value.oneCell']) (by unfold maxLen;omega) (by omega) (by have:=hB.size;simp;omega) ?_;intro v' w1 hown' hgrow _;obtain⟨g',cap',rfl⟩:=ownsRow_succ hown';obtain⟨hv1,hv2,hr2,hk2,hb2⟩:=hv.appended (by decide) hrow hB.size (Nat.le_refl _) hown' hgrow;have hc1:=hv1.cell;have hf1:=hv1.frozen;have hD1:=((hD.alloc _).kept hgrow (hD.not_row (by decide) hrow)).other (B':=w.heap.size) (by omega) (.slice (some ⟨g',0,none⟩) (pre.length+1) cap'))
  exact⟨hk2.from _,⟨hD1.trans hD.symm,hb2.size⟩,⟨⟨_,hv2,by simpa using hr2,by simp⟩,hD1⟩,hB.trans hb2⟩
 case done =>
  rintro D ys W hD rfl ⟨⟨⟨v,hv,hrow,hnil⟩,hDD⟩,hB⟩ hK
  have hc:=hv.cell
  gi_wp2
  refine⟨by simp,.inl ⟨_,_,rfl,run_takeDeferred hK,?_⟩⟩
  exact⟨_,results_tmp rfl _ _ _,v,rfl,ownsRow_putObj hrow _ hK rfl,hnil,hB.trans (belowK_b (w:=w) (Nat.le_refl _) W D _ _ (by omega) hK rfl rfl)⟩
 case stop =>
  rintro D c pre W _ _ h _
  exact h.elim
end Go.Proofs.YteddogfolceahaaGreat
end
