/- Part 8 of the proof of the law TopCheapest: texts merged. No condition. -/
import Derived.Test.YteddogfolceahaaGreatZTopCheapestG
set_option linter.unusedSimpArgs false
set_option linter.unusedVariables false
section
set_option maxRecDepth 4000
namespace Go.Proofs.YteddogfolceahaaGreat
open Go.Gh Go.RowKit

def lcst :Cst:=⟨9,12,1,1⟩
theorem lcst_ok :vC lcst:=by unfold vC one1 lcst;decide
def pcs (l:List UInt8):List Pc:=(parse lcst l 4096).1
theorem pcs_cov {l:List UInt8}(hl:l.length≤4096):Cov l 4096 0 (pcs l):=parse_cov lcst_ok (by decide) hl
theorem pcs_err (l:List UInt8):(parse lcst l 4096).2=if 4096<l.length then 9 else 0:=by
 unfold parse
 rw[if_pos ⟨lcst_ok,by decide⟩]
 split <;> rfl
theorem cov_vPb {l:List UInt8}{w:Int}(hw:w≤4096){ps:List Pc}{i:Nat}(h:Cov l w i ps):∀t∈ps,vPb t:=fun t ht=>⟨cov_vPs hw h t ht,cov_bytes h t ht⟩
theorem cov_psum {l:List UInt8}{w:Int}(hw:w≤4096):∀{ps:List Pc} {i:Nat},Cov l w i ps→i+psum ps=l.length
 |[],i,h=>by show i+0=_;have:i=l.length:=h;omega
 |t::r,i,h=>by
  have h1:=cov_psum hw h.2
  show i+(t.1.toNat+psum r)=_
  omega
theorem Pieces_any (l:List UInt8)(h:SH)(hl:l.length≤9223372036854775807):SRun Tryz.prog 17 [S l] h fun r q =>
  ∃v,r=.tuple #[v,I (if 4096<l.length then 9 else 0)]∧Has q (recs pcC (pcs l)) 3 (pcs l).length v∧Take q h:=by
 have hP:∀h,SRun Tryz.prog 35 [csV ⟨9,12,1,1⟩,S l,I 4096] h fun r q=>∃v,r=.tuple #[v,I (if 4096<l.length then 9 else 0)]∧Has q (recs pcC (pcs l)) 3 (pcs l).length v∧Take q h :=
  fun h=>(Parse_any lcst l 4096 h hl).mono fun r q ⟨v,g1,g2⟩=>⟨v,by rw[g1,pcs_err],g2.has⟩
 generalize pcs l=L at *
 generalize (if 4096<l.length then(9:Int)else 0)=E at *
 refine zR Tryz.func17 rfl rfl ?_
 repeat'(first|apply zF|apply zB|apply zE|(apply o_g zC;exact rfl;exact rfl)|(apply yT zC;exact rfl;exact rfl;(focus first|with_reducible exact pl49);exact rfl;(focus repeat(first|exact BuildR.nil|(apply BuildR.one;exact rfl;exact rfl;(first|(focus(repeat(first|exact SetAt.zero|apply SetAt.succ));done)))));exact rfl)|(apply zD;exact rfl;exact rfl;(focus first|exact rfl);exact rfl;(focus exact⟨_,hP _,by repeat with_reducible exact Take.nil⟩);rintro _ _ ⟨v,rfl,hv,ht⟩)|apply zA|apply zN|((with_reducible apply Sd.mk);first|exact True.intro))
 (apply zL;(exact(show ResS _ _ _ _ [_,_] from⟨rfl,⟨rfl,trivial⟩⟩));(focus exact⟨v,rfl,hv,ht⟩);(focus repeat with_reducible first|exact Take.nil|apply Take.c|apply Take.drop))
theorem psum_app (a b:List Pc):psum (a++b)=psum a+psum b:=by
 induction a with
 |nil=>exact(Nat.zero_add _).symm
 |cons t r ih=>show t.1.toNat+psum (r++b)=t.1.toNat+psum r+psum b;omega
theorem wrun_snoc (l:List Pc)(t:Pc)(s:Ms × Enc):wrun (l++[t]) s=wst (wrun l s) t:=by unfold wrun;rw[List.foldl_append];rfl
def zs0 :Ms × Enc:=(ms0,encZ)
def wrt (n:Nat)(ps:List Pc):List UInt8:=vnum n++fin (wrun ps zs0).2
def lzE (l:List UInt8):List UInt8 × Int:=if 4096<l.length then([],9)else(if l=[] then vnum 0 else wrt l.length (pcs l),0)
theorem ztake_bang {α:Type}[Inhabited α]{l:List α}{i:Nat}(h:i<l.length):l.take (i+1)=l.take i++[l[i]!]:=by
 rw[getElem!_pos l i h];exact(List.take_append_getElem h).symm
theorem psum_all {l:List Pc}{i:Nat}:psum (l.take i)≤psum l:=by
 have h1:=psum_app (l.take i) (l.drop i)
 rw[List.take_append_drop]at h1
 omega
theorem wrunT_ok {ps:List Pc}(hv:∀t∈ps,vPb t)(i:Nat):MsOk (wrun (ps.take i) zs0).1∧EncOk (137*psum ps) (wrun (ps.take i) zs0).2:=by
 have h:=wrun_ok (l:=ps.take i) (s:=zs0) ms0_ok encZ_ok (fun t ht=>hv t (List.mem_of_mem_take ht))
 have:=psum_all (l:=ps) (i:=i)
 exact⟨h.1,h.2.mono (by omega)⟩
abbrev WF (s c:Nat):Value:=.func (.func 41) ⟨[]⟩ ⟨[gptr s 0 4,gptr c 0 1]⟩
theorem Encode_any' (l:List UInt8)(h:SH)(hl:l.length≤9223372036854775807):SRun Tryz.prog 19 [S l] h fun r q=>r=.tuple #[S (lzE l).1,I (lzE l).2]∧q=h:=by
 have hP:=fun h=>Pieces_any l h hl
 have hN:=fun h=>Number_any (l.length:Int) h (by omega)
 by_cases hbig:4096<l.length
 ·rw[show lzE l=([],9)from if_pos hbig]
  simp only[if_pos hbig]at hP
  refine zR Tryz.func19 rfl rfl ?_
  repeat'(first|apply zF|apply zB|apply zE|(apply o_g zC;exact rfl;exact rfl)|(apply zD;exact rfl;exact rfl;(focus first|exact rfl);exact rfl;(focus exact⟨_,hP _,by repeat with_reducible exact Take.nil⟩);rintro _ _ ⟨v,rfl,hv,ht⟩)|(apply yB;exact rfl)|apply zA|apply zP|apply zN|((with_reducible apply Sd.mk);first|exact True.intro))
  all_goals first
   |(exfalso;omega)
   |(apply zL;(exact(show ResS _ _ _ _ [_,_] from⟨rfl,⟨rfl,trivial⟩⟩));(focus exact⟨rfl,rfl⟩);(focus repeat(first|with_reducible exact Take.nil|exact ht|with_reducible apply Take.c|with_reducible apply Take.drop)))
 ·simp only[if_neg hbig]at hP
  by_cases h0:l=[]
  ·subst h0
   rw[show lzE []=(vnum 0,0)from rfl]
   refine zR Tryz.func19 rfl rfl ?_
   repeat'(first|apply zF|apply zB|apply zE|(apply o_g zC;exact rfl;exact rfl)|(apply zD;exact rfl;exact rfl;(focus first|exact rfl);exact rfl;(focus exact⟨_,hP _,by repeat with_reducible exact Take.nil⟩);rintro _ _ ⟨v,rfl,hv,ht⟩)|(apply zD;exact rfl;exact rfl;(focus first|exact rfl);exact rfl;(focus exact⟨_,hN _,by repeat with_reducible exact Take.nil⟩);rintro _ _ ⟨rfl,rfl⟩)|(apply yB;exact rfl)|(apply zS;exact rfl)|apply zA|apply zP|apply zI|apply zN|((with_reducible apply Sd.mk);first|exact True.intro))
   all_goals first
    |contradiction
    |(apply zL;(exact(show ResS _ _ _ _ [_,_] from⟨rfl,⟨rfl,trivial⟩⟩));(focus exact⟨rfl,rfl⟩);(focus repeat(first|with_reducible exact Take.nil|exact ht|with_reducible apply Take.c|with_reducible apply Take.drop)))
  ·rw[show lzE l=(wrt l.length (pcs l),0)by unfold lzE;rw[if_neg hbig,if_neg h0]]
   have hcv:=pcs_cov (l:=l) (by omega)
   have hvp:=cov_vPb (by omega) hcv
   have hps:=cov_psum (by omega) hcv
   have hl0:l.length≠0:=fun g=>h0 (List.length_eq_zero_iff.1 g)
   have hpl:=cov_short (by omega) hcv
   unfold wrt
   generalize pcs l=ps at *
   have hpn:ps.length≠0:=fun g=>by
    rw[List.length_eq_zero_iff.1 g]at hps
    exact hl0 (by rw[←hps];rfl)
   refine zR Tryz.func19 rfl rfl ?_
   repeat'(first|apply zF|apply zB|apply zE|(apply o_g zC;exact rfl;exact rfl)|(apply zX zC;(iterate 4 exact rfl);(focus exact up))|(apply yE zC;(iterate 4 exact rfl);(focus exact⟨rfl⟩);(focus exact up))|(apply yG zC;iterate 5 exact rfl)|(apply o_makeFunc;iterate 3 exact rfl)|(apply zD;exact rfl;exact rfl;(focus first|exact rfl);exact rfl;(focus exact⟨_,hP _,by repeat with_reducible exact Take.nil⟩);rintro _ _ ⟨v,rfl,⟨ad,fl,rfl,hh⟩,ht⟩)|(apply zD;exact rfl;exact rfl;(focus first|exact rfl);exact rfl;(focus exact⟨_,hN _,by repeat with_reducible exact Take.nil⟩);rintro _ _ ⟨rfl,rfl⟩)|(apply zD;exact rfl;exact rfl;(focus first|exact rfl);exact rfl;(focus exact⟨_,newSet_any _,by repeat with_reducible exact Take.nil⟩);rintro _ _ ⟨a,rfl,rfl⟩)|(apply zD;exact rfl;exact rfl;(focus first|exact rfl);exact rfl;(focus exact⟨_,NewEncoderT _,by repeat with_reducible exact Take.nil⟩);rintro _ _ ⟨n,rfl,rfl⟩)|(apply zS;exact rfl)|(apply yD;exact rfl;(focus first|omega))|apply zA|apply zI|apply zH|((with_reducible apply Sd.mk);first|exact True.intro)|((with_reducible apply Ln.mk);first|rfl)|((with_reducible apply Se.mk);first|(focus(repeat(first|exact SetAt.zero));done))|((with_reducible apply Pu.mk);first|exact yA rfl)|exact True.intro|intro A)
   all_goals first|contradiction|skip
   rename_i q0 s
   refine zZ (S:=Nat × SH) (fun x=>[(6,S (vnum l.length)),(8,gptr A 0 1),(9,WF s A),(29,.slice ad ps.length fl),(30,I ps.length),(31,I x.1)]) (fun x=>x.2)
    (fun x=>x.1≤ps.length∧EncT n (msB a (wrun (ps.take x.1) zs0).1 ((s,⟨setC a,false⟩)::(A,⟨[gptr n 0 3],false⟩)::q0)) none (wrun (ps.take x.1) zs0).2 x.2) (fun x=>ps.length-x.1)
    (0,(n,⟨encC (.slice none 0 0) 0 4294967295,false⟩)::msB a ms0 ((s,⟨setC a,false⟩)::(A,⟨[gptr n 0 3],false⟩)::q0)) ⟨Nat.zero_le _,.nil _ _ rfl⟩ (by repeat'(first|exact trivial|refine⟨rfl,?_⟩|refine⟨congrArg some ?_,?_⟩)) (by repeat with_reducible first|exact Take.nil|apply Take.c|apply Take.drop) ?_
   rintro⟨i,p⟩ ⟨hi,hb⟩
   dsimp only at hi hb ⊢
   have hok:=wrunT_ok hvp i
   obtain⟨pC,hpC⟩:∃p1,Pick p A ⟨[gptr n 0 3],false⟩ p1:=hb.pick (.tail (.tail (.tail (.tail (.tail (.tail (.tail (.tail (.tail .head)))))))))
   by_cases hil:i<ps.length
   ·obtain⟨A',ro,h1,rfl,hp⟩:=hh (by omega)
    obtain⟨pA,hpA⟩:=hb.pick (.tail (.tail (.tail (.tail (.tail (.tail (.tail (.tail (.tail (.tail hp))))))))))
    have hW:∀A2 b2,SRun Tryz.prog 41 [pcV ps[i]!,gptr s 0 4,gptr A 0 1] ((A2,b2)::p) fun r q=>r=.tuple #[]∧EncT n (msB a (wrun (ps.take (i+1)) zs0).1 ((s,⟨setC a,false⟩)::(A,⟨[gptr n 0 3],false⟩)::q0)) none (wrun (ps.take (i+1)) zs0).2 q:=fun A2 b2=>by
     rw[ztake_bang hil,wrun_snoc]
     exact(write_any a n s A _ _ _ ps[i]! q0 p hb hok.1 hok.2 (by omega) (hvp _ (bang_mem hil))).take (.drop .nil)
    repeat'(first|apply zF|apply zB|apply zE|(apply o_g zC;exact rfl;exact rfl)|(apply o_ar zC;exact rfl;exact rfl)|(apply yQ zC;(iterate 3 exact rfl);(focus exact pk))|(apply yE zC;(iterate 4 exact rfl);(focus exact⟨rfl⟩);(focus exact up))|(apply yG zC;iterate 5 exact rfl)|(apply zD;exact rfl;exact rfl;(focus first|exact rfl);exact rfl;(focus exact⟨_,hW _ _,by repeat with_reducible exact Take.nil⟩);rintro _ _ ⟨rfl,hb2⟩)|(apply yC;exact rfl;(focus first|omega))|apply zA|apply zG|apply zI|apply zH|((with_reducible apply Sd.mk);first|exact True.intro|omega)|((with_reducible apply Ln.mk);first|rfl|(simp ;first|done|omega))|((with_reducible apply Wr.mk);first|exact IntWalk.i64_in _ (by omega))|((with_reducible apply Pu.mk);first|exact yA rfl)|((with_reducible apply Su.mk);first|exact zQ|exact subAt_recZ (fun _=>rfl) (by omega))|exact True.intro|intro A|exact rfl)
    all_goals first
     |(exfalso;omega)
     |exact⟨(i+1,_),⟨hil,hb2⟩,by show ps.length-(i+1)<ps.length-i;omega,(by repeat'(first|exact trivial|refine⟨rfl,?_⟩|refine⟨congrArg some ?_,?_⟩)),Take.nil⟩
   ·obtain rfl:i=ps.length:=by omega
    rw[List.take_length]at hb hok
    have hs1:=vnum_len (n:=(l.length:Int)) (by omega)
    have hs2:=(vk_ok (n:=(l.length:Int)) (by omega)).2
    have hs3:(fin (wrun ps zs0).2).length=(wrun ps zs0).2.out.length+4:=by simp[fin,tail4]
    have hs4:=hok.2.out
    have hF:=Finish_any n (wrun ps zs0).2 p hb.b.r (by omega) hok.2.low
    generalize fin (wrun ps zs0).2=F at *
    repeat'(first|apply zF|apply zB|apply zE|(apply o_g zC;exact rfl;exact rfl)|(apply zM zC;(iterate 3 exact rfl);(focus exact pk))|(apply zD;exact rfl;exact rfl;(focus first|exact rfl);exact rfl;(focus exact⟨_,hF,by repeat with_reducible exact Take.nil⟩);rintro _ _ ⟨rfl,rfl⟩)|(apply yD;exact rfl;(focus first|omega))|apply zA|apply zK|apply zJ|apply zN|apply zV|((with_reducible apply Sd.mk);first|exact True.intro|omega)|((with_reducible apply Ln.mk);first|rfl)|((with_reducible apply Ce.mk);first|rfl)|exact True.intro|exact rfl)
    all_goals first
     |(exfalso;omega)
     |(apply zL;(exact(show ResS _ _ _ _ [_,_] from⟨rfl,⟨rfl,trivial⟩⟩));(focus exact⟨rfl,rfl⟩);(focus repeat(first|with_reducible exact Take.nil|exact hb.b.take.trans (.drop (.drop (.drop (.drop (.drop (.drop (.drop (.drop (.drop (.drop ht))))))))))|with_reducible apply Take.c|with_reducible apply Take.drop)))

theorem rdN_ok (l:List UInt8)(m:Int):(rdN l m).2.1.length≤l.length∧((rdN l m).2.2=0→0≤(rdN l m).1∧(rdN l m).1≤m):=by
 unfold rdN
 split
 ·exact⟨Nat.le_refl _,fun h=>absurd h (by show ¬(12:Int)=0;decide)⟩
 ·split
  ·exact⟨Nat.le_refl _,fun h=>absurd h (by show ¬(2:Int)=0;decide)⟩
  ·dsimp only
   rw[List.length_drop]
   omega

def ndecN :Nat→List Int→Dec→List Int × Dec
 |0,_,d=>([],d)
 |k+1,t,d=>((ndec t d).2.2::(ndecN k (ndec t d).1 (ndec t d).2.1).1,(ndecN k (ndec t d).1 (ndec t d).2.1).2)
theorem ndec_ok {t:List Int}{d:Dec}(h:DecOk d)(ht:t.length=64):DecOk (ndec t d).2.1∧(ndec t d).1.length=64:=by
 obtain⟨h1,h2,h3⟩:=tdec_ok (k:=6) (t:=t) (j:=1) h
 refine⟨?_,h2.trans ht⟩
 show DecOk (if _ then _ else _)
 split
 ·exact h1
 ·exact ddir_ok h1 _
def rdecN (l:List UInt8)(most:Int)(t:List Int):List Int × Int :=
 if(rdN l 4096).2.2≠0 then([],12)else if most<(rdN l 4096).1 then([],2)else if(rdN l 4096).1=0 then([],rend (rdN l 4096).2.1 0)
 else if dend (ndecN (rdN l 4096).1.toNat t (dnew (rdN l 4096).2.1)).2≠0 then([],dend (ndecN (rdN l 4096).1.toNat t (dnew (rdN l 4096).2.1)).2)
 else((ndecN (rdN l 4096).1.toNat t (dnew (rdN l 4096).2.1)).1,0)
def IsN (h:SH)(x:List Int × Int)(r:Value)(q:SH):Prop:=(x.1=[]∧r=.tuple #[.slice none 0 0,Er x.2]∧q=h) ∨
 (x.2=0∧∃A,r=.tuple #[gsl A 0 x.1.length x.1.length 1,Er 0]∧q=(A,⟨nodes x.1,false⟩)::h)
theorem decodeI_any (M N:Nat)(t:List Int)(l:List UInt8)(most:Int)(h:SH)(hl:l.length≤1000000)(ht:t.length=64) :
  SRun Tryz.prog 130 [.iface 94 (gptr M 0 2),S l,I 4096,I most] ((M,⟨numC N,false⟩)::(N,⟨nodes t,false⟩)::h) (IsN h (rdecN l most t)):=by
 have hR:=fun n h=>rNumber_any n l 4096 h hl
 have hok:=rdN_ok l 4096
 obtain⟨x,hx⟩:∃x,rdecN l most t=x:=⟨_,rfl⟩
 rw[hx]
 unfold rdecN at hx
 generalize rdN l 4096=V at *
 obtain⟨k,d,e⟩:=V
 dsimp only at *
 have hT:=fun n h=>rTake_any n d (d.length:Int) h (by omega) (by omega)
 rw[show((d.length:Int)).toNat=d.length from rfl,List.take_length,List.drop_length]at hT
 by_cases he:e=0
 case neg =>
  rw[if_pos he]at hx
  refine w_body4 Tryz.func130 rfl rfl ?_
  repeat'(first|apply zF|apply zB|apply zE|(apply o_g zC;exact rfl;exact rfl)|(apply zD;exact rfl;exact rfl;(focus first|exact rfl);exact rfl;(focus exact⟨_,yN _ _,by repeat with_reducible exact Take.nil⟩);rintro _ _ ⟨n,rfl,rfl⟩)|(apply zD;exact rfl;exact rfl;(focus first|exact rfl);exact rfl;(focus exact⟨_,hR _ _,by repeat with_reducible exact Take.nil⟩);rintro _ _ ⟨rfl,rfl⟩)|(apply zD;exact rfl;exact rfl;(focus first|exact rfl);exact rfl;(focus exact⟨_,rErr_any _ _ _ _,by repeat with_reducible exact Take.nil⟩);rintro _ _ ⟨rfl,rfl⟩)|(apply yC;exact rfl;(focus first|omega))|apply zA|apply zP|apply zN|((with_reducible apply Sd.mk);first|exact True.intro))
  all_goals first
   |contradiction
   |(apply zL;(exact(show ResS _ _ _ _ [_,_] from⟨rfl,⟨rfl,trivial⟩⟩));(focus exact .inl ⟨by rw[←hx],by rw[←hx];rfl,rfl⟩);(focus repeat with_reducible first|exact Take.nil|apply Take.c|apply Take.drop))
 subst he
 rw[if_neg (by decide)]at hx
 have hk:=hok.2 rfl
 by_cases h1:most<k
 case pos =>
  rw[if_pos h1]at hx
  refine w_body4 Tryz.func130 rfl rfl ?_
  repeat'(first|apply zF|apply zB|apply zE|(apply o_g zC;exact rfl;exact rfl)|(apply zD;exact rfl;exact rfl;(focus first|exact rfl);exact rfl;(focus exact⟨_,yN _ _,by repeat with_reducible exact Take.nil⟩);rintro _ _ ⟨n,rfl,rfl⟩)|(apply zD;exact rfl;exact rfl;(focus first|exact rfl);exact rfl;(focus exact⟨_,hR _ _,by repeat with_reducible exact Take.nil⟩);rintro _ _ ⟨rfl,rfl⟩)|(apply zD;exact rfl;exact rfl;(focus first|exact rfl);exact rfl;(focus exact⟨_,rErr_any _ _ _ _,by repeat with_reducible exact Take.nil⟩);rintro _ _ ⟨rfl,rfl⟩)|(apply zS;exact rfl)|(apply yC;exact rfl;(focus first|omega))|apply zA|apply zP|apply zI|apply zN|((with_reducible apply Sd.mk);first|exact True.intro))
  all_goals first
   |contradiction
   |(apply zL;(exact(show ResS _ _ _ _ [_,_] from⟨rfl,⟨rfl,trivial⟩⟩));(focus exact .inl ⟨by rw[←hx],by rw[←hx];rfl,rfl⟩);(focus repeat with_reducible first|exact Take.nil|apply Take.c|apply Take.drop))
 rw[if_neg h1]at hx
 by_cases h2:k=0
 case pos =>
  rw[if_pos h2]at hx
  refine w_body4 Tryz.func130 rfl rfl ?_
  repeat'(first|apply zF|apply zB|apply zE|(apply o_g zC;exact rfl;exact rfl)|(apply zD;exact rfl;exact rfl;(focus first|exact rfl);exact rfl;(focus exact⟨_,yN _ _,by repeat with_reducible exact Take.nil⟩);rintro _ _ ⟨n,rfl,rfl⟩)|(apply zD;exact rfl;exact rfl;(focus first|exact rfl);exact rfl;(focus exact⟨_,hR _ _,by repeat with_reducible exact Take.nil⟩);rintro _ _ ⟨rfl,rfl⟩)|(apply zD;exact rfl;exact rfl;(focus first|exact rfl);exact rfl;(focus exact⟨_,rErr_any _ _ _ _,by repeat with_reducible exact Take.nil⟩);rintro _ _ ⟨rfl,rfl⟩)|(apply zD;exact rfl;exact rfl;(focus first|exact rfl);exact rfl;(focus exact⟨_,vEnd_any _ _ _ _,by repeat with_reducible exact Take.nil⟩);rintro _ _ ⟨rfl,rfl⟩)|(apply zS;exact rfl)|(apply yC;exact rfl;(focus first|omega))|(apply yD;exact rfl;(focus first|omega))|apply zA|apply zP|apply zI|apply zN|((with_reducible apply Sd.mk);first|exact True.intro))
  all_goals first
   |contradiction
   |(apply zL;(exact(show ResS _ _ _ _ [_,_] from⟨rfl,⟨rfl,trivial⟩⟩));(focus exact .inl ⟨by rw[←hx],by rw[←hx];rfl,rfl⟩);(focus repeat with_reducible first|exact Take.nil|apply Take.c|apply Take.drop))
 rw[if_neg h2]at hx
 obtain⟨m,rfl⟩:=Int.eq_ofNat_of_zero_le hk.1
 rw[Int.toNat_natCast]at hx
 have hzr:zrow (Value.int IntKind.i64 0) (((m:Int)).toNat*1)=nodes (List.replicate m 0):=by
  rw[Int.toNat_natCast];exact map_zrow (f:=iV) 0 rfl rfl _
 refine w_body4 Tryz.func130 rfl rfl ?_
 repeat'(first|apply zF|apply zB|apply zE|(apply o_g zC;exact rfl;exact rfl)|(apply o_makeSlice zC;(iterate 6 exact rfl);(focus decide);(focus first|omega);(focus first|rfl);exact rfl)|(apply zD;exact rfl;exact rfl;(focus first|exact rfl);exact rfl;(focus exact⟨_,yN _ _,by repeat with_reducible exact Take.nil⟩);rintro _ _ ⟨n,rfl,rfl⟩)|(apply zD;exact rfl;exact rfl;(focus first|exact rfl);exact rfl;(focus exact⟨_,hR _ _,by repeat with_reducible exact Take.nil⟩);rintro _ _ ⟨rfl,rfl⟩)|(apply zD;exact rfl;exact rfl;(focus first|exact rfl);exact rfl;(focus exact⟨_,rErr_any _ _ _ _,by repeat with_reducible exact Take.nil⟩);rintro _ _ ⟨rfl,rfl⟩)|(apply zD;exact rfl;exact rfl;(focus first|exact rfl);exact rfl;(focus exact⟨_,rLeft_any _ _ _ _,by repeat with_reducible exact Take.nil⟩);rintro _ _ ⟨rfl,rfl⟩)|(apply zD;exact rfl;exact rfl;(focus first|exact rfl);exact rfl;(focus exact⟨_,hT _ _,by repeat with_reducible exact Take.nil⟩);rintro _ _ ⟨rfl,rfl⟩)|(apply zD;exact rfl;exact rfl;(focus first|exact rfl);exact rfl;(focus exact⟨_,NewDecoder_any _ _ (by omega),by repeat with_reducible exact Take.nil⟩);rintro _ _ ⟨n2,rfl,rfl⟩)|(apply zS;exact rfl)|(apply yD;exact rfl;(focus first|omega))|apply zA|apply zI|apply zH|((with_reducible apply Sd.mk);first|exact True.intro)|intro A)
 rw[hzr,Int.toNat_natCast]
 refine zZ (S:=Nat × List Int × List Int × Dec) (fun x=>[(0,.iface 94 (gptr M 0 2)),(12,gptr n2 0 5),(13,gsl A 0 (m*1) m 1),(39,I m),(40,I x.1)])
  (fun x=>(A,⟨nodes x.2.1,false⟩)::decB n2 x.2.2.2::(M,⟨numC N,false⟩)::(N,⟨nodes x.2.2.1,false⟩)::h)
  (fun x=>x.1≤m∧x.2.1.length=m∧x.2.2.1.length=64∧DecOk x.2.2.2∧(x.2.1.take x.1++(ndecN (m-x.1) x.2.2.1 x.2.2.2).1,(ndecN (m-x.1) x.2.2.1 x.2.2.2).2)=ndecN m t (dnew d))
  (fun x=>m-x.1) (0,List.replicate m 0,t,dnew d) ⟨Nat.zero_le _,List.length_replicate,ht,dnew_ok (by omega),rfl⟩ (by repeat'(first|exact trivial|refine⟨rfl,?_⟩|refine⟨congrArg some ?_,?_⟩)) (by repeat with_reducible first|exact Take.nil|apply Take.c|apply Take.drop) ?_
 rintro⟨i,L,t1,d1⟩ ⟨hi,hL,ht1,hok1,he⟩
 dsimp only at hi hL ht1 hok1 he ⊢
 by_cases him:i<m
 ·have hb:=ndec_ok (t:=t1) hok1 ht1
  have hD:=NumDecode_any n2 M N t1 d1 ((A,⟨nodes L,false⟩)::h) ht1 hok1
  rw[show m-i=(m-(i+1))+1 by omega]at he
  rw[show ∀k,ndecN (k+1) t1 d1=((ndec t1 d1).2.2::(ndecN k (ndec t1 d1).1 (ndec t1 d1).2.1).1,(ndecN k (ndec t1 d1).1 (ndec t1 d1).2.1).2)from fun _=>rfl]at he
  generalize ndec t1 d1=B at *
  obtain⟨t2,d2,c2⟩:=B
  dsimp only at he hD hb
  repeat'(first|apply zF|apply zB|apply zE|(apply o_g zC;exact rfl;exact rfl)|(apply o_ar zC;exact rfl;exact rfl)|(apply zX zC;(iterate 4 exact rfl);(focus exact up))|(apply o_invoke;(iterate 3 exact rfl);(focus exact⟨_,hD,by repeat with_reducible first|exact Take.nil|apply Take.c⟩);(focus kernel_rfl);exact rfl;rintro _ _ ⟨rfl,rfl⟩)|(apply yC;exact rfl;(focus first|omega))|apply zA|apply zG|apply zI|apply zH|((with_reducible apply Sd.mk);first|exact True.intro|omega)|((with_reducible apply Ln.mk);first|(simp ;first|done|omega))|((with_reducible apply Wr.mk);first|exact IntWalk.i64_in _ (by omega))|((with_reducible apply Se.mk);first|exact setAt_mapZ (by omega))|exact True.intro)
  all_goals first
   |(exfalso;omega)
   |(refine⟨(i+1,L.set i c2,t2,d2),⟨him,by simp[hL],hb.2,hb.1,?_⟩,by show m-(i+1)<m-i;omega,(by repeat'(first|exact trivial|refine⟨rfl,?_⟩|refine⟨congrArg some ?_,?_⟩)),(by repeat with_reducible first|exact Take.nil|apply Take.c|apply Take.drop)⟩
     dsimp only
     rw[take_set (by omega),List.append_assoc]
     exact he)
 ·obtain rfl:i=m:=by omega
  rw[Nat.sub_self,List.take_of_length_le (by omega)]at he
  have he:(L++[],d1)=ndecN i t (dnew d):=he
  rw[List.append_nil]at he
  rw[←he]at hx
  dsimp only at hx
  by_cases h3:dend d1=0
  ·rw[if_neg (fun g=>g h3)]at hx
   repeat'(first|apply zF|apply zB|apply zE|(apply o_g zC;exact rfl;exact rfl)|(apply zD;exact rfl;exact rfl;(focus first|exact rfl);exact rfl;(focus exact⟨_,End_any _ _ _,by repeat with_reducible first|exact Take.nil|apply Take.c⟩);rintro _ _ ⟨rfl,rfl⟩)|(apply yD;exact rfl;(focus first|omega))|apply zA|apply zK|apply zJ|apply zI|apply zN|apply zV|((with_reducible apply Sd.mk);first|exact True.intro))
   all_goals try contradiction
   subst hx hL
   (apply zL;(exact(show ResS _ _ _ _ [_,_] from⟨rfl,⟨rfl,trivial⟩⟩));(focus exact .inr ⟨rfl,A,by rw[Nat.mul_one];rfl,rfl⟩);(focus repeat with_reducible first|exact Take.nil|apply Take.c|apply Take.drop))
  ·rw[if_pos h3]at hx
   repeat'(first|apply zF|apply zB|apply zE|(apply o_g zC;exact rfl;exact rfl)|(apply zD;exact rfl;exact rfl;(focus first|exact rfl);exact rfl;(focus exact⟨_,End_any _ _ _,by repeat with_reducible first|exact Take.nil|apply Take.c⟩);rintro _ _ ⟨rfl,rfl⟩)|(apply yC;exact rfl;(focus first|exact ‹_›))|(apply yD;exact rfl;(focus first|omega))|apply zA|apply zP|apply zK|apply zJ|apply zN|apply zV|((with_reducible apply Sd.mk);first|exact True.intro))
   all_goals first
    |contradiction
    |(apply zL;(exact(show ResS _ _ _ _ [_,_] from⟨rfl,⟨rfl,trivial⟩⟩));(focus exact .inl ⟨by rw[←hx],by rw[←hx];rfl,rfl⟩);(focus repeat with_reducible first|exact Take.nil|apply Take.c|apply Take.drop))
theorem ndecN_len :∀(k:Nat) (t:List Int) (d:Dec),(ndecN k t d).1.length=k
 |0,_,_=>rfl
 |k+1,t,d=>by
  show((ndec t d).2.2::(ndecN k (ndec t d).1 (ndec t d).2.1).1).length=k+1
  rw[List.length_cons,ndecN_len k]
theorem rdecN_len (l:List UInt8)(most:Int)(t:List Int):(rdecN l most t).1.length≤4096:=by
 have:=(rdN_ok l 4096).2
 unfold rdecN
 split
 ·exact Nat.zero_le _
 ·rename_i h
  split
  ·exact Nat.zero_le _
  ·split
   ·exact Nat.zero_le _
   ·split
    ·exact Nat.zero_le _
    ·show(ndecN _ _ _).1.length≤4096
     rw[ndecN_len]
     have:=this (Classical.not_not.1 h)
     omega
def mDecN (l:List UInt8)(most:Int):List Int × Int :=
 if ∀z∈(rdecN l most (List.replicate 64 1024)).1,0≤z then rdecN l most (List.replicate 64 1024)else([],12)
theorem DecodeNumbers_any (l:List UInt8)(most:Int)(h:SH)(hl:l.length≤1000000):SRun Tryz.prog 97 [S l,I most] h (IsN h (mDecN l most)):=by
 have hB:∀h,SRun Tryz.prog 75 [] h fun r q=>∃M N,r=gptr M 0 2∧q=(M,⟨numC N,false⟩)::(N,⟨nodes (List.replicate 64 1024),false⟩)::h:=NewNumbers_any
 have hE:=fun M N h=>decodeI_any M N (List.replicate 64 1024) l most h hl List.length_replicate
 obtain⟨x,hx⟩:∃x,mDecN l most=x:=⟨_,rfl⟩
 rw[hx]
 unfold mDecN at hx
 have hlen:=rdecN_len l most (List.replicate 64 1024)
 generalize rdecN l most (List.replicate 64 1024)=R at *
 generalize (List.replicate 64 1024:List Int)=X at *
 refine zY Tryz.func97 rfl rfl ?_
 repeat'(first|apply zF|apply zB|apply zE|(apply o_g zC;exact rfl;exact rfl)|(apply zD;exact rfl;exact rfl;(focus first|exact rfl);exact rfl;(focus exact⟨_,hB _,by repeat with_reducible exact Take.nil⟩);rintro _ _ ⟨M,N,rfl,rfl⟩)|apply zA|((with_reducible apply Sd.mk);first|exact True.intro))
 all_goals first|(exfalso;omega)|skip
 refine o_iface (d:=.pointer 149) rfl (by kernel_rfl) rfl rfl ?_
 repeat'(first|(apply o_g zC;exact rfl;exact rfl)|(apply zD;exact rfl;exact rfl;(focus first|exact rfl);exact rfl;(focus exact⟨_,hE M N _,by repeat with_reducible exact Take.nil⟩);rintro _ _ hh)|((with_reducible apply Sd.mk);first|exact True.intro))
 obtain⟨e1,rfl,rfl⟩|⟨e1,A,rfl,rfl⟩:=hh
 ·rename_i q0
  rw[e1,if_pos (fun _ g=>absurd g List.not_mem_nil)]at hx
  repeat'(first|apply zF|apply zB|apply zE|(apply o_g zC;exact rfl;exact rfl)|apply zA|apply zH|((with_reducible apply Sd.mk);first|exact True.intro))
  refine zZ (S:=Unit) (fun _=>[(6,.slice none 0 0),(7,Er R.2),(18,.slice none 0 0),(19,I 0),(20,I 0)]) (fun _=>q0) (fun _=>True) (fun _=>0) () trivial (by repeat'(first|exact trivial|refine⟨rfl,?_⟩|refine⟨congrArg some ?_,?_⟩)) (by repeat with_reducible first|exact Take.nil|apply Take.c|apply Take.drop) ?_
  rintro - -
  repeat'(first|apply zF|apply zB|apply zE|(apply o_g zC;exact rfl;exact rfl)|(apply zS;exact rfl)|apply zA|apply zK|apply zJ|apply zN|apply zV|((with_reducible apply Sd.mk);first|exact True.intro))
  all_goals first
   |(exfalso;omega)
   |(apply zL;(exact(show ResS _ _ _ _ [_,_] from⟨rfl,⟨rfl,trivial⟩⟩));(focus exact .inl ⟨by rw[←hx];exact e1,by rw[←hx];rfl,rfl⟩);(focus repeat with_reducible first|exact Take.nil|apply Take.c|apply Take.drop))
 ·obtain⟨L,e⟩:=R
  dsimp only at e1 hx hlen ⊢
  subst e1
  have hlb:(nodes L).length=L.length:=by simp
  repeat'(first|apply zF|apply zB|apply zE|(apply o_g zC;exact rfl;exact rfl)|apply zA|apply zH|((with_reducible apply Sd.mk);first|exact True.intro))
  refine zZ (S:=Nat) (fun i=>[(6,gsl A 0 L.length L.length 1),(7,Er 0),(18,gsl A 0 L.length L.length 1),(19,I L.length),(20,I i)]) (fun _=>(A,⟨nodes L,false⟩)::h)
   (fun i=>i≤L.length∧∀j,j<i→0≤L[j]!) (fun i=>L.length-i) 0 ⟨Nat.zero_le _,fun j hj=>absurd hj (Nat.not_lt_zero _)⟩ (by repeat'(first|exact trivial|refine⟨rfl,?_⟩|refine⟨congrArg some ?_,?_⟩)) (by repeat with_reducible first|exact Take.nil|apply Take.c|apply Take.drop) ?_
  rintro i ⟨hi,hall⟩
  by_cases hil:i<L.length
  ·obtain⟨z,hz⟩:∃z,z=L[i]!:=⟨_,rfl⟩
   have hcl:(nodes L)[0+((i:Int)).toNat*1]?=some (I z):=by rw[hz];exact yM hil
   by_cases hz0:z<0
   ·rw[if_neg (fun g=>by have:=g z (by rw[hz];exact ibang_mem hil);omega)]at hx
    repeat'(first|apply zF|apply zB|apply zE|(apply o_g zC;exact rfl;exact rfl)|(apply zM zC;(iterate 3 exact rfl);(focus exact pk))|(apply yC;exact rfl;(focus first|exact ‹_›|omega))|apply zA|apply zP|apply yP|apply zI|apply zN|apply zH|((with_reducible apply Sd.mk);first|exact True.intro|omega)|((with_reducible apply Ln.mk);first|omega)|((with_reducible apply Ce.mk);first|exact hcl)|exact True.intro|exact rfl)
    all_goals first
     |(exfalso;omega)
     |(apply zL;(exact(show ResS _ _ _ _ [_,_] from⟨rfl,⟨rfl,trivial⟩⟩));(focus exact .inl ⟨by rw[←hx],by rw[←hx];rfl,rfl⟩);(focus repeat with_reducible first|exact Take.nil|apply Take.c|apply Take.drop))
   ·repeat'(first|apply zF|apply zB|apply zE|(apply o_g zC;exact rfl;exact rfl)|(apply o_ar zC;exact rfl;exact rfl)|(apply zM zC;(iterate 3 exact rfl);(focus exact pk))|(apply yC;exact rfl;(focus first|omega))|(apply yD;exact rfl;(focus first|exact ‹_›))|apply zA|apply zG|apply zI|apply zH|((with_reducible apply Sd.mk);first|exact True.intro|omega)|((with_reducible apply Ln.mk);first|omega)|((with_reducible apply Wr.mk);first|exact IntWalk.i64_in _ (by omega))|((with_reducible apply Ce.mk);first|exact hcl)|exact True.intro|exact rfl)
    all_goals first
     |(exfalso;omega)
     |exact⟨i+1,⟨hil,fun j hj=>by
       by_cases e:j=i
       ·rw[e,←hz];omega
       ·exact hall j (by omega)⟩,by show L.length-(i+1)<L.length-i;omega,(by repeat'(first|exact trivial|refine⟨rfl,?_⟩|refine⟨congrArg some ?_,?_⟩)),(by repeat with_reducible first|exact Take.nil|apply Take.c|apply Take.drop)⟩
  ·obtain rfl:i=L.length:=by omega
   rw[if_pos (fun z hz=>by
    obtain⟨j,hj,e⟩:=List.mem_iff_getElem.1 hz
    have:=hall j hj
    rwa [getElem!_pos L j hj,e]at this)]at hx
   subst hx
   repeat'(first|apply zF|apply zB|apply zE|(apply o_g zC;exact rfl;exact rfl)|(apply yD;exact rfl;(focus first|omega))|apply zA|apply zK|apply zJ|apply zN|apply zV|((with_reducible apply Sd.mk);first|exact True.intro))
   all_goals first
    |(exfalso;omega)
    |(apply zL;(exact(show ResS _ _ _ _ [_,_] from⟨rfl,⟨rfl,trivial⟩⟩));(focus exact .inr ⟨rfl,A,rfl,rfl⟩);(focus repeat with_reducible first|exact Take.nil|apply Take.c|apply Take.drop))

structure Rd1 where
 x:Ms
 d:Dec
 lit:Bool
 t:Pc
def zrd (x:Ms)(d:Dec):Rd1 :=
 if(tdec 1 x.K d 1).2.2=2 then
  ⟨{ x with K:=(tdec 1 x.K d 1).1,P:=(bdec x.P x.c (tdec 1 x.K d 1).2.1).1,c:=(bdec x.P x.c (tdec 1 x.K d 1).2.1).2.2 },(bdec x.P x.c (tdec 1 x.K d 1).2.1).2.1,true,(1,0,(bdec x.P x.c (tdec 1 x.K d 1).2.1).2.2)⟩
 else
  ⟨{ x with K:=(tdec 1 x.K d 1).1,L:=(ndec x.L (tdec 1 x.K d 1).2.1).1,D:=(ndec x.D (ndec x.L (tdec 1 x.K d 1).2.1).2.1).1 },(ndec x.D (ndec x.L (tdec 1 x.K d 1).2.1).2.1).2.1,false,
   ((ndec x.L (tdec 1 x.K d 1).2.1).2.2+2,(ndec x.D (ndec x.L (tdec 1 x.K d 1).2.1).2.1).2.2+1,0)⟩
abbrev okC (n:Nat)(o:List UInt8)(t:Pc):Prop:=2≤t.1∧t.1≤273∧t.1+o.length≤n∧1≤t.2.1∧t.2.1≤o.length
def rdP (n:Nat):Nat→Ms→Dec→List UInt8→Option (List Pc × Dec)
 |0,_,d,_=>some ([],d)
 |f+1,x,d,o=>if o.length<n then
   (if(zrd x d).lit=true∨okC n o (zrd x d).t then(rdP n f (zrd x d).x (zrd x d).d (estp o (zrd x d).t)).map fun r=>((zrd x d).t::r.1,r.2)else none)
  else some ([],d)
def exps (ps:List Pc)(o:List UInt8):List UInt8:=ps.foldl estp o
def lzR (D:List UInt8)(n:Nat):List UInt8 × Bool:=match rdP n n ms0 (dnew D) []with
 |some r=>(exps r.1 [],true)
 |none=>([],false)
theorem rstp_ok {x:Ms}{d:Dec}(hx:MsOk x)(hd:DecOk d):MsOk (zrd x d).x∧DecOk (zrd x d).d∧((zrd x d).lit=true→(zrd x d).t.1=1∧(zrd x d).t.2.1=0∧0≤(zrd x d).t.2.2∧(zrd x d).t.2.2≤255)∧((zrd x d).lit=false→(zrd x d).t.2.2=0):=by
 obtain⟨h1,h2,_⟩:=tdec_ok (k:=1) (t:=x.K) (j:=1) hd
 unfold zrd
 split
 ·obtain⟨g1,g2,g3⟩:=bdec_ok (P:=x.P) (c:=x.c) h1 hx.P hx.c
  exact⟨⟨h2.trans hx.K,g2,g3,hx.L,hx.D⟩,g1,fun _=>⟨rfl,rfl,g3⟩,fun g=>(by cases g)⟩
 ·obtain⟨g1,g2⟩:=ndec_ok (t:=x.L) h1 hx.L
  obtain⟨k1,k2⟩:=ndec_ok (t:=x.D) g1 hx.D
  exact⟨⟨h2.trans hx.K,hx.P,hx.c,g2,k2⟩,k1,fun g=>(by cases g),fun _=>rfl⟩
theorem rdP_go {n f:Nat}{x:Ms}{d:Dec}{o:List UInt8}(h:o.length<n)(hf:n-o.length≤f):∃f',f=f'+1∧rdP n f x d o=(if(zrd x d).lit=true∨okC n o (zrd x d).t then(rdP n f' (zrd x d).x (zrd x d).d (estp o (zrd x d).t)).map fun r=>((zrd x d).t::r.1,r.2)else none):=by
 cases f with
 |zero=>omega
 |succ f=>exact⟨f,rfl,if_pos h⟩
theorem rdP_end {n f:Nat}{x:Ms}{d:Dec}{o:List UInt8}(h:¬o.length<n):rdP n f x d o=some ([],d):=by
 cases f with
 |zero=>rfl
 |succ f=>exact if_neg h
inductive OR (a:Mad)(s nd:Nat)(x:Ms)(d:Dec)(h:SH):List UInt8→Value→SH→Prop
 |nil:OR a s nd x d h [] (.slice none 0 0) (decB nd d::msB a x ((s,⟨setC a,false⟩)::h))
 |some (A:Nat) (o:List UInt8):OR a s nd x d h o (gsl A 0 o.length o.length 1) (decB nd d::msB a x ((A,⟨bytesV o,false⟩)::(s,⟨setC a,false⟩)::h))
def outR (o:List UInt8)(r:Option (List Pc × Dec)):List UInt8 × Bool:=match r with
 |some r=>(exps r.1 o,true)
 |none=>([],false)
theorem outR_map {o:List UInt8}{t:Pc}{r:Option (List Pc × Dec)}:outR o (r.map fun r=>(t::r.1,r.2))=outR (estp o t) r:=by cases r <;> rfl
theorem rstp_lit {x:Ms}{d d1 d2:Dec}{K1 P2:List Int}{c2:Int}(h1:tdec 1 x.K d 1=(K1,d1,2))(h2:bdec x.P x.c d1=(P2,d2,c2)):zrd x d=⟨⟨K1,P2,c2,x.L,x.D⟩,d2,true,(1,0,c2)⟩:=by
 unfold zrd
 rw[h1]
 dsimp only
 rw[if_pos rfl,h2]
theorem rstp_cpy {x:Ms}{d d1 d2 d3:Dec}{j:Nat}{K1 L2 D3:List Int}{l2 dd:Int}(h1:tdec 1 x.K d 1=(K1,d1,j))(hj:j≠2)(h2:ndec x.L d1=(L2,d2,l2))(h3:ndec x.D d2=(D3,d3,dd)):zrd x d=⟨⟨K1,x.P,x.c,L2,D3⟩,d3,false,(l2+2,dd+1,0)⟩:=by
 unfold zrd
 rw[h1]
 dsimp only
 rw[if_neg hj,h2]
 dsimp only
 rw[h3]
theorem lzread_any (l:List UInt8)(n:Nat)(h:SH)(hl:l.length≤1000000)(hn:n≤4096) :
  SRun Tryz.prog 49 [S l,I n] h fun r q=>r=.tuple #[S (lzR l n).1,B (lzR l n).2]∧q=h:=by
 obtain⟨R,hR⟩:∃R,R=lzR l n:=⟨_,rfl⟩
 rw[←hR]
 have hR:outR [] (rdP n n ms0 (dnew l) [])=R:=hR.symm
 have hd0:=dnew_ok (l:=l) (by omega)
 have hND:∀h,SRun Tryz.prog 81 [S l] h fun r q=>∃n,r=gptr n 0 5∧q=decB n (dnew l)::h:=fun h=>NewDecoder_any l h (by omega)
 have hNS:∀h,SRun Tryz.prog 39 [] h fun r q=>∃a:Mad,r=.agg ⟨setC a⟩∧q=msB a ms0 h:=newSet_any
 have hm0:=ms0_ok
 generalize ms0=x0 at hR hm0 hNS
 generalize dnew l=d0 at hR hd0 hND
 refine zY Tryz.func49 rfl rfl ?_
 repeat'(first|apply zF|apply zB|apply zE|(apply o_g zC;exact rfl;exact rfl)|(apply yE zC;(iterate 4 exact rfl);(focus exact⟨rfl⟩);(focus exact up))|(apply yG zC;iterate 5 exact rfl)|(apply zD;exact rfl;exact rfl;(focus first|exact rfl);exact rfl;(focus exact⟨_,hNS _,by repeat with_reducible exact Take.nil⟩);rintro _ _ ⟨a,rfl,rfl⟩)|(apply zD;exact rfl;exact rfl;(focus first|exact rfl);exact rfl;(focus exact⟨_,hND _,by repeat with_reducible exact Take.nil⟩);rintro _ _ ⟨nd,rfl,rfl⟩)|apply zA|apply zH|((with_reducible apply Sd.mk);first|exact True.intro)|((with_reducible apply Ln.mk);first|rfl)|((with_reducible apply Pu.mk);first|exact yA rfl)|exact True.intro|intro A)
 obtain⟨s,rfl⟩:∃s,s=A:=⟨_,rfl⟩
 refine zZ (S:=Nat × Ms × Dec × List UInt8 × Value × SH) (fun y=>[(1,I n),(6,gptr s 0 4),(7,gptr nd 0 5),(8,y.2.2.2.2.1)]) (fun y=>y.2.2.2.2.2)
  (fun y=>n-y.2.2.2.1.length≤y.1∧MsOk y.2.1∧DecOk y.2.2.1∧y.2.2.2.1.length≤n∧OR a s nd y.2.1 y.2.2.1 h y.2.2.2.1 y.2.2.2.2.1 y.2.2.2.2.2∧outR y.2.2.2.1 (rdP n y.1 y.2.1 y.2.2.1 y.2.2.2.1)=R) (fun y=>y.1)
  (n,x0,d0,[],.slice none 0 0,decB nd d0::msB a x0 ((s,⟨setC a,false⟩)::h)) ⟨Nat.sub_le _ _,hm0,hd0,Nat.zero_le _,.nil,hR⟩ (by repeat'(first|exact trivial|refine⟨rfl,?_⟩|refine⟨congrArg some ?_,?_⟩)) (by repeat with_reducible first|exact Take.nil|apply Take.c|apply Take.drop) ?_
 rintro⟨f,x,d,o,w,p⟩ ⟨hf,hx,hd,ho,hb,he⟩
 dsimp only at hf hx hd ho hb he ⊢
 by_cases hlt:o.length<n
 ·obtain⟨f',rfl,e⟩:=rdP_go (x:=x) (d:=d) hlt hf
  rw[e]at he
  clear e
  have hrs:=rstp_ok hx hd
  have hK:=fun h=>kDecW a nd x d h hx hd
  obtain⟨h1,h2,h3⟩:=tdec_ok (k:=1) (t:=x.K) (j:=1) hd
  obtain⟨⟨K1,d1,j⟩,hT⟩:∃T,tdec 1 x.K d 1=T:=⟨_,rfl⟩
  rw[hT]at hK h1 h2 h3
  dsimp only at hK h1 h2 h3
  have h2':=h2.trans hx.K
  by_cases hj:j=2
  ·subst hj
   have hB:=fun h=>bDecW a nd { x with K:=K1 } d1 h ⟨h2',hx.P,hx.c,hx.L,hx.D⟩ h1
   obtain⟨⟨P2,d2,c2⟩,hV⟩:∃V,bdec x.P x.c d1=V:=⟨_,rfl⟩
   dsimp only at hB
   rw[hV]at hB
   dsimp only at hB
   rw[rstp_lit hT hV]at he hrs
   dsimp only at he hrs
   rw[if_pos (.inl rfl),outR_map,estp_lit o rfl]at he
   have hc2:=(hrs.2.2.1 rfl).2.2
   dsimp only at hc2 he
   cases hb with
   |nil =>
    repeat'(first|apply zF|apply zB|apply zE|(apply o_g zC;exact rfl;exact rfl)|(apply zM zC;(iterate 3 exact rfl);(focus exact pk))|(apply zT zC;(iterate 5 exact rfl);(focus decide);exact rfl;(focus decide);(focus repeat(first|exact CatR.nil|(apply CatR.one;exact rfl;exact rfl)));exact rfl)|(apply o_append_nil zC;(iterate 5 exact rfl);(focus exact⟨by decide⟩);(focus exact pk))|(apply zD;exact rfl;exact rfl;(focus first|exact rfl);exact rfl;(focus exact⟨_,hK _,by repeat with_reducible exact Take.nil⟩);rintro _ _ ⟨rfl,rfl⟩)|(apply zD;exact rfl;exact rfl;(focus first|exact rfl);exact rfl;(focus exact⟨_,hB _,by repeat with_reducible exact Take.nil⟩);rintro _ _ ⟨rfl,rfl⟩)|(apply yB;exact rfl)|(apply yC;exact rfl;(focus first|omega))|apply zA|apply zK|apply zJ|apply zI|apply zV|apply zH|((with_reducible apply Sd.mk);first|exact True.intro|(constructor <;> first|omega|(unfold maxLen;omega)))|((with_reducible apply Ln.mk);first|rfl)|((with_reducible apply Ce.mk);first|rfl)|((with_reducible apply Su.mk);first|exact zQ)|exact True.intro|intro A|exact rfl)
    all_goals first
     |(exfalso;omega)
     |skip
    all_goals (rw[show Y c2=byteV (byt c2)from byteV_byt hc2];exact⟨(f',⟨K1,P2,c2,x.L,x.D⟩,d2,[byt c2],gsl A 0 1 1 1,decB nd d2::msB a ⟨K1,P2,c2,x.L,x.D⟩ ((A,⟨bytesV [byt c2],false⟩)::(s,⟨setC a,false⟩)::h)),⟨by show n-1≤f';simp only[List.length_nil]at hf;omega,hrs.1,hrs.2.1,by show 1≤n;omega,  .some A [byt c2],he⟩,by show f'<f'+1;omega,(by repeat'(first|exact trivial|refine⟨rfl,?_⟩|refine⟨congrArg some ?_,?_⟩)),(by repeat with_reducible first|exact Take.nil|apply Take.c|apply Take.drop)⟩)
   |some A0 o =>
    repeat'(first|apply zF|apply zB|apply zE|(apply o_g zC;exact rfl;exact rfl)|(apply zM zC;(iterate 3 exact rfl);(focus exact pk))|(apply zT zC;(iterate 5 exact rfl);(focus decide);exact rfl;(focus decide);(focus repeat(first|exact CatR.nil|(apply CatR.one;exact rfl;exact rfl)));exact rfl)|(apply o_append zC;(iterate 5 exact rfl);(focus exact⟨by decide⟩);(focus exact up);(focus exact pk))|(apply zD;exact rfl;exact rfl;(focus first|exact rfl);exact rfl;(focus exact⟨_,hK _,by repeat with_reducible exact Take.nil⟩);rintro _ _ ⟨rfl,rfl⟩)|(apply zD;exact rfl;exact rfl;(focus first|exact rfl);exact rfl;(focus exact⟨_,hB _,by repeat with_reducible exact Take.nil⟩);rintro _ _ ⟨rfl,rfl⟩)|(apply yB;exact rfl)|(apply yC;exact rfl;(focus first|omega))|apply zA|apply zK|apply zJ|apply zI|apply zV|apply zH|((with_reducible apply Sd.mk);first|exact True.intro|(constructor <;> first|omega|(unfold maxLen;omega)))|((with_reducible apply Ln.mk);first|rfl|omega|(simp ;first|done|omega))|((with_reducible apply Ce.mk);first|rfl)|((with_reducible apply Su.mk);first|exact zQ)|exact True.intro|intro A|exact rfl)
    all_goals first
     |(exfalso;omega)
     |skip
    all_goals
     (rw[show Y c2=byteV (byt c2)from byteV_byt hc2]
      exact⟨(f',⟨K1,P2,c2,x.L,x.D⟩,d2,o++[byt c2],gsl A0 0 (o++[byt c2]).length (o++[byt c2]).length 1,decB nd d2::msB a ⟨K1,P2,c2,x.L,x.D⟩ ((A0,⟨bytesV (o++[byt c2]),false⟩)::(s,⟨setC a,false⟩)::h)),⟨by show n-(o++[byt c2]).length≤f';rw[List.length_append,List.length_singleton];omega,hrs.1,hrs.2.1,by show(o++[byt c2]).length≤n;rw[List.length_append,List.length_singleton];omega,.some A0 (o++[byt c2]),he⟩,by show f'<f'+1;omega,
        ⟨rfl,rfl,rfl,congrArg some (gslE rfl rfl (by simp) (by simp) rfl),trivial⟩,(by repeat(first|with_reducible exact Take.nil|with_reducible apply Take.c|((with_reducible apply Take.cE);first|exact rfl|(apply blkE;(focus first|exact rfl|exact yI rfl|exact yO rfl|exact congrArg (fun v=>[v]) (gslE rfl rfl (by first|rfl|exact ‹_›|omega|(simp ;first|done|omega)) (by first|rfl|exact ‹_›|omega|(simp ;first|done|omega)) rfl))))|with_reducible apply Take.drop))⟩)
  ·have hx1:MsOk { x with K:=K1 }:=⟨h2',hx.P,hx.c,hx.L,hx.D⟩
   have hL:=fun h=>lDecW a nd { x with K:=K1 } d1 h hx1 h1
   obtain⟨⟨L2,d2,l2⟩,hV⟩:∃V,ndec x.L d1=V:=⟨_,rfl⟩
   have okL:=ndec_ok (t:=x.L) h1 hx.L
   dsimp only at hL
   rw[hV]at hL okL
   dsimp only at hL okL
   have hD:=fun h=>dDecW a nd { x with K:=K1,L:=L2 } d2 h ⟨h2',hx.P,hx.c,okL.2,hx.D⟩ okL.1
   obtain⟨⟨D3,d3,dd⟩,hW⟩:∃V,ndec x.D d2=V:=⟨_,rfl⟩
   dsimp only at hD
   rw[hW]at hD
   dsimp only at hD
   rw[rstp_cpy hT hj hV hW]at he hrs
   dsimp only at he hrs
   have hj3:(j:Int)-2≠0:=by omega
   cases hb with
   |nil =>
    rw[if_neg (by rintro(g|g);cases g;unfold okC at g;simp only[List.length_nil]at g;omega)]at he
    repeat'(first|apply zF|apply zB|apply zE|(apply yH;(focus kernel_rfl);(focus kernel_rfl))|(apply o_g zC;exact rfl;exact rfl)|(apply o_ar zC;exact rfl;exact rfl)|(apply zM zC;(iterate 3 exact rfl);(focus exact pk))|(apply zD;exact rfl;exact rfl;(focus first|exact rfl);exact rfl;(focus exact⟨_,hK _,by repeat with_reducible exact Take.nil⟩);rintro _ _ ⟨rfl,rfl⟩)|(apply o_callE0;(iterate 4 exact rfl);(focus exact⟨hL _,by repeat with_reducible exact Take.nil⟩);(focus first|exact List.Perm.refl _);(focus(intro ρ D hρ hD;refine⟨?_,?_⟩;(focus repeat(first|exact VR.const rfl));(focus repeat(first|((apply SHR.same);(focus intro x hx;(repeat(first|exact hx|apply List.mem_cons_of_mem));done))|((apply SHR.keep);(focus(repeat(first|with_reducible exact List.mem_cons_self|apply List.mem_cons_of_mem));done))|(apply SHR.cons;(focus first|((apply rho_pick hρ);(exact pk)));(focus repeat(first|exact VR.const rfl|exact VRs.nil|((apply VRs.const);(focus first|exact map_const (fun _=>rfl)))|apply VRs.cons))))))))|(apply o_callE0;(iterate 4 exact rfl);(focus exact⟨hD _,by repeat with_reducible exact Take.nil⟩);(focus first|exact List.Perm.refl _);(focus(intro ρ D hρ hD;refine⟨?_,?_⟩;(focus repeat(first|exact VR.const rfl));(focus repeat(first|((apply SHR.same);(focus intro x hx;(repeat(first|exact hx|apply List.mem_cons_of_mem));done))|((apply SHR.keep);(focus(repeat(first|with_reducible exact List.mem_cons_self|apply List.mem_cons_of_mem));done))|(apply SHR.cons;(focus first|((apply rho_pick hρ);(exact pk)));(focus repeat(first|exact VR.const rfl|exact VRs.nil|((apply VRs.const);(focus first|exact map_const (fun _=>rfl)))|apply VRs.cons))))))))|(apply zU;exact rfl;exact rfl)|(apply yF;iterate 4 exact rfl)|(apply o_guardF;(iterate 3 exact rfl);all_goals intro hc)|(apply yB;exact rfl)|(apply yC;exact rfl;(focus first|omega))|(apply yD;exact rfl;(focus first|omega))|apply zA|apply zP|apply yP|apply zI|apply zN|apply zH|((with_reducible apply Sd.mk);first|exact True.intro)|((with_reducible apply Ln.mk);first|rfl)|((with_reducible apply Wr.mk);first|exact IntWalk.i64_in _ (by omega))|((with_reducible apply Ce.mk);first|rfl)|exact True.intro|refine Rc.mk ⟨_,_,pk,?_⟩|exact Or.inl rfl|refine Or.inr (And.intro ?_ ?_)|apply And.intro|exact rfl)
    all_goals first
     |(exfalso;omega)
     |(apply zL;(exact(show ResS _ _ _ _ [_,_] from⟨rfl,⟨rfl,trivial⟩⟩));(focus exact⟨by rw[←he];rfl,rfl⟩);(focus repeat with_reducible first|exact Take.nil|apply Take.c|apply Take.drop))
   |some A0 o =>
    repeat'(first|apply zF|apply zB|apply zE|(apply yH;(focus kernel_rfl);(focus kernel_rfl))|(apply o_g zC;exact rfl;exact rfl)|(apply o_ar zC;exact rfl;exact rfl)|(apply zM zC;(iterate 3 exact rfl);(focus exact pk))|(apply zD;exact rfl;exact rfl;(focus first|exact rfl);exact rfl;(focus exact⟨_,hK _,by repeat with_reducible exact Take.nil⟩);rintro _ _ ⟨rfl,rfl⟩)|(apply o_callE0;(iterate 4 exact rfl);(focus exact⟨hL _,by repeat with_reducible exact Take.nil⟩);(focus first|exact List.Perm.refl _);(focus(intro ρ D hρ hD;refine⟨?_,?_⟩;(focus repeat(first|exact VR.const rfl));(focus repeat(first|((apply SHR.same);(focus intro x hx;(repeat(first|exact hx|apply List.mem_cons_of_mem));done))|((apply SHR.keep);(focus(repeat(first|with_reducible exact List.mem_cons_self|apply List.mem_cons_of_mem));done))|(apply SHR.cons;(focus first|((apply rho_pick hρ);(exact pk)));(focus repeat(first|exact VR.const rfl|exact VRs.nil|((apply VRs.const);(focus first|exact map_const (fun _=>rfl)))|apply VRs.cons))))))))|(apply o_callE0;(iterate 4 exact rfl);(focus exact⟨hD _,by repeat with_reducible exact Take.nil⟩);(focus first|exact List.Perm.refl _);(focus(intro ρ D hρ hD;refine⟨?_,?_⟩;(focus repeat(first|exact VR.const rfl));(focus repeat(first|((apply SHR.same);(focus intro x hx;(repeat(first|exact hx|apply List.mem_cons_of_mem));done))|((apply SHR.keep);(focus(repeat(first|with_reducible exact List.mem_cons_self|apply List.mem_cons_of_mem));done))|(apply SHR.cons;(focus first|((apply rho_pick hρ);(exact pk)));(focus repeat(first|exact VR.const rfl|exact VRs.nil|((apply VRs.const);(focus first|exact map_const (fun _=>rfl)))|apply VRs.cons))))))))|(apply zU;exact rfl;exact rfl)|(apply yF;iterate 4 exact rfl)|(apply o_guardF;(iterate 3 exact rfl);all_goals intro hc)|(apply yB;exact rfl)|(apply yC;exact rfl;(focus first|omega))|(apply yD;exact rfl;(focus first|omega))|(apply w_if;exact rfl;all_goals intro hc)|apply zA|apply zP|apply yP|apply zI|apply zN|apply zH|((with_reducible apply Sd.mk);first|exact True.intro)|((with_reducible apply Ln.mk);first|rfl)|((with_reducible apply Wr.mk);first|exact IntWalk.i64_in _ (by omega))|((with_reducible apply Ce.mk);first|rfl)|exact True.intro|refine Rc.mk ⟨_,_,pk,?_⟩|exact Or.inl rfl|refine Or.inr (And.intro ?_ ?_)|apply And.intro|exact rfl)
    all_goals first
     |(exfalso;omega)
     |(rw[if_neg (by rintro(g|g);cases g;unfold okC at g;dsimp only at g;omega)]at he;(apply zL;(exact(show ResS _ _ _ _ [_,_] from⟨rfl,⟨rfl,trivial⟩⟩));(focus exact⟨by rw[←he];rfl,rfl⟩);(focus repeat with_reducible first|exact Take.nil|apply Take.c|apply Take.drop)))
     |skip
    have hg:2≤l2+2∧l2+2≤273∧l2+2+o.length≤n∧1≤dd+1∧dd+1≤o.length:=by omega
    rw[if_pos (.inr hg),outR_map,estp_cpy o (by show dd+1≠0;omega)]at he
    dsimp only at he
    obtain⟨N,hN⟩:∃N,N=(l2+2).toNat:=⟨_,rfl⟩
    obtain⟨D,hDD⟩:∃D,D=(dd+1).toNat:=⟨_,rfl⟩
    rw[←hN,←hDD]at he
    refine zZ (S:=Nat × List UInt8) (fun y=>[(1,I n),(6,gptr s 0 4),(7,gptr nd 0 5),(8,gsl A0 0 y.2.length y.2.length 1),(10,I dd),(64,I (l2+2)),(65,I y.1)])
     (fun y=>decB nd d3::msB a ⟨K1,x.P,x.c,L2,D3⟩ ((A0,⟨bytesV y.2,false⟩)::(s,⟨setC a,false⟩)::h))
     (fun y=>y.1≤N∧y.2.length=o.length+y.1∧copyN D (N-y.1) y.2=copyN D N o) (fun y=>N-y.1) (0,o) ⟨Nat.zero_le _,rfl,rfl⟩ (by repeat'(first|exact trivial|refine⟨rfl,?_⟩|refine⟨congrArg some ?_,?_⟩)) (by repeat with_reducible first|exact Take.nil|apply Take.c|apply Take.drop) ?_
    rintro⟨k,o2⟩ ⟨hk,hol,hcp⟩
    dsimp only at hk hol hcp ⊢
    by_cases hkN:k<N
    ·rw[show N-k=(N-(k+1))+1 by omega,copyN]at hcp
     have hbt:Value.int .u8 (bat o2 ((o2.length:Int)-dd-1))=byteV o2[o2.length-D]!:=by
      show _=Value.int .u8 _
      congr 1
      unfold bat
      rw[show((o2.length:Int)-dd-1).toNat=o2.length-D by omega,List.getD_eq_getElem?_getD,getElem!_pos o2 _ (by omega),List.getElem?_eq_getElem (by omega)];rfl
     repeat'(first|apply zF|apply zB|apply zE|(apply o_g zC;exact rfl;exact rfl)|(apply o_ar zC;exact rfl;exact rfl)|(apply zM zC;(iterate 3 exact rfl);(focus exact pk))|(apply zT zC;(iterate 5 exact rfl);(focus decide);exact rfl;(focus decide);(focus repeat(first|exact CatR.nil|(apply CatR.one;exact rfl;exact rfl)));exact rfl)|(apply o_append zC;(iterate 5 exact rfl);(focus exact⟨by decide⟩);(focus exact up);(focus exact pk))|(apply yC;exact rfl;(focus first|omega))|apply zA|apply zG|apply zI|apply zH|((with_reducible apply Sd.mk);first|exact True.intro|omega|(constructor <;> first|omega|(unfold maxLen;omega)))|((with_reducible apply Ln.mk);first|rfl|omega|(simp ;first|done|omega))|((with_reducible apply Wr.mk);first|exact IntWalk.i64_in _ (by omega))|((with_reducible apply Ce.mk);first|exact cell_bytes (by omega))|((with_reducible apply Su.mk);first|exact zQ)|exact True.intro|intro A|exact rfl)
     all_goals first
      |(exfalso;omega)
      |skip
     rw[hbt]
     exact⟨(k+1,o2++[o2[o2.length-D]!]),⟨hkN,by show(o2++[_]).length=_;rw[List.length_append,List.length_singleton];omega,hcp⟩,by show N-(k+1)<N-k;omega,⟨rfl,rfl,rfl,congrArg some (gslE rfl rfl (by simp) (by simp) rfl),by repeat'(first|exact trivial|refine⟨rfl,?_⟩)⟩,(by repeat(first|with_reducible exact Take.nil|with_reducible apply Take.c|((with_reducible apply Take.cE);first|exact rfl|(apply blkE;(focus first|exact rfl|exact yI rfl|exact yO rfl|exact congrArg (fun v=>[v]) (gslE rfl rfl (by first|rfl|exact ‹_›|omega|(simp ;first|done|omega)) (by first|rfl|exact ‹_›|omega|(simp ;first|done|omega)) rfl))))|with_reducible apply Take.drop))⟩
    ·obtain rfl:k=N:=by omega
     rw[Nat.sub_self,copyN]at hcp
     rw[←hcp]at he
     repeat'(first|apply zF|apply zB|apply zE|(apply o_g zC;exact rfl;exact rfl)|(apply yD;exact rfl;(focus first|omega))|apply zA|apply zK|apply zG|apply zJ|apply zV|((with_reducible apply Sd.mk);first|exact True.intro))
     all_goals first
      |(exfalso;omega)
      |skip
     exact⟨(f',⟨K1,x.P,x.c,L2,D3⟩,d3,o2,gsl A0 0 o2.length o2.length 1,decB nd d3::msB a ⟨K1,x.P,x.c,L2,D3⟩ ((A0,⟨bytesV o2,false⟩)::(s,⟨setC a,false⟩)::h)),⟨by show n-o2.length≤f';omega,hrs.1,hrs.2.1,by show o2.length≤n;omega,.some A0 o2,he⟩,by show f'<f'+1;omega,(by repeat'(first|exact trivial|refine⟨rfl,?_⟩|refine⟨congrArg some ?_,?_⟩)),(by repeat with_reducible first|exact Take.nil|apply Take.c|apply Take.drop)⟩
 ·rw[rdP_end hlt]at he
  have he:(o,true)=R:=he
  cases hb with
  |nil =>
   rw[List.length_nil]at hlt
   repeat'(first|apply zF|apply zB|apply zE|(apply o_g zC;exact rfl;exact rfl)|(apply o_toString_nil zC;iterate 7 exact rfl)|(apply yD;exact rfl;(focus first|omega))|apply zA|apply zK|apply zJ|apply zN|apply zV|((with_reducible apply Sd.mk);first|exact True.intro))
   all_goals first
    |(exfalso;omega)
    |(apply zL;(exact(show ResS _ _ _ _ [_,_] from⟨rfl,⟨rfl,trivial⟩⟩));(focus exact⟨by subst he;rfl,rfl⟩);(focus repeat with_reducible first|exact Take.nil|apply Take.c|apply Take.drop))
  |some A0 o =>
   repeat'(first|apply zF|apply zB|apply zE|(apply o_g zC;exact rfl;exact rfl)|(apply o_toString zC;(iterate 6 exact rfl);(focus exact pk))|(apply yD;exact rfl;(focus first|omega))|apply zA|apply zK|apply zJ|apply zN|apply zV|((with_reducible apply Sd.mk);first|exact True.intro)|((with_reducible apply Ln.mk);first|rfl|(simp ;first|done|omega))|((with_reducible apply Su.mk);first|exact zQ)|exact True.intro|exact rfl)
   all_goals first
    |(exfalso;omega)
    |(apply zL;(exact(show ResS _ _ _ _ [_,_] from⟨rfl,⟨rfl,trivial⟩⟩));(focus exact⟨by subst he;rfl,rfl⟩);(focus repeat with_reducible first|exact Take.nil|apply Take.c|apply Take.drop))

def lzD (D:List UInt8)(most:Int):List UInt8 × Int :=
 if(rdN D 4096).2.2≠0 then([],12)else if most<(rdN D 4096).1 then([],2)
 else if(lzR (rdN D 4096).2.1 (rdN D 4096).1.toNat).2=false then([],12)
 else if lzE (lzR (rdN D 4096).2.1 (rdN D 4096).1.toNat).1=(D,0)then((lzR (rdN D 4096).2.1 (rdN D 4096).1.toNat).1,0)else([],12)
theorem copyN_le {n:Nat}{o:List UInt8}{t:Pc}(h:okC n o t):(estp o t).length≤n:=by
 unfold okC at h
 rw[estp_cpy o (by omega),copyN_len];omega
theorem rdP_len {n:Nat}:∀{f:Nat} {x:Ms} {d:Dec} {o:List UInt8} {r:List Pc × Dec},MsOk x→DecOk d→o.length≤n→n-o.length≤f→rdP n f x d o=some r→(exps r.1 o).length=n
 |0,x,d,o,r,_,_,ho,hf,h=>by
  obtain rfl:=Option.some.inj h
  show o.length=n;omega
 |f+1,x,d,o,r,hx,hd,ho,hf,h=>by
  by_cases hlt:o.length<n
  ·rw[show rdP n (f+1) x d o=_ from if_pos hlt]at h
   obtain⟨h1,h2,h3,h4⟩:=rstp_ok hx hd
   split at h
   ·rename_i hg
    obtain⟨⟨ps,d'⟩,e1,rfl⟩:=Option.map_eq_some_iff.1 h
    have hel:o.length+1≤(estp o (zrd x d).t).length∧(estp o (zrd x d).t).length≤n:=by
     cases hl:(zrd x d).lit with
     |true =>
      have:=h3 hl
      rw[estp_lit o this.2.1,List.length_append,List.length_singleton];omega
     |false =>
      rw[hl]at hg
      rcases hg with hg|hg
      ·cases hg
      ·refine⟨?_,copyN_le hg⟩
       unfold okC at hg
       rw[estp_cpy o (by omega),copyN_len];omega
    exact rdP_len (r:=(ps,d')) h1 h2 hel.2 (by omega) e1
   ·cases h
  ·rw[rdP_end hlt]at h
   obtain rfl:=Option.some.inj h
   show o.length=n;omega
theorem lzR_len {l:List UInt8}{n:Nat}(hl:l.length≤1000000)(h:(lzR l n).2=true):(lzR l n).1.length=n:=by
 unfold lzR at h ⊢
 cases e:rdP n n ms0 (dnew l) []with
 |none=>rw[e]at h;cases h
 |some r=>exact rdP_len ms0_ok (dnew_ok hl) (Nat.zero_le _) (Nat.sub_le _ _) e
theorem Decode_any' (l:List UInt8)(most:Int)(h:SH)(hl:l.length≤1000000):SRun Tryz.prog 20 [S l,I most] h fun r q=>r=.tuple #[S (lzD l most).1,Er (lzD l most).2]∧q=h:=by
 have hR:=fun n h=>rNumber_any n l 4096 h hl
 have hok:=rdN_ok l 4096
 obtain⟨x,hx⟩:∃x,lzD l most=x:=⟨_,rfl⟩
 rw[hx]
 unfold lzD at hx
 generalize rdN l 4096=V at *
 obtain⟨k,d,e⟩:=V
 dsimp only at *
 have hT:=fun n h=>rTake_any n d (d.length:Int) h (by omega) (by omega)
 rw[show((d.length:Int)).toNat=d.length from rfl,List.take_length,List.drop_length]at hT
 by_cases he:e=0
 case neg =>
  rw[if_pos he]at hx
  refine zY Tryz.func20 rfl rfl ?_
  repeat'(first|apply zF|apply zB|apply zE|(apply o_g zC;exact rfl;exact rfl)|(apply zD;exact rfl;exact rfl;(focus first|exact rfl);exact rfl;(focus exact⟨_,yN _ _,by repeat with_reducible exact Take.nil⟩);rintro _ _ ⟨n,rfl,rfl⟩)|(apply zD;exact rfl;exact rfl;(focus first|exact rfl);exact rfl;(focus exact⟨_,hR _ _,by repeat with_reducible exact Take.nil⟩);rintro _ _ ⟨rfl,rfl⟩)|(apply zD;exact rfl;exact rfl;(focus first|exact rfl);exact rfl;(focus exact⟨_,rErr_any _ _ _ _,by repeat with_reducible exact Take.nil⟩);rintro _ _ ⟨rfl,rfl⟩)|(apply yC;exact rfl;(focus first|omega))|apply zA|apply zP|apply zN|((with_reducible apply Sd.mk);first|exact True.intro))
  all_goals first
   |contradiction
   |(apply zL;(exact(show ResS _ _ _ _ [_,_] from⟨rfl,⟨rfl,trivial⟩⟩));(focus exact⟨by subst hx;rfl,rfl⟩);(focus repeat with_reducible first|exact Take.nil|apply Take.c|apply Take.drop))
 subst he
 rw[if_neg (by decide)]at hx
 have hk:=hok.2 rfl
 by_cases h1:most<k
 case pos =>
  rw[if_pos h1]at hx
  refine zY Tryz.func20 rfl rfl ?_
  repeat'(first|apply zF|apply zB|apply zE|(apply o_g zC;exact rfl;exact rfl)|(apply zD;exact rfl;exact rfl;(focus first|exact rfl);exact rfl;(focus exact⟨_,yN _ _,by repeat with_reducible exact Take.nil⟩);rintro _ _ ⟨n,rfl,rfl⟩)|(apply zD;exact rfl;exact rfl;(focus first|exact rfl);exact rfl;(focus exact⟨_,hR _ _,by repeat with_reducible exact Take.nil⟩);rintro _ _ ⟨rfl,rfl⟩)|(apply zD;exact rfl;exact rfl;(focus first|exact rfl);exact rfl;(focus exact⟨_,rErr_any _ _ _ _,by repeat with_reducible exact Take.nil⟩);rintro _ _ ⟨rfl,rfl⟩)|(apply zS;exact rfl)|(apply yC;exact rfl;(focus first|omega))|apply zA|apply zP|apply zI|apply zN|((with_reducible apply Sd.mk);first|exact True.intro))
  all_goals first
   |contradiction
   |(apply zL;(exact(show ResS _ _ _ _ [_,_] from⟨rfl,⟨rfl,trivial⟩⟩));(focus exact⟨by subst hx;rfl,rfl⟩);(focus repeat with_reducible first|exact Take.nil|apply Take.c|apply Take.drop))
 rw[if_neg h1]at hx
 obtain⟨m,rfl⟩:=Int.eq_ofNat_of_zero_le hk.1
 rw[Int.toNat_natCast]at hx
 have hRd:=fun h=>lzread_any d m h (by omega) (by omega)
 have hlen:=lzR_len (l:=d) (n:=m) (by omega)
 obtain⟨⟨s,b⟩,hs⟩:∃R,lzR d m=R:=⟨_,rfl⟩
 rw[hs]at hRd hx hlen
 dsimp only at hRd hx hlen
 cases b with
 |false =>
  rw[if_pos rfl]at hx
  refine zY Tryz.func20 rfl rfl ?_
  repeat'(first|apply zF|apply zB|apply zE|(apply o_g zC;exact rfl;exact rfl)|(apply yR;exact rfl;exact rfl)|(apply zD;exact rfl;exact rfl;(focus first|exact rfl);exact rfl;(focus exact⟨_,yN _ _,by repeat with_reducible exact Take.nil⟩);rintro _ _ ⟨n,rfl,rfl⟩)|(apply zD;exact rfl;exact rfl;(focus first|exact rfl);exact rfl;(focus exact⟨_,hR _ _,by repeat with_reducible exact Take.nil⟩);rintro _ _ ⟨rfl,rfl⟩)|(apply zD;exact rfl;exact rfl;(focus first|exact rfl);exact rfl;(focus exact⟨_,rErr_any _ _ _ _,by repeat with_reducible exact Take.nil⟩);rintro _ _ ⟨rfl,rfl⟩)|(apply zD;exact rfl;exact rfl;(focus first|exact rfl);exact rfl;(focus exact⟨_,rLeft_any _ _ _ _,by repeat with_reducible exact Take.nil⟩);rintro _ _ ⟨rfl,rfl⟩)|(apply zD;exact rfl;exact rfl;(focus first|exact rfl);exact rfl;(focus exact⟨_,hT _ _,by repeat with_reducible exact Take.nil⟩);rintro _ _ ⟨rfl,rfl⟩)|(apply zD;exact rfl;exact rfl;(focus first|exact rfl);exact rfl;(focus exact⟨_,hRd _,by repeat with_reducible exact Take.nil⟩);rintro _ _ ⟨rfl,rfl⟩)|(apply yB;exact rfl)|(apply zS;exact rfl)|(apply yD;exact rfl;(focus first|omega))|apply zA|apply zP|apply zI|apply zN|((with_reducible apply Sd.mk);first|exact True.intro))
  all_goals first
   |contradiction
   |(apply zL;(exact(show ResS _ _ _ _ [_,_] from⟨rfl,⟨rfl,trivial⟩⟩));(focus exact⟨by subst hx;rfl,rfl⟩);(focus repeat with_reducible first|exact Take.nil|apply Take.c|apply Take.drop))
 |true =>
  rw[if_neg (by decide)]at hx
  have hlen:=hlen rfl
  have hE:=fun h=>Encode_any' s h (by omega)
  obtain⟨⟨t,g⟩,ht⟩:∃R,lzE s=R:=⟨_,rfl⟩
  rw[ht]at hE hx
  dsimp only at hE hx
  refine zY Tryz.func20 rfl rfl ?_
  repeat'(first|apply zF|apply zB|apply zE|(apply o_g zC;exact rfl;exact rfl)|(apply yR;exact rfl;exact rfl)|(apply zD;exact rfl;exact rfl;(focus first|exact rfl);exact rfl;(focus exact⟨_,yN _ _,by repeat with_reducible exact Take.nil⟩);rintro _ _ ⟨n,rfl,rfl⟩)|(apply zD;exact rfl;exact rfl;(focus first|exact rfl);exact rfl;(focus exact⟨_,hR _ _,by repeat with_reducible exact Take.nil⟩);rintro _ _ ⟨rfl,rfl⟩)|(apply zD;exact rfl;exact rfl;(focus first|exact rfl);exact rfl;(focus exact⟨_,rErr_any _ _ _ _,by repeat with_reducible exact Take.nil⟩);rintro _ _ ⟨rfl,rfl⟩)|(apply zD;exact rfl;exact rfl;(focus first|exact rfl);exact rfl;(focus exact⟨_,rLeft_any _ _ _ _,by repeat with_reducible exact Take.nil⟩);rintro _ _ ⟨rfl,rfl⟩)|(apply zD;exact rfl;exact rfl;(focus first|exact rfl);exact rfl;(focus exact⟨_,hT _ _,by repeat with_reducible exact Take.nil⟩);rintro _ _ ⟨rfl,rfl⟩)|(apply zD;exact rfl;exact rfl;(focus first|exact rfl);exact rfl;(focus exact⟨_,hRd _,by repeat with_reducible exact Take.nil⟩);rintro _ _ ⟨rfl,rfl⟩)|(apply zD;exact rfl;exact rfl;(focus first|exact rfl);exact rfl;(focus exact⟨_,hE _,by repeat with_reducible exact Take.nil⟩);rintro _ _ ⟨rfl,rfl⟩)|(apply zU;exact rfl;exact rfl)|(apply yF;iterate 4 exact rfl)|(apply o_guardFN;(iterate 3 exact rfl);all_goals intro hc)|(apply yB;exact rfl)|(apply zS;exact rfl)|(apply yD;exact rfl;(focus first|omega))|(apply w_ifN;exact rfl;all_goals intro hc)|apply zA|apply zP|apply zI|apply zN|((with_reducible apply Sd.mk);first|exact True.intro))
  all_goals first
   |contradiction
   |(rw[if_pos (by rw[show t=l by assumption,show g=0 by assumption])]at hx;(apply zL;(exact(show ResS _ _ _ _ [_,_] from⟨rfl,⟨rfl,trivial⟩⟩));(focus exact⟨by subst hx;rfl,rfl⟩);(focus repeat with_reducible first|exact Take.nil|apply Take.c|apply Take.drop)))
   |(rw[if_neg (fun e=>absurd (congrArg Prod.snd e) (by assumption))]at hx;(apply zL;(exact(show ResS _ _ _ _ [_,_] from⟨rfl,⟨rfl,trivial⟩⟩));(focus exact⟨by subst hx;rfl,rfl⟩);(focus repeat with_reducible first|exact Take.nil|apply Take.c|apply Take.drop)))
   |(rw[if_neg (fun e=>absurd (congrArg Prod.fst e) (by assumption))]at hx;(apply zL;(exact(show ResS _ _ _ _ [_,_] from⟨rfl,⟨rfl,trivial⟩⟩));(focus exact⟨by subst hx;rfl,rfl⟩);(focus repeat with_reducible first|exact Take.nil|apply Take.c|apply Take.drop)))

theorem zx1 :lzE []=([0],0):=by decide +kernel

theorem norm_out :∀(k:Nat) (e:Enc),e.out.length≤(norm k e).out.length
 |0,e=>Nat.le_refl _
 |k+1,e=>by
  unfold norm
  split
  ·have:=norm_out k (eshift e)
   have h2:(eshift e).out.length=e.out.length+1:=by show(e.out++[_]).length=_;simp
   omega
  ·exact Nat.le_refl _
theorem fin_len (e:Enc):(fin e).length=e.out.length+4:=by unfold fin;rw[List.length_append];rfl
abbrev e00 :Enc:=⟨[],0,4294967295⟩
theorem EncB.re {n:Nat}{h h' p:SH}{e:Enc}(hb:EncB n h e p)(t:Take h h'):∃p',EncB n h' e p'∧Take p p':=by
 cases hb with
 |nil=>exact⟨_,.nil _ _,.cons .head t⟩
 |some=>exact⟨_,.some _ _ _ _,.cons .head (.cons .head t)⟩
theorem EncB.push {n:Nat}{h p:SH}{e:Enc}(hb:EncB n h e p)(x:Nat × Blk):∃p',EncB n (x::h) e p'∧Take (x::p) p':=by
 cases hb with
 |nil=>exact⟨_,.nil _ _,.cons (.tail .head) .nil⟩
 |some=>exact⟨_,.some _ _ _ _,.cons (.tail .head) (.cons (.tail .head) .nil)⟩
theorem EncR.re {n:Nat}{p p':SH}{e:Enc}(hr:EncR n p' e)(t:Take p p'):EncR n p e:=by
 cases hr with
 |nil _ _ _ hp=>obtain⟨p1,g,_⟩:=t.pick hp;exact .nil _ _ _ g
 |some _ _ _ _ _ _ hp ha=>obtain⟨p1,g,_⟩:=t.pick hp;obtain⟨p2,g2,_⟩:=t.pick ha;exact .some _ _ _ _ _ _ g g2
def E2 (n m:Nat)(h:SH)(e e2:Enc)(p:SH):Prop:=∃q1 p',EncB m h e2 q1∧EncB n q1 e p'∧Take p p'
theorem E2.swap {n m:Nat}{h p:SH}{e e2:Enc}(k:E2 n m h e e2 p):E2 m n h e2 e p:=by
 obtain⟨q1,p',h1,h2,t⟩:=k
 obtain⟨r1,r,g1,g2,t2⟩:=h1.swap h2
 exact⟨r1,r,g1,g2,t.trans t2⟩
theorem E2.re {n m:Nat}{h h' p:SH}{e e2:Enc}(k:E2 n m h e e2 p)(t:Take h h'):E2 n m h' e e2 p:=by
 obtain⟨q1,p',h1,h2,t1⟩:=k
 obtain⟨r1,g1,t2⟩:=h1.re t
 obtain⟨r,g2,t3⟩:=h2.re t2
 exact⟨r1,r,g1,g2,t1.trans t3⟩
theorem E2.push {n m:Nat}{h p:SH}{e e2:Enc}(k:E2 n m h e e2 p)(x:Nat × Blk):E2 n m (x::h) e e2 (x::p):=by
 obtain⟨q1,p',h1,h2,t1⟩:=k
 obtain⟨r1,g1,t2⟩:=h1.push x
 obtain⟨r,g2,t3⟩:=h2.push x
 obtain⟨r',g3,t4⟩:=g2.re t2
 exact⟨r1,r',g1,g3,(Take.trans (h1:=x::p') (by obtain⟨A,b⟩:=x;exact .cons .head t1) t3).trans t4⟩
theorem E2.pick {n m:Nat}{h p:SH}{e e2:Enc}(k:E2 n m h e e2 p){A:Nat}{b:Blk}{h1:SH}(hp:Pick h A b h1):∃p1,Pick p A b p1:=by
 obtain⟨q1,p',g1,g2,t1⟩:=k
 obtain⟨r1,hp1⟩:=g1.pick hp
 obtain⟨r2,hp2⟩:=g2.pick hp1
 obtain⟨r3,hp3,_⟩:=t1.pick hp2
 exact⟨r3,hp3⟩
theorem E2.r {n m:Nat}{h p:SH}{e e2:Enc}(k:E2 n m h e e2 p):EncR n p e:=by
 obtain⟨q1,p',g1,g2,t1⟩:=k
 exact g2.r.re t1
theorem E2.take {n m:Nat}{h p:SH}{e e2:Enc}(k:E2 n m h e e2 p):Take p h:=by
 obtain⟨q1,p',g1,g2,t1⟩:=k
 exact t1.trans (g2.take.trans g1.take)

structure Sz (N:Nat)(s k:Nat):Prop where
 hi:s*16384^N≤4294967295*256^k*8193^N
 lo:4294967295*256^k*8191^N≤s*16384^N
theorem Sz.shift {N s k:Nat}(h:Sz N s k):Sz N (s*256) (k+1):=by
 have e1:∀c,4294967295*256^(k+1)*c^N=256*(4294967295*256^k*c^N):=fun c=>by
  rw[Nat.pow_succ,Nat.mul_comm (256^k) 256,←Nat.mul_assoc,Nat.mul_comm 4294967295 256,Nat.mul_assoc 256,Nat.mul_assoc 256]
 have e2:s*256*16384^N=256*(s*16384^N):=by rw[Nat.mul_comm s 256,Nat.mul_assoc]
 refine⟨?_,?_⟩
 ·rw[e1,e2];exact Nat.mul_le_mul_left _ h.hi
 ·rw[e1,e2];exact Nat.mul_le_mul_left _ h.lo
theorem pow_small {a b:Nat}(hab:a≤b)(h:b^1000<2*a^1000){N:Nat}(hN:N≤1000):b^N<2*a^N:=by
 rcases Nat.lt_or_ge (b^N) (2*a^N)with k|k
 ·exact k
 ·exfalso
  have h1:a^(1000-N)≤b^(1000-N):=Nat.pow_le_pow_left hab _
  have h2:=Nat.mul_le_mul k h1
  rw[Nat.mul_assoc,←Nat.pow_add,←Nat.pow_add,show N+(1000-N)=1000 by omega]at h2
  omega
theorem Sz.len {N s k:Nat}(h:Sz N s k)(hN:N≤1000)(h1:16777216≤s)(h2:s≤4294967295):N/8≤k+1∧k≤N/8:=by
 have p1:8193^N<2*8192^N:=pow_small (by decide) (by decide +kernel) hN
 have p2:8192^N<2*8191^N:=pow_small (by decide) (by decide +kernel) hN
 have e:16384^N=2^N*8192^N:=by rw[←Nat.mul_pow]
 have e256:256^k=2^(8*k):=by rw[Nat.pow_mul]
 have a1:=h.hi
 have a2:=h.lo
 rw[e,e256]at a1 a2
 have q:0<8192^N:=Nat.pow_pos (by decide)
 have q':0<8191^N:=Nat.pow_pos (by decide)
 generalize 8192^N=x at *
 generalize 8193^N=y at *
 generalize 8191^N=z at *
 have b1:2^N<2^(8*k+9):=by
  have c1:16777216*(2^N*x)≤s*(2^N*x):=Nat.mul_le_mul_right _ h1
  have c2:4294967295*2^(8*k)*y≤4294967295*2^(8*k)*(2*x):=Nat.mul_le_mul_left _ (by omega)
  rcases Nat.lt_or_ge (2^N) (2^(8*k+9))with g|g
  ·exact g
  ·exfalso
   have c3:16777216*(2^(8*k+9)*x)≤16777216*(2^N*x):=Nat.mul_le_mul_left _ (Nat.mul_le_mul_right _ g)
   have c4:2^(8*k+9)*x=512*(2^(8*k)*x):=by rw[Nat.pow_add,Nat.mul_comm (2^(8*k)),Nat.mul_assoc]
   have c5:4294967295*2^(8*k)*(2*x)=8589934590*(2^(8*k)*x):=by rw[Nat.mul_left_comm,←Nat.mul_assoc,←Nat.mul_assoc,←Nat.mul_assoc]
   have c6:0<2^(8*k)*x:=Nat.mul_pos (Nat.pow_pos (by decide)) q
   omega
 have b2:2^(8*k)<2^(N+1):=by
  have c1:s*(2^N*x)≤4294967295*(2^N*x):=Nat.mul_le_mul_right _ h2
  have c2:2^N*x<2^N*(2*z):=Nat.mul_lt_mul_of_pos_left p2 (Nat.pow_pos (by decide))
  have c3:4294967295*2^(8*k)*z=4294967295*(2^(8*k)*z):=Nat.mul_assoc _ _ _
  have c4:2^N*(2*z)=2^(N+1)*z:=by rw[Nat.pow_succ,Nat.mul_assoc]
  have c5:2^(8*k)*z<2^(N+1)*z:=by omega
  exact Nat.lt_of_mul_lt_mul_right c5
 have d1:=(Nat.pow_lt_pow_iff_right (by decide:1<2)).1 b1
 have d2:=(Nat.pow_lt_pow_iff_right (by decide:1<2)).1 b2
 omega

abbrev boF (b:Bool):List Value:=[B b]
theorem boW (b:Bool):(boF b).length=1:=rfl
@[simp] theorem len_bos (l:List Bool):(recs boF l).length=l.length:=by rw[recs_len boW];omega

def val (l:List UInt8):Nat:=l.foldl (fun a c=>a*256+c.toNat) 0
theorem foldl_val (l:List UInt8):∀a:Nat,l.foldl (fun a c=>a*256+c.toNat) a=a*256^l.length+val l:=by
 induction l with
 |nil=>intro a;simp[val]
 |cons c r ih =>
  intro a
  have h1:=ih (a*256+c.toNat)
  have h2:=ih (0*256+c.toNat)
  simp only[List.foldl_cons,List.length_cons]
  rw[h1,show val (c::r)=(0*256+c.toNat)*256^r.length+val r from h2,Nat.pow_succ]
  rw[Nat.add_mul,Nat.zero_mul,Nat.zero_add,Nat.mul_assoc,Nat.mul_comm 256]
  omega
theorem val_app (l m:List UInt8):val (l++m)=val l*256^m.length+val m:=by
 show(l++m).foldl _ 0=_
 rw[List.foldl_append,foldl_val m];rfl
theorem val_one (c:UInt8):val [c]=c.toNat:=by simp[val]
theorem val_snoc (l:List UInt8)(c:UInt8):val (l++[c])=val l*256+c.toNat:=by rw[val_app,val_one];rfl
theorem val_cons (c:UInt8)(l:List UInt8):val (c::l)=c.toNat*256^l.length+val l:=by
 have:=val_app [c] l
 rw[val_one]at this;exact this
theorem val_lt :∀l:List UInt8,val l<256^l.length
 |[]=>by decide
 |c::r=>by
  have h1:=val_lt r
  have h2:=c.toNat_lt
  rw[val_cons,List.length_cons,Nat.pow_succ]
  have h3:c.toNat*256^r.length≤255*256^r.length:=Nat.mul_le_mul_right _ (by omega)
  omega
theorem b8_nat {n:Int}(h:0≤n∧n<256):((b8 n).toNat:Int)=n:=b8_val h

theorem bat_mid (P R:List UInt8)(c:UInt8):bat (P++c::R) (P.length:Nat)=c.toNat:=by
 unfold bat
 rw[Int.toNat_natCast,List.getD_eq_getElem?_getD,List.getElem?_append_right (Nat.le_refl _),Nat.sub_self];rfl
theorem set_mid (P R:List UInt8)(c d:UInt8):(P++c::R).set P.length d=P++d::R:=by
 rw[List.set_append_right _ _ (Nat.le_refl _),Nat.sub_self];rfl
theorem carryAt_val :∀(n:Nat) (P R:List UInt8),P.length=n→val P+1<256^n→∃P',carryAt (P++R) n=P'++R∧P'.length=n∧val P'=val P+1
 |0,P,R,h,hv=>by simp at hv
 |n+1,P,R,h,hv=>by
  obtain⟨Q,c,rfl⟩:∃Q c,P=Q++[c]:=⟨P.dropLast,P.getLast (fun e=>by subst e;simp at h),(List.dropLast_concat_getLast _).symm⟩
  have hQ:Q.length=n:=by simpa using h
  subst hQ
  rw[List.append_assoc,List.singleton_append]
  have hc:=c.toNat_lt
  unfold carryAt
  rw[bat_mid,set_mid]
  split
  ·rename_i h1
   refine⟨Q++[b8 (((c.toNat:Int)+1)%256)],by simp,by simp,?_⟩
   rw[val_snoc,val_snoc]
   have:=b8_nat (n:=((c.toNat:Int)+1)%256) (by omega)
   omega
  ·rename_i h1
   have h2:((c.toNat:Int)+1)%256=0:=Classical.not_not.1 h1
   have h3:c.toNat=255:=by omega
   rw[val_snoc,Nat.pow_succ]at hv
   obtain⟨Q',g1,g2,g3⟩:=carryAt_val Q.length Q (b8 (((c.toNat:Int)+1)%256)::R) rfl (by omega)
   refine⟨Q'++[b8 (((c.toNat:Int)+1)%256)],by rw[g1];simp,by simp[g2],?_⟩
   rw[val_snoc,val_snoc,g3]
   have:=b8_nat (n:=((c.toNat:Int)+1)%256) (by omega)
   omega
theorem carry_val {l:List UInt8}(h:val l+1<256^l.length):val (carry l)=val l+1:=by
 obtain⟨P,g1,g2,g3⟩:=carryAt_val l.length l [] rfl h
 rw[List.append_nil,List.append_nil]at g1
 unfold carry;rw[g1,g3]

def num' (e:Enc):Int:=(val e.out:Int)*4294967296+e.low
def InB (e:Enc):Prop:=num' e+e.size≤4294967296*((256^e.out.length:Nat):Int)
theorem fin_val {e:Enc}(h:0≤e.low∧e.low≤4294967295):(val (fin e):Int)=num' e:=by
 unfold fin num'
 rw[val_app]
 have h4:val (tail4 e.low)=e.low.toNat:=by
  unfold tail4
  rw[val_cons,val_cons,val_cons,val_one]
  have a1:=b8_nat (n:=e.low/16777216) (by omega)
  have a2:=b8_nat (n:=e.low/65536%256) (by omega)
  have a3:=b8_nat (n:=e.low/256%256) (by omega)
  have a4:=b8_nat (n:=e.low%256) (by omega)
  simp only[List.length_cons,List.length_nil]
  omega
 rw[h4,show(tail4 e.low).length=4 from rfl]
 omega
theorem estep_num {n:Nat}{e:Enc}(hok:EncOk n e)(hi:InB e)(z b:Int):num' (estep e z b)=num' e+(if b=0 then 0 else bound e.size z)∧InB (estep e z b)∧(estep e z b).out.length=e.out.length ∧
  (estep e z b).size=if b=0 then bound e.size z else e.size-bound e.size z:=by
 have hd:=size_dvd hok.size z
 have hl:=hok.low
 unfold InB num' at hi
 unfold estep
 split
 ·refine⟨by unfold num';dsimp only;omega,?_,rfl,rfl⟩
  unfold InB num';dsimp only;omega
 ·split
  ·have hlt:val e.out+1<256^e.out.length:=by
    generalize 256^e.out.length=w at *;omega
   have hc:=carry_val hlt
   refine⟨by unfold num';dsimp only;rw[hc];omega,?_,carry_len _,rfl⟩
   unfold InB num';dsimp only;rw[hc,carry_len];omega
  ·refine⟨by unfold num';dsimp only;omega,?_,rfl,rfl⟩
   unfold InB num';dsimp only;omega
theorem eshift_num {e:Enc}(h:0≤e.low∧e.low≤4294967295):num' (eshift e)=num' e*256∧(eshift e).out.length=e.out.length+1∧(eshift e).size=e.size*256:=by
 refine⟨?_,by show(e.out++[_]).length=_;simp,rfl⟩
 show(val (e.out++[_]):Int)*4294967296+e.low*256%4294967296=((val e.out:Int)*4294967296+e.low)*256
 rw[val_snoc]
 have:=b8_nat (n:=e.low/16777216) (by omega)
 omega

structure Syn (D:List UInt8)(e:Enc)(d:Dec):Prop where
 size:d.size=e.size
 len:e.out.length+4≤D.length
 rest:d.rest=D.drop (e.out.length+4)
 miss:d.missing=false
 code:d.code=(val (D.take (e.out.length+4)):Int)-num' e
 rng:0≤d.code∧d.code<d.size
theorem dstep_syn {D:List UInt8}{n:Nat}{e:Enc}{d:Dec}(s:Syn D e d)(hok:EncOk n e)(hi:InB e)(z b:Int)(hb:b=0↔(dstep d z).2=0):Syn D (estep e z b) (dstep d z).1:=by
 obtain⟨h1,h2,h3,h4⟩:=estep_num hok hi z b
 have hd:=size_dvd hok.size z
 have hs:=s.size
 have hr:=s.rng
 have hc:=s.code
 unfold dstep at hb ⊢
 rw[hs]at hb ⊢
 split at hb
 ·rename_i hlt
  rw[if_pos hlt]
  have hb0:b=0:=hb.2 rfl
  rw[if_pos hb0]at h1 h4
  exact⟨h4.symm,by rw[h3];exact s.len,by rw[h3];exact s.rest,s.miss,by rw[h3,h1];dsimp only;omega,by dsimp only;omega⟩
 ·rename_i hlt
  rw[if_neg hlt]
  have hb0:¬b=0:=fun h=>by have:=hb.1 h;cases this
  rw[if_neg hb0]at h1 h4
  exact⟨h4.symm,by rw[h3];exact s.len,by rw[h3];exact s.rest,s.miss,by rw[h3,h1];dsimp only;omega,by dsimp only;omega⟩
theorem dnext_syn {D:List UInt8}{e:Enc}{d:Dec}(s:Syn D e d)(hl:0≤e.low∧e.low≤4294967295)(hsz:e.size<16777216)(hD:e.out.length+5≤D.length):Syn D (eshift e) { dnext d with size:=(dnext d).size*256 }:=by
 obtain⟨h1,h2,h3⟩:=eshift_num hl
 have hlt:e.out.length+4<D.length:=by omega
 have hr:d.rest=D[e.out.length+4]::D.drop (e.out.length+4+1):=by rw[s.rest,List.drop_eq_getElem_cons hlt]
 have hc:=(D[e.out.length+4]).toNat_lt
 have hv:val (D.take (e.out.length+5))=val (D.take (e.out.length+4))*256+(D[e.out.length+4]).toNat:=by
  rw[←val_snoc,List.take_append_getElem hlt]
 have hsi:=s.size
 have hrg:=s.rng
 have hco:=s.code
 obtain⟨rest,code,size,missing,full⟩:=d
 dsimp only at hr hsi hrg hco
 subst hr
 have e5:(eshift e).out.length+4=e.out.length+5:=by omega
 refine⟨by rw[h3,←hsi];rfl,by omega,?_,s.miss,?_,?_⟩
 ·show D.drop (e.out.length+4+1)=_
  rw[e5]
 ·show code*256%4294967296+((D[e.out.length+4]).toNat:Int)=_
  rw[e5,hv,h1]
  omega
 ·show 0≤code*256%4294967296+((D[e.out.length+4]).toNat:Int)∧code*256%4294967296+((D[e.out.length+4]).toNat:Int)<size*256
  omega
theorem norm_len (k:Nat)(e:Enc):e.out.length≤(norm k e).out.length:=norm_out k e
theorem eshift_low (e:Enc):0≤(eshift e).low∧(eshift e).low≤4294967295:=by
 show 0≤e.low*256%4294967296∧e.low*256%4294967296≤4294967295;omega
theorem norm_syn {D:List UInt8}:∀(k:Nat) {e:Enc} {d:Dec},Syn D e d→(0≤e.low∧e.low≤4294967295)→(norm k e).out.length+4≤D.length→Syn D (norm k e) (dnorm k d)
 |0,_,_,s,_,_=>s
 |k+1,e,d,s,hl,hD=>by
  unfold norm at hD ⊢
  unfold dnorm
  rw[s.size]
  by_cases hc:e.size<16777216
  ·rw[if_pos hc]at hD ⊢
   rw[if_pos hc]
   have h2:(eshift e).out.length=e.out.length+1:=(eshift_num hl).2.1
   have h3:=norm_len k (eshift e)
   exact norm_syn k (dnext_syn s hl hc (by omega)) (eshift_low e) hD
  ·rw[if_neg hc,if_neg hc];exact s
theorem dnext_miss {d:Dec}(h:(dnext d).missing=false):d.missing=false∧d.rest≠[]:=by
 obtain⟨rest,code,size,missing,full⟩:=d
 cases rest with
 |nil=>cases h
 |cons c r=>exact⟨h,by simp⟩
theorem dnorm_miss :∀(k:Nat) {d:Dec},(dnorm k d).missing=false→d.missing=false
 |0,_,h=>h
 |k+1,d,h=>by
  unfold dnorm at h
  split at h
  ·have h0:=dnorm_miss k h
   exact(dnext_miss (d:=d) h0).1
  ·exact h
theorem eshift_InB {e:Enc}(hl:0≤e.low∧e.low≤4294967295)(h:InB e):InB (eshift e):=by
 obtain⟨h1,h2,h3⟩:=eshift_num hl
 unfold InB at h ⊢
 rw[h1,h2,h3,Nat.pow_succ]
 generalize 256^e.out.length=w at *
 omega
theorem norm_InB (k:Nat):∀{e:Enc},(0≤e.low∧e.low≤4294967295)→InB e→InB (norm k e):=by
 induction k with
 |zero=>intro e _ h;exact h
 |succ k ih =>
  intro e hl h
  unfold norm
  split
  ·exact ih (eshift_low e) (eshift_InB hl h)
  ·exact h
theorem ebit_InB {n:Nat}{e:Enc}(hok:EncOk n e)(hi:InB e)(z b:Int):InB (ebit e z b):=norm_InB 2 (estep_ok hok z b).2.1 (estep_num hok hi z b).2.1
theorem ebit_syn {D:List UInt8}{n:Nat}{e:Enc}{d:Dec}(s:Syn D e d)(hok:EncOk n e)(hi:InB e)(z b:Int)(hb:b=0↔(dbit d z).2=0)(hD:(ebit e z b).out.length+4≤D.length):Syn D (ebit e z b) (dbit d z).1 :=
 norm_syn 2 (dstep_syn s hok hi z b hb) (estep_ok hok z b).2.1 hD
theorem e00_InB :InB e00:=by unfold InB;decide
theorem dnew_syn {D:List UInt8}(h4:4≤D.length)(hf:(dnew D).full=false):Syn D e00 (dnew D):=by
 match D,h4 with
 |a::b::c::d::r,_ =>
  have h1:=a.toNat_lt;have h2:=b.toNat_lt;have h3:=c.toNat_lt;have h5:=d.toNat_lt
  have hv:val [a,b,c,d]=((a.toNat*256+b.toNat)*256+c.toNat)*256+d.toNat:=by simp[val]
  have hcode:(dnew (a::b::c::d::r)).code=(val [a,b,c,d]:Int):=by
   rw[hv]
   show(((0*256%4294967296+(a.toNat:Int))*256%4294967296+(b.toNat:Int))*256%4294967296+(c.toNat:Int))*256%4294967296+(d.toNat:Int)=_
   omega
  have hne:(dnew (a::b::c::d::r)).code≠4294967295:=fun h=>by
   have:(dnew (a::b::c::d::r)).full=true:=by
    show decide ((dnew (a::b::c::d::r)).code=4294967295)=true
    rw[h];rfl
   rw[hf]at this;cases this
  refine⟨rfl,by simp,rfl,rfl,?_,?_⟩
  ·rw[hcode];show _=(val [a,b,c,d]:Int)-num' e00
   show _=(val [a,b,c,d]:Int)-((0:Nat)*4294967296+0:Int)
   omega
  ·show 0≤(dnew (a::b::c::d::r)).code∧(dnew (a::b::c::d::r)).code<4294967295
   rw[hcode]at hne ⊢
   rw[hv]at hne ⊢
   omega

theorem dnext_full (d:Dec):(dnext d).full=d.full:=by
 obtain⟨rest,code,size,missing,full⟩:=d
 cases rest <;> rfl
theorem dnorm_full (k:Nat):∀(d:Dec),(dnorm k d).full=d.full:=by
 induction k with
 |zero=>intro d;rfl
 |succ k ih =>
  intro d
  unfold dnorm
  split
  ·rw[ih];exact dnext_full d
  ·rfl
theorem dbit_full (d:Dec)(z:Int):(dbit d z).1.full=d.full:=by
 show(dnorm 2 (dstep d z).1).full=_
 rw[dnorm_full];unfold dstep;split <;> rfl
theorem dbit_miss {d:Dec}{z:Int}(h:(dbit d z).1.missing=false):d.missing=false:=by
 have:=dnorm_miss 2 h
 unfold dstep at this
 split at this <;> exact this
theorem dbit_01 (d:Dec)(z:Int):(dbit d z).2=0∨(dbit d z).2=1:=by have:=dbit_bit d z;omega
theorem dend_zero {d:Dec}(h:dend d=0):d.missing=false∧d.full=false∧d.rest=[]∧d.code=0:=by
 unfold dend at h
 split at h
 ·cases h
 ·rename_i hn
  simp only[not_or,Bool.not_eq_true,ne_eq,Classical.not_not]at hn
  exact hn

def ext (d:Dec)(c:UInt8):Dec:=⟨d.rest++[c],d.code,d.size,d.missing,d.full⟩
theorem dnext_ext {d:Dec}{c:UInt8}(h:(dnext d).missing=false):dnext (ext d c)=ext (dnext d) c:=by
 obtain⟨rest,code,size,missing,full⟩:=d
 cases rest with
 |nil=>cases h
 |cons x r=>rfl
theorem dnorm_ext {c:UInt8}(k:Nat):∀{d:Dec},(dnorm k d).missing=false→dnorm k (ext d c)=ext (dnorm k d) c:=by
 induction k with
 |zero=>intro d _;rfl
 |succ k ih =>
  intro d h
  unfold dnorm at h ⊢
  rw[show(ext d c).size=d.size from rfl]
  split
  ·rename_i hc
   rw[if_pos hc]at h
   have h0:=dnorm_miss k h
   rw[dnext_ext (d:=d) h0]
   exact ih h
  ·rfl
theorem dbit_ext {d:Dec}{c:UInt8}{z:Int}(h:(dbit d z).1.missing=false):dbit (ext d c) z=(ext (dbit d z).1 c,(dbit d z).2):=by
 have e:dstep (ext d c) z=(ext (dstep d z).1 c,(dstep d z).2):=by
  unfold dstep
  rw[show(ext d c).size=d.size from rfl,show(ext d c).code=d.code from rfl]
  split <;> rfl
 unfold dbit
 rw[e]
 have:=dnorm_ext (c:=c) 2 (d:=(dstep d z).1) h
 rw[this]
theorem dnew_ext {D:List UInt8}{c:UInt8}(h:4≤D.length):dnew (D++[c])=ext (dnew D) c:=by
 match D,h with
 |_::_::_::_::_,_=>rfl

def StI (base:SH)(l:List (Int × Int))(v:Value)(p:SH):Prop:=(l=[]∧v=.slice none 0 0∧p=base)∨∃A,v=gsl A 0 (2*l.length) l.length 2∧p=(A,⟨recs stF l,false⟩)::base
theorem StI.has {base p:SH}{l:List (Int × Int)}{v:Value}(s:StI base l v p):Has p (recs stF l) 2 l.length v:=by
 rcases s with⟨rfl,rfl,rfl⟩|⟨A,rfl,rfl⟩
 ·exact⟨none,0,rfl,fun h=>absurd rfl h⟩
 ·exact⟨_,_,rfl,fun _=>⟨A,false,_,rfl,.head⟩⟩
theorem StI.take {base p:SH}{l:List (Int × Int)}{v:Value}(s:StI base l v p):Take p base:=by
 rcases s with⟨rfl,rfl,rfl⟩|⟨A,rfl,rfl⟩
 ·exact .nil
 ·exact .drop .nil
theorem StI.one {base:SH}{x:Int × Int}{A:Nat}:StI base ([]++[x]) (gsl A 0 (1*2) 1 2) ((A,⟨[I x.1,I x.2],false⟩)::base):=.inr ⟨A,rfl,rfl⟩

def pw (j:Nat):Int:=((256^j:Nat):Int)
theorem pw_pos (j:Nat):0<pw j:=by
 have:0<256^j:=Nat.pow_pos (by decide)
 unfold pw;omega
theorem pw_zero :pw 0=1:=rfl
theorem pw_succ (j:Nat):pw (j+1)=256*pw j:=by unfold pw;rw[Nat.pow_succ];omega
theorem pw_add (i j:Nat):pw (i+j)=pw i*pw j:=by unfold pw;rw[Nat.pow_add,Int.natCast_mul]
theorem norm_in (k:Nat):∀{e:Enc},(0≤e.low∧e.low≤4294967295)→∃j,(norm k e).out.length=e.out.length+j∧num' (norm k e)=num' e*pw j∧(norm k e).size=e.size*pw j:=by
 induction k with
 |zero=>intro e _;exact⟨0,rfl,by rw[pw_zero,Int.mul_one];rfl,by rw[pw_zero,Int.mul_one];rfl⟩
 |succ k ih =>
  intro e hl
  unfold norm
  split
  ·obtain⟨h1,h2,h3⟩:=eshift_num hl
   obtain⟨j,g1,g2,g3⟩:=ih (eshift_low e)
   exact⟨j+1,by rw[g1,h2];omega,by rw[g2,h1,pw_succ,Int.mul_assoc],by rw[g3,h3,pw_succ,Int.mul_assoc]⟩
  ·exact⟨0,rfl,by rw[pw_zero,Int.mul_one],by rw[pw_zero,Int.mul_one]⟩
def Within (e e':Enc):Prop:=∃j,e'.out.length=e.out.length+j∧num' e*pw j≤num' e'∧num' e'+e'.size≤(num' e+e.size)*pw j
theorem Within.refl (e:Enc):Within e e:=⟨0,rfl,by rw[pw_zero,Int.mul_one];exact Int.le_refl _,by rw[pw_zero,Int.mul_one];exact Int.le_refl _⟩
theorem Within.trans {e f g:Enc}(a:Within e f)(b:Within f g):Within e g:=by
 obtain⟨i,a1,a2,a3⟩:=a
 obtain⟨j,b1,b2,b3⟩:=b
 refine⟨i+j,by omega,?_,?_⟩
 ·rw[pw_add,←Int.mul_assoc]
  exact Int.le_trans (Int.mul_le_mul_of_nonneg_right a2 (Int.le_of_lt (pw_pos j))) b2
 ·rw[pw_add,←Int.mul_assoc]
  exact Int.le_trans b3 (Int.mul_le_mul_of_nonneg_right a3 (Int.le_of_lt (pw_pos j)))
theorem within_norm {k:Nat}{e:Enc}(hl:0≤e.low∧e.low≤4294967295):Within e (norm k e):=by
 obtain⟨j,g1,g2,g3⟩:=norm_in k hl
 exact⟨j,g1,by rw[g2];exact Int.le_refl _,by rw[g2,g3,Int.add_mul];exact Int.le_refl _⟩
theorem within_ebit {n:Nat}{e:Enc}(hok:EncOk n e)(hi:InB e)(z b:Int):Within (estep e z b) (ebit e z b):=within_norm (estep_ok hok z b).2.1
theorem within_estep {n:Nat}{e:Enc}(hok:EncOk n e)(hi:InB e)(z b:Int):Within e (estep e z b):=by
 obtain⟨h1,h2,h3,h4⟩:=estep_num hok hi z b
 have hd:=size_dvd hok.size z
 refine⟨0,h3,?_,?_⟩
 ·rw[pw_zero,Int.mul_one,h1];split <;> omega
 ·rw[pw_zero,Int.mul_one,h1,h4];split <;> omega
theorem within_at {e f:Enc}{D:List UInt8}(w:Within e f)(hD:D.length=f.out.length+4)(hv:(val D:Int)=num' f)(hs:0<f.size) :
  num' e≤(val (D.take (e.out.length+4)):Int)∧(val (D.take (e.out.length+4)):Int)<num' e+e.size:=by
 obtain⟨j,h1,h2,h3⟩:=w
 have hsp:val D=val (D.take (e.out.length+4))*256^j+val (D.drop (e.out.length+4)):=by
  have:=val_app (D.take (e.out.length+4)) (D.drop (e.out.length+4))
  rw[List.take_append_drop,List.length_drop,show D.length-(e.out.length+4)=j by omega]at this
  exact this
 have hlt:=val_lt (D.drop (e.out.length+4))
 rw[List.length_drop,show D.length-(e.out.length+4)=j by omega]at hlt
 have hp:=pw_pos j
 have e1:(val D:Int)=(val (D.take (e.out.length+4)):Int)*pw j+(val (D.drop (e.out.length+4)):Int):=by rw[hsp];unfold pw;rw[Int.natCast_add,Int.natCast_mul]
 have e2:(val (D.drop (e.out.length+4)):Int)<pw j:=by unfold pw;omega
 generalize (val (D.take (e.out.length+4)):Int)=V at *
 have e3:num' e*pw j<(V+1)*pw j:=by rw[Int.add_mul,Int.one_mul];omega
 have e4:V*pw j<(num' e+e.size)*pw j:=by omega
 have e5:=Int.lt_of_mul_lt_mul_right e3 (Int.le_of_lt hp)
 have e6:=Int.lt_of_mul_lt_mul_right e4 (Int.le_of_lt hp)
 omega
theorem bit_read {D:List UInt8}{n:Nat}{e f:Enc}{d:Dec}(s:Syn D e d)(hok:EncOk n e)(hi:InB e)(z b:Int)(w:Within (ebit e z b) f)(hD:D.length=f.out.length+4)(hv:(val D:Int)=num' f)(hs:0<f.size) :
  b=0↔(dbit d z).2=0:=by
 obtain⟨h1,h2,h3,h4⟩:=estep_num hok hi z b
 have hw:=within_at ((within_ebit hok hi z b).trans w) hD hv hs
 have hd:=size_dvd hok.size z
 rw[h3,h1,h4]at hw
 have hc:=s.code
 show b=0↔(dstep d z).2=0
 unfold dstep
 rw[s.size]
 split
 ·rename_i hlt
  refine⟨fun _=>rfl,fun _=>?_⟩
  by_cases hb:b=0
  ·exact hb
  ·rw[if_neg hb,if_neg hb]at hw;omega
 ·rename_i hlt
  refine⟨fun hb=>?_,fun h=>by cases h⟩
  rw[if_pos hb,if_pos hb]at hw;omega

theorem within_len {e f:Enc}(w:Within e f):e.out.length≤f.out.length:=by obtain⟨j,h,_⟩:=w;omega
theorem within_ebits {v:Int}(k:Nat):∀{n:Nat} {e:Enc},EncOk n e→InB e→Within e (ebits v k e)∧InB (ebits v k e):=by
 induction k with
 |zero=>intro n e _ hi;exact⟨.refl _,hi⟩
 |succ k ih =>
  intro n e hok hi
  obtain⟨h1,h2⟩:=ih (ebit_ok hok 1024 (v/2^k%2)) (ebit_InB hok hi 1024 (v/2^k%2))
  exact⟨((within_estep hok hi _ _).trans (within_ebit hok hi _ _)).trans h1,h2⟩
theorem bits_read {D:List UInt8}{f:Enc}{v:Int}(hD:D.length=f.out.length+4)(hv:(val D:Int)=num' f)(hs:0<f.size)(k:Nat):∀{n:Nat} {e:Enc} {d:Dec} {a:Int},Syn D e d→EncOk n e→InB e→Within (ebits v k e) f →
  Syn D (ebits v k e) (dbits k d a).1∧(dbits k d a).2=a*2^k+v%2^k:=by
 induction k with
 |zero=>intro n e d a s _ _ _;exact⟨s,by show a=a*2^0+v%2^0;rw[Int.pow_zero,Int.mul_one,Int.emod_one,Int.add_zero]⟩
 |succ k ih =>
  intro n e d a s hok hi w
  have hb1:=ebit_ok hok 1024 (v/2^k%2)
  have hb2:=ebit_InB hok hi 1024 (v/2^k%2)
  have w1:Within (ebit e 1024 (v/2^k%2)) f:=(within_ebits k hb1 hb2).1.trans w
  have hr:=bit_read s hok hi 1024 (v/2^k%2) w1 hD hv hs
  have hbd:=dbit_01 d 1024
  have hval:(dbit d 1024).2=v/2^k%2:=by omega
  obtain⟨g1,g2⟩:=ih (a:=a*2+(dbit d 1024).2) (ebit_syn s hok hi 1024 _ hr (by have:=within_len w1;omega)) hb1 hb2 w
  refine⟨g1,?_⟩
  show(dbits k _ _).2=_
  rw[g2,hval]
  have h1:=Int.emod_add_mul_ediv v (2^k)
  have h2:=Int.emod_add_mul_ediv (v/2^k) 2
  have h3:=Int.emod_add_mul_ediv v (2^(k+1))
  have h4:v/2^k/2=v/(2^k*2):=by rw[Int.ediv_ediv_of_nonneg (Int.le_of_lt (Int.pow_pos (by decide)))]
  rw[h4]at h2
  rw[Int.pow_succ]at h3 ⊢
  generalize v/(2^k*2)=q at *
  generalize v/2^k=p at *
  generalize (2:Int)^k=t at *
  have h5:t*p=t*(p%2)+2*(t*q):=by
   conv=>lhs;rw[←h2]
   rw[Int.mul_add,Int.mul_left_comm]
  have h6:t*2*q=2*(t*q):=by rw[Int.mul_comm t 2,Int.mul_assoc]
  have h7:(a*2+p%2)*t=a*(t*2)+t*(p%2):=by rw[Int.add_mul,Int.mul_assoc,Int.mul_comm 2 t,Int.mul_comm (p%2) t]
  omega

theorem four {D:List UInt8}(h:4≤D.length):∃a b c d r,D=a::b::c::d::r:=by
 match D,h with
 |a::b::c::d::r,_=>exact⟨a,b,c,d,r,rfl⟩
theorem ddir_full (d:Dec)(x:Int):(ddir d x).1.full=d.full:=by
 have h:∀(k:Nat) (d:Dec) (a:Int),(dbits k d a).1.full=d.full:=by
  intro k
  induction k with
  |zero=>intro d a;rfl
  |succ k ih=>intro d a;unfold dbits;rw[ih,dbit_full]
 unfold ddir
 split
 ·rfl
 ·exact h _ _ _
theorem inv_end {e:Enc}{d:Dec}(hl:0≤e.low∧e.low≤4294967295)(s:Syn (fin e) e d)(hf:d.full=false):dend d=0:=by
 have h1:=s.rest
 have h2:=s.code
 rw[←fin_len]at h1 h2
 rw[List.drop_length]at h1
 rw[List.take_length,fin_val hl]at h2
 unfold dend
 rw[if_neg]
 rintro(h|h|h|h)
 ·rw[s.miss]at h;cases h
 ·rw[hf]at h;cases h
 ·exact h h1
 ·exact h (by omega)

structure Beh (D:List UInt8)(f:Enc):Prop where
 len:D.length=f.out.length+4
 val:(val D:Int)=num' f
 size:0<f.size
theorem Beh.fin {n:Nat}{f:Enc}(h:EncOk n f):Beh (fin f) f:=⟨fin_len f,fin_val h.low,by have:=h.size;omega⟩
theorem bit01 (v:Int)(k:Nat):v/2^k%2=0∨v/2^k%2=1:=by omega
theorem mod_split (v:Int)(k:Nat):v%2^(k+1)=2^k*(v/2^k%2)+v%2^k:=by
 have h1:=Int.emod_add_mul_ediv v (2^k)
 have h2:=Int.emod_add_mul_ediv (v/2^k) 2
 have h3:=Int.emod_add_mul_ediv v (2^(k+1))
 have h4:v/2^k/2=v/(2^k*2):=by rw[Int.ediv_ediv_of_nonneg (Int.le_of_lt (Int.pow_pos (by decide)))]
 rw[h4]at h2
 rw[Int.pow_succ]at h3 ⊢
 generalize v/(2^k*2)=q at *
 generalize v/2^k=p at *
 generalize (2:Int)^k=t at *
 have h5:t*p=t*(p%2)+2*(t*q):=by
  conv=>lhs;rw[←h2]
  rw[Int.mul_add,Int.mul_left_comm]
 have h6:t*2*q=2*(t*q):=by rw[Int.mul_comm t 2,Int.mul_assoc]
 omega
theorem tenc_in {v:Int}(k:Nat):∀{n:Nat} {t:List Int} {e:Enc} {j:Nat},EncOk n e→InB e→Within e (tenc v k t e j).2∧InB (tenc v k t e j).2:=by
 induction k with
 |zero=>intro n t e j _ hi;exact⟨.refl _,hi⟩
 |succ k ih =>
  intro n t e j hok hi
  obtain⟨h1,h2⟩:=ih (t:=t.set j (adp t[j]! (v/2^k%2))) (j:=2*j+(v/2^k%2).toNat) (ebit_ok hok t[j]! (v/2^k%2)) (ebit_InB hok hi t[j]! (v/2^k%2))
  exact⟨((within_estep hok hi _ _).trans (within_ebit hok hi _ _)).trans h1,h2⟩
theorem tenc_read {D:List UInt8}{f:Enc}{v:Int}(hf:Beh D f)(k:Nat):∀{n:Nat} {t:List Int} {e:Enc} {d:Dec} {j:Nat},Syn D e d→EncOk n e→InB e→Within (tenc v k t e j).2 f →
  Syn D (tenc v k t e j).2 (tdec k t d j).2.1∧(tdec k t d j).1=(tenc v k t e j).1∧((tdec k t d j).2.2:Int)=2^k*j+v%2^k:=by
 induction k with
 |zero=>intro n t e d j s _ _ _;exact⟨s,rfl,by show(j:Int)=2^0*j+v%2^0;rw[Int.pow_zero,Int.emod_one];omega⟩
 |succ k ih =>
  intro n t e d j s hok hi w
  have hb1:=ebit_ok hok t[j]! (v/2^k%2)
  have hb2:=ebit_InB hok hi t[j]! (v/2^k%2)
  have w1:Within (ebit e t[j]! (v/2^k%2)) f:=(tenc_in k hb1 hb2).1.trans w
  have hr:=bit_read s hok hi t[j]! (v/2^k%2) w1 hf.len hf.val hf.size
  have hbd:=dbit_01 d t[j]!
  have hval:(dbit d t[j]!).2=v/2^k%2:=by omega
  have s1:=ebit_syn s hok hi t[j]! _ hr (by have:=within_len w1;have:=hf.len;omega)
  have ih:=ih (t:=t.set j (adp t[j]! (v/2^k%2))) (j:=2*j+(v/2^k%2).toNat) s1 hb1 hb2 w
  have e1:tdec (k+1) t d j=tdec k (t.set j (adp t[j]! (v/2^k%2))) (dbit d t[j]!).1 (2*j+(v/2^k%2).toNat):=by rw[←hval];rfl
  rw[e1]
  refine⟨ih.1,ih.2.1,?_⟩
  rw[ih.2.2,mod_split,Int.pow_succ]
  have e2:((2*j+(v/2^k%2).toNat:Nat):Int)=2*(j:Int)+v/2^k%2:=by omega
  rw[e2,Int.mul_add,←Int.mul_assoc]
  omega
theorem tdec_miss :∀(k:Nat) {t:List Int} {d:Dec} {j:Nat},(tdec k t d j).2.1.missing=false→d.missing=false
 |0,_,_,_,h=>h
 |k+1,t,d,j,h=>dbit_miss (tdec_miss k (t:=t.set j (adp t[j]! (dbit d t[j]!).2)) (j:=2*j+(dbit d t[j]!).2.toNat) h)
theorem tdec_full :∀(k:Nat) {t:List Int} {d:Dec} {j:Nat},(tdec k t d j).2.1.full=d.full
 |0,_,_,_=>rfl
 |k+1,t,d,j=>(tdec_full k (t:=t.set j (adp t[j]! (dbit d t[j]!).2)) (j:=2*j+(dbit d t[j]!).2.toNat)).trans (dbit_full d _)
theorem tdec_ext {c:UInt8}:∀(k:Nat) {t:List Int} {d:Dec} {j:Nat},(tdec k t d j).2.1.missing=false→tdec k t (ext d c) j=((tdec k t d j).1,ext (tdec k t d j).2.1 c,(tdec k t d j).2.2)
 |0,_,_,_,_=>rfl
 |k+1,t,d,j,h=>by
  have h1:(dbit d t[j]!).1.missing=false:=tdec_miss k (t:=t.set j (adp t[j]! (dbit d t[j]!).2)) (j:=2*j+(dbit d t[j]!).2.toNat) h
  show tdec k (t.set j (adp t[j]! (dbit (ext d c) t[j]!).2)) (dbit (ext d c) t[j]!).1 (2*j+(dbit (ext d c) t[j]!).2.toNat)=_
  rw[dbit_ext h1]
  exact tdec_ext k h
theorem dbits_miss :∀(k:Nat) {d:Dec} {a:Int},(dbits k d a).1.missing=false→d.missing=false
 |0,_,_,h=>h
 |k+1,d,a,h=>dbit_miss (dbits_miss k (a:=a*2+(dbit d 1024).2) h)
theorem dbits_ext {c:UInt8}:∀(k:Nat) {d:Dec} {a:Int},(dbits k d a).1.missing=false→dbits k (ext d c) a=(ext (dbits k d a).1 c,(dbits k d a).2)
 |0,_,_,_=>rfl
 |k+1,d,a,h=>by
  have h1:(dbit d 1024).1.missing=false:=dbits_miss k (a:=a*2+(dbit d 1024).2) h
  show dbits k (dbit (ext d c) 1024).1 (a*2+(dbit (ext d c) 1024).2)=_
  rw[dbit_ext h1]
  exact dbits_ext k h

theorem edir_in {n:Nat}{e:Enc}(hok:EncOk n e)(hi:InB e)(x v:Int):Within e (edir e x v)∧InB (edir e x v):=by
 unfold edir
 split
 ·exact⟨.refl _,hi⟩
 ·exact within_ebits _ hok hi
theorem ddir_miss {d:Dec}{x:Int}(h:(ddir d x).1.missing=false):d.missing=false:=by
 unfold ddir at h
 split at h
 ·exact h
 ·exact dbits_miss _ h
theorem ddir_ext {c:UInt8}{d:Dec}{x:Int}(h:(ddir d x).1.missing=false):ddir (ext d c) x=(ext (ddir d x).1 c,(ddir d x).2):=by
 unfold ddir at h ⊢
 split
 ·rfl
 ·rename_i hx
  rw[if_neg hx]at h
  exact dbits_ext _ h
theorem benc_in {P:List Int}{c v:Int}{n:Nat}{e:Enc}(hok:EncOk n e)(hi:InB e):Within e (benc P c e v).2∧InB (benc P c e v).2:=tenc_in (v:=v) 8 (t:=bsel P (c/32).toNat) (j:=1) hok hi
theorem benc_read {D:List UInt8}{f:Enc}{P:List Int}{c v:Int}{n:Nat}{e:Enc}{d:Dec}(hf:Beh D f)(s:Syn D e d)(hok:EncOk n e)(hi:InB e)(w:Within (benc P c e v).2 f) :
  Syn D (benc P c e v).2 (bdec P c d).2.1∧(bdec P c d).1=(benc P c e v).1∧(bdec P c d).2.2=v%256:=by
 obtain⟨h1,h2,h3⟩:=tenc_read (v:=v) hf 8 (t:=bsel P (c/32).toNat) (j:=1) s hok hi w
 refine⟨h1,congrArg (bput P (c/32).toNat) h2,?_⟩
 show((((tdec 8 (bsel P (c/32).toNat) d 1).2.2-256:Nat)):Int)=v%256
 have h28:(2^8:Int)=256:=rfl
 rw[h28]at h3
 omega
theorem bdec_miss {P:List Int}{c:Int}{d:Dec}(h:(bdec P c d).2.1.missing=false):d.missing=false:=tdec_miss 8 (t:=bsel P (c/32).toNat) (j:=1) h
theorem bdec_full {P:List Int}{c:Int}{d:Dec}:(bdec P c d).2.1.full=d.full:=tdec_full 8 (t:=bsel P (c/32).toNat) (j:=1)
theorem bdec_ext {P:List Int}{c:Int}{d:Dec}{x:UInt8}(h:(bdec P c d).2.1.missing=false):bdec P c (ext d x)=((bdec P c d).1,ext (bdec P c d).2.1 x,(bdec P c d).2.2):=by
 have:=tdec_ext (c:=x) 8 (t:=bsel P (c/32).toNat) (j:=1) h
 unfold bdec
 rw[this]
theorem nenc_in {t:List Int}{v:Int}{n:Nat}{e:Enc}(hok:EncOk n e)(hi:InB e):Within e (nenc t e v).2∧InB (nenc t e v).2:=by
 have h1:=tenc_in (v:=(blen (ncut v).toNat:Int)) 6 (t:=t) (j:=1) hok hi
 have h2:=(tenc_ok (v:=(blen (ncut v).toNat:Int)) (k:=6) (t:=t) (j:=1) hok).1
 show Within e (if _ then _ else _)∧InB (if _ then _ else _)
 split
 ·have h3:=edir_in h2 h1.2 ((blen (ncut v).toNat:Int)-1) (ncut v)
  exact⟨h1.1.trans h3.1,h3.2⟩
 ·exact h1
theorem ncut_in (v:Int):0≤ncut v∧ncut v≤4611686018427387903:=by unfold ncut;split <;> omega
theorem blen_lt (x:Nat):x<2^blen x:=by
 unfold blen
 split
 ·rename_i h;subst h;decide
 ·exact Nat.lt_log2_self
theorem blen_ge {x:Nat}(h:x≠0):2^(blen x-1)≤x:=by
 unfold blen
 rw[if_neg h,Nat.add_sub_cancel]
 exact Nat.log2_self_le h
theorem nenc_read {D:List UInt8}{f:Enc}{t:List Int}{v:Int}{n:Nat}{e:Enc}{d:Dec}(hf:Beh D f)(s:Syn D e d)(hok:EncOk n e)(hi:InB e)(w:Within (nenc t e v).2 f) :
  Syn D (nenc t e v).2 (ndec t d).2.1∧(ndec t d).1=(nenc t e v).1∧(ndec t d).2.2=ncut v:=by
 have hcut:=ncut_in v
 unfold nenc at w ⊢
 unfold ndec
 obtain⟨x,hx⟩:=Int.eq_ofNat_of_zero_le hcut.1
 rw[hx]at hcut w ⊢
 rw[Int.toNat_natCast]at w ⊢
 have hl:blen x≤62:=blen_le (by have:(2:Nat)^62=4611686018427387904:=rfl;omega)
 have h1:=tenc_in (v:=(blen x:Int)) 6 (t:=t) (j:=1) hok hi
 have h2:=(tenc_ok (v:=(blen x:Int)) (k:=6) (t:=t) (j:=1) hok).1
 have hlt:=blen_lt x
 have hge:=fun h=>blen_ge (x:=x) h
 have hz2:x=0→blen x=0:=fun h=>by rw[h];rfl
 have w1:Within (tenc (blen x) 6 t e 1).2 f:=by
  dsimp only at w
  split at w
  ·exact(edir_in h2 h1.2 _ _).1.trans w
  ·exact w
 obtain⟨g1,g2,g3⟩:=tenc_read (v:=(blen x:Int)) hf 6 (t:=t) (j:=1) s hok hi w1
 have h26:(2^6:Int)=64:=rfl
 rw[h26]at g3
 have hj:(tdec 6 t d 1).2.2-64=blen x:=by omega
 rw[hj]
 dsimp only at w ⊢
 generalize blen x=l at *
 by_cases h0:l≤1
 ·rw[if_neg (show ¬2≤l by omega),if_pos (show l≤1∨l=63 from .inl h0),if_pos h0]
  refine⟨g1,g2,?_⟩
  have:l=0∨l=1:=by omega
  rcases this with rfl|rfl
  ·rw[Nat.pow_zero]at hlt;omega
  ·rw[Nat.pow_one]at hlt
   have:x≠0:=fun h=>absurd (hz2 h) (by decide)
   omega
 ·rw[if_pos (show 2≤l by omega),if_neg (show ¬(l≤1∨l=63)by omega),if_neg h0,if_neg (show ¬l=63 by omega)]
  rw[if_pos (show 2≤l by omega)]at w
  have hx0:x≠0:=fun h=>by have:=hz2 h;omega
  have e1:∀E V,edir E ((l:Int)-1) V=ebits V (l-1) E:=fun E V=>by unfold edir;rw[if_neg (by omega),show((l:Int)-1).toNat=l-1 by omega]
  have e2:∀D,ddir D ((l:Int)-1)=dbits (l-1) D 0:=fun D=>by unfold ddir;rw[if_neg (by omega),show((l:Int)-1).toNat=l-1 by omega]
  rw[e1]at w ⊢
  rw[e2]
  obtain⟨k1,k2⟩:=bits_read hf.len hf.val hf.size (v:=(x:Int)) (l-1) (a:=0) g1 h2 h1.2 w
  refine⟨k1,g2,?_⟩
  rw[k2]
  have hg:=hge hx0
  have hp2:2^l=2^(l-1)*2:=by rw[←Nat.pow_succ];congr 1;omega
  rw[hp2]at hlt
  have hc:((2:Int)^(l-1))=((2^(l-1):Nat):Int):=by simp
  rw[hc]
  generalize 2^(l-1)=p at *
  have:x%p=x-p:=by rw[Nat.mod_eq_sub_mod hg,Nat.mod_eq_of_lt (by omega)]
  rw[←Int.natCast_emod,this]
  omega
theorem ndec_miss {t:List Int}{d:Dec}(h:(ndec t d).2.1.missing=false):d.missing=false∧(tdec 6 t d 1).2.1.missing=false:=by
 have:(tdec 6 t d 1).2.1.missing=false:=by
  unfold ndec at h
  dsimp only at h
  split at h
  ·exact h
  ·exact ddir_miss h
 exact⟨tdec_miss 6 (t:=t) (j:=1) this,this⟩
theorem ndec_full {t:List Int}{d:Dec}:(ndec t d).2.1.full=d.full:=by
 unfold ndec
 dsimp only
 split
 ·exact tdec_full 6 (t:=t) (j:=1)
 ·exact(ddir_full _ _).trans (tdec_full 6 (t:=t) (j:=1))
theorem ndec_ext {t:List Int}{d:Dec}{x:UInt8}(h:(ndec t d).2.1.missing=false):ndec t (ext d x)=((ndec t d).1,ext (ndec t d).2.1 x,(ndec t d).2.2):=by
 have h1:=tdec_ext (c:=x) 6 (t:=t) (j:=1) (ndec_miss h).2
 unfold ndec at h ⊢
 rw[h1]
 dsimp only at h ⊢
 generalize tdec 6 t d 1=T at *
 by_cases h0:T.2.2-64≤1∨T.2.2-64=63
 ·rw[if_pos h0,if_pos h0]
  by_cases h2:T.2.2-64≤1
  ·rw[if_pos h2,if_pos h2]
  ·rw[if_neg h2,if_neg h2,if_pos (by omega),if_pos (by omega)]
 ·rw[if_neg h0]at h
  rw[if_neg h0,if_neg h0,if_neg (by omega),if_neg (by omega),if_neg (by omega),if_neg (by omega),ddir_ext h]

theorem start_full {n:Nat}{f:Enc}(hok:EncOk n f)(w:Within encZ f):(dnew (fin f)).full=false:=by
 have hv:=fin_val hok.low
 have ha:=within_at w (fin_len _) hv (by have:=hok.size;omega)
 have hlen:4≤(fin f).length:=by rw[fin_len];omega
 generalize fin f=D at *
 obtain⟨a,b,c,d,r,rfl⟩:=four hlen
 ·have h1:=a.toNat_lt;have h2:=b.toNat_lt;have h3:=c.toNat_lt;have h5:=d.toNat_lt
  have hv4:val [a,b,c,d]=((a.toNat*256+b.toNat)*256+c.toNat)*256+d.toNat:=by simp[val]
  have ha2:(val [a,b,c,d]:Int)<4294967295:=by
   have:=ha.2
   rw[show num' encZ+encZ.size=4294967295 from rfl]at this
   exact this
  show decide ((((0*256%4294967296+(a.toNat:Int))*256%4294967296+(b.toNat:Int))*256%4294967296+(c.toNat:Int))*256%4294967296+(d.toNat:Int)=4294967295)=false
  rw[decide_eq_false_iff_not]
  omega
theorem start_syn {n:Nat}{f:Enc}(hok:EncOk n f)(w:Within encZ f):Syn (fin f) encZ (dnew (fin f)):=dnew_syn (by rw[fin_len];omega) (start_full hok w)

theorem lead_fin :∀f:Nat,f<256→(f<128→vlead (f:Int) 8 0=0∧vlow (f:Int) 0=f)∧(128≤f→f<192→vlead (f:Int) 8 0=1∧vlow (f:Int) 1=(f:Int)-128)∧(192≤f→2≤vlead (f:Int) 8 0):=by decide +kernel
theorem hd_fin :∀m:Nat,m<128→vhd 0 (m:Int)=m∧(m<64→vhd 1 (m:Int)=128+(m:Int)):=by decide +kernel
theorem vbnd0 :vbnd 0=0:=rfl
theorem vbnd1 :vbnd 1=128:=by decide
theorem vbnd2 :vbnd 2=16512:=by decide
theorem vk_lo {n:Int}(h:n<128):vk n=0:=by
 show(if vbnd 1≤n then vks n 7 1 else 0)=0
 rw[vbnd1,if_neg (by omega)]
theorem vk_hi {n:Int}(h:128≤n)(h2:n<16512):vk n=1:=by
 show(if vbnd 1≤n then(if vbnd 2≤n then vks n 6 2 else 1)else 0)=1
 rw[vbnd1,vbnd2,if_pos h,if_neg (by omega)]
theorem vnum_lo {n:Int}(h0:0≤n)(h:n<128):vnum n=[b8 n]:=by
 obtain⟨m,rfl⟩:=Int.eq_ofNat_of_zero_le h0
 unfold vnum
 rw[if_neg (by omega),vk_lo h,vbnd0,Int.sub_zero]
 show [b8 (vhd 0 (m:Int))]=_
 rw[(hd_fin m (by omega)).1]
theorem vnum_hi {n:Int}(h0:128≤n)(h:n<16512):vnum n=[b8 (128+(n-128)/256),b8 ((n-128)%256)]:=by
 unfold vnum
 rw[if_neg (by omega),vk_hi h0 h,vbnd1]
 show [b8 (vhd 1 ((n-128)/256)),b8 ((n-128)%256)]=_
 obtain⟨m,hm⟩:=Int.eq_ofNat_of_zero_le (show 0≤(n-128)/256 by omega)
 rw[hm,(hd_fin m (by omega)).2 (by omega)]
theorem bat_zero (x:UInt8)(r:List UInt8):bat (x::r) 0=x.toNat:=rfl
theorem vpeek_lo {x:UInt8}{r:List UInt8}(h:x.toNat<128):vpeek (x::r)=((x.toNat:Int),1,true):=by
 have hl:=(lead_fin x.toNat (by omega)).1 h
 unfold vpeek
 rw[if_neg (by simp),bat_zero,hl.1,if_neg (by simp),hl.2,vbnd0]
 rw[show vacc (x::r) 0 1 (x.toNat:Int)=x.toNat from rfl,if_neg (by omega),Int.add_zero]
 rfl
theorem vpeek_hi {x y:UInt8}{r:List UInt8}(h:128≤x.toNat)(h2:x.toNat<192):vpeek (x::y::r)=(((x.toNat:Int)-128)*256+y.toNat+128,2,true):=by
 have hl:=(lead_fin x.toNat (by omega)).2.1 h h2
 have hy:=y.toNat_lt
 unfold vpeek
 rw[if_neg (by simp),bat_zero,hl.1,if_neg (by simp),hl.2,vbnd1]
 rw[show vacc (x::y::r) 1 1 ((x.toNat:Int)-128)=((x.toNat:Int)-128)*256+y.toNat from rfl,if_neg (by omega)]
 rfl
theorem vpeek_num {n:Int}(h0:0≤n)(h:n≤4096)(r:List UInt8):vpeek (vnum n++r)=(n,((vnum n).length:Int),true):=by
 by_cases h1:n<128
 ·rw[vnum_lo h0 h1]
  have:=b8_val (n:=n) (by omega)
  show vpeek (b8 n::r)=_
  rw[vpeek_lo (by omega),this]
  rfl
 ·rw[vnum_hi (by omega) (by omega)]
  have e1:=b8_val (n:=128+(n-128)/256) (by omega)
  have e2:=b8_val (n:=(n-128)%256) (by omega)
  show vpeek (b8 (128+(n-128)/256)::b8 ((n-128)%256)::r)=_
  rw[vpeek_hi (by omega) (by omega),e1,e2]
  have:(128+(n-128)/256-128)*256+(n-128)%256+128=n:=by omega
  rw[this]
  rfl
theorem rdN_num {n:Int}(h0:0≤n)(h:n≤4096)(r:List UInt8):rdN (vnum n++r) 4096=(n,r,0):=by
 unfold rdN
 rw[vpeek_num h0 h]
 dsimp only
 rw[if_neg (by decide),if_neg (by omega),Int.toNat_natCast,List.drop_left]

theorem wst_in {n:Nat}{s:Ms × Enc}{t:Pc}(hok:EncOk n s.2)(hi:InB s.2):Within s.2 (wst s t).2∧InB (wst s t).2:=by
 unfold wst
 split
 ·have h1:=tenc_ok (v:=0) (k:=1) (t:=s.1.K) (j:=1) hok
  have g1:=tenc_in (v:=0) 1 (t:=s.1.K) (j:=1) hok hi
  have g2:=benc_in (P:=s.1.P) (c:=s.1.c) (v:=t.2.2) h1.1 g1.2
  exact⟨g1.1.trans g2.1,g2.2⟩
 ·have h1:=tenc_ok (v:=1) (k:=1) (t:=s.1.K) (j:=1) hok
  have h2:=nenc_ok (t:=s.1.L) h1.1 (t.1-2)
  have g1:=tenc_in (v:=1) 1 (t:=s.1.K) (j:=1) hok hi
  have g2:=nenc_in (t:=s.1.L) (v:=t.1-2) h1.1 g1.2
  have g3:=nenc_in (t:=s.1.D) (v:=t.2.1-1) h2.1 g2.2
  exact⟨(g1.1.trans g2.1).trans g3.1,g3.2⟩
theorem wrun_in (l:List Pc):∀{n:Nat} {s:Ms × Enc},MsOk s.1→EncOk n s.2→InB s.2→(∀t∈l,vPb t)→Within s.2 (wrun l s).2∧InB (wrun l s).2:=by
 induction l with
 |nil=>intro n s _ _ hi _;exact⟨.refl _,hi⟩
 |cons t r ih =>
  intro n s hx hok hi ht
  have h1:=wst_ok hx hok (ht t (by simp))
  have g1:=wst_in (t:=t) hok hi
  have g2:=ih h1.1 h1.2 g1.2 (fun u hu=>ht u (by simp[hu]))
  rw[wrun_cons]
  exact⟨g1.1.trans g2.1,g2.2⟩
theorem wst_read {D:List UInt8}{f:Enc}{n:Nat}{s:Ms × Enc}{d:Dec}{t:Pc}(hf:Beh D f)(sy:Syn D s.2 d)(hok:EncOk n s.2)(hi:InB s.2)(ht:vPb t)(w:Within (wst s t).2 f) :
  Syn D (wst s t).2 (zrd s.1 d).d∧(zrd s.1 d).x=(wst s t).1∧(zrd s.1 d).t=t∧((zrd s.1 d).lit=true↔t.2.1=0)∧(zrd s.1 d).d.full=d.full:=by
 obtain⟨hv,hy⟩:=ht
 obtain⟨a,b,y⟩:=t
 dsimp only at hv hy
 unfold wst at w ⊢
 dsimp only at w ⊢
 by_cases h0:b=0
 ·have ha:a=1:=by rcases hv with g|g <;> (dsimp only at g;omega)
  subst h0 ha
  rw[if_pos rfl]at w ⊢
  dsimp only at w ⊢
  have h1:=tenc_ok (v:=0) (k:=1) (t:=s.1.K) (j:=1) hok
  have g1:=tenc_in (v:=0) 1 (t:=s.1.K) (j:=1) hok hi
  have g2:=benc_in (P:=s.1.P) (c:=s.1.c) (v:=y) h1.1 g1.2
  obtain⟨k1,k2,k3⟩:=tenc_read (v:=0) hf 1 (t:=s.1.K) (j:=1) sy hok hi (g2.1.trans w)
  obtain⟨m1,m2,m3⟩:=benc_read hf k1 h1.1 g1.2 (P:=s.1.P) (c:=s.1.c) (v:=y) w
  have hj:(tdec 1 s.1.K d 1).2.2=2:=by
   have e:(2:Int)^1*((1:Nat):Int)+0%2^1=2:=by decide
   rw[e]at k3;omega
  have hfu:=tdec_full 1 (t:=s.1.K) (d:=d) (j:=1)
  have hfu2:=bdec_full (P:=s.1.P) (c:=s.1.c) (d:=(tdec 1 s.1.K d 1).2.1)
  have hyy:y%256=y:=by omega
  unfold zrd
  rw[if_pos hj]
  dsimp only
  rw[m2,m3,k2,hyy]
  exact⟨m1,rfl,rfl,⟨fun _=>rfl,fun _=>rfl⟩,hfu2.trans hfu⟩
 ·have hg:1≤b∧b≤4096∧2≤a∧a≤273∧y=0:=by rcases hv with g|g <;> (dsimp only at g;omega)
  rw[if_neg h0]at w ⊢
  dsimp only at w ⊢
  have h1:=tenc_ok (v:=1) (k:=1) (t:=s.1.K) (j:=1) hok
  have h2:=nenc_ok (t:=s.1.L) h1.1 (a-2)
  have g1:=tenc_in (v:=1) 1 (t:=s.1.K) (j:=1) hok hi
  have g2:=nenc_in (t:=s.1.L) (v:=a-2) h1.1 g1.2
  have g3:=nenc_in (t:=s.1.D) (v:=b-1) h2.1 g2.2
  obtain⟨k1,k2,k3⟩:=tenc_read (v:=1) hf 1 (t:=s.1.K) (j:=1) sy hok hi ((g2.1.trans g3.1).trans w)
  obtain⟨m1,m2,m3⟩:=nenc_read hf k1 h1.1 g1.2 (t:=s.1.L) (v:=a-2) (g3.1.trans w)
  obtain⟨p1,p2,p3⟩:=nenc_read hf m1 h2.1 g2.2 (t:=s.1.D) (v:=b-1) w
  have hj:¬(tdec 1 s.1.K d 1).2.2=2:=by
   have e:(2:Int)^1*((1:Nat):Int)+1%2^1=3:=by decide
   rw[e]at k3;omega
  have hfu:=tdec_full 1 (t:=s.1.K) (d:=d) (j:=1)
  have hfu2:=ndec_full (t:=s.1.L) (d:=(tdec 1 s.1.K d 1).2.1)
  have hfu3:=ndec_full (t:=s.1.D) (d:=(ndec s.1.L (tdec 1 s.1.K d 1).2.1).2.1)
  rw[show ncut (a-2)=a-2 from if_neg (by omega)]at m3
  rw[show ncut (b-1)=b-1 from if_neg (by omega)]at p3
  unfold zrd
  rw[if_neg hj]
  dsimp only
  rw[p2,p3,m2,m3,k2,Int.sub_add_cancel,Int.sub_add_cancel,hg.2.2.2.2]
  exact⟨p1,rfl,rfl,⟨fun g=>(by cases g),fun g=>absurd g h0⟩,(hfu3.trans hfu2).trans hfu⟩
def Fit (n:Nat):List UInt8→List Pc→Prop
 |o,[]=>o.length=n
 |o,t::r=>o.length<n∧(t.2.1=0∨okC n o t)∧Fit n (estp o t) r
theorem rdP_read {D:List UInt8}{f:Enc}{n:Nat}(hf:Beh D f)(ps:List Pc):∀{m k:Nat} {s:Ms × Enc} {d:Dec} {o:List UInt8},MsOk s.1→EncOk m s.2→InB s.2→Syn D s.2 d→Fit n o ps→(∀t∈ps,vPb t)→Within (wrun ps s).2 f→n-o.length≤k →
  ∃d',rdP n k s.1 d o=some (ps,d')∧Syn D (wrun ps s).2 d'∧d'.full=d.full:=by
 induction ps with
 |nil=>intro m k s d o _ _ _ sy hfit _ _ _;exact⟨d,rdP_end (by have:o.length=n:=hfit;omega),sy,rfl⟩
 |cons t r ih =>
  intro m k s d o hx hok hi sy hfit ht w hk
  obtain⟨f1,f2,f3⟩:=hfit
  have h1:=wst_ok hx hok (ht t (by simp))
  have g1:=wst_in (t:=t) hok hi
  have htr:∀u∈r,vPb u:=fun u hu=>ht u (by simp[hu])
  have g2:=wrun_in r h1.1 h1.2 g1.2 htr
  rw[wrun_cons]at w ⊢
  obtain⟨q1,q2,q3,q4,q5⟩:=wst_read hf sy hok hi (ht t (by simp)) (g2.1.trans w)
  obtain⟨k',rfl,e⟩:=rdP_go (x:=s.1) (d:=d) f1 hk
  have hlen:o.length+1≤(estp o t).length:=by
   have hv:=(ht t (by simp)).1
   have:=estp_len (o:=o) hv
   rcases hv with g|g <;> omega
  obtain⟨d',e1,e2,e3⟩:=ih (k:=k') (o:=estp o t) h1.1 h1.2 g1.2 q1 f3 htr w (by omega)
  rw[e,q3,q2,e1,if_pos (f2.imp q4.2 id)]
  exact⟨d',rfl,e2,e3.trans q5⟩
theorem cov_fit {l:List UInt8}{w:Int}(hw:w≤4096):∀{ps:List Pc} {i:Nat},i≤l.length→Cov l w i ps→Fit l.length (l.take i) ps∧exps ps (l.take i)=l
 |[],i,_,h=>by
  obtain rfl:i=l.length:=h
  rw[List.take_length];exact⟨rfl,rfl⟩
 |t::r,i,hi,h=>by
  have hl:(l.take i).length=i:=by rw[List.length_take];omega
  have hf:=h.1.fits hw
  have hest:estp (l.take i) t=l.take (i+t.1.toNat)∧(t.2.1=0∨okC l.length (l.take i) t):=by
   rcases h.1 with⟨hil,rfl⟩|⟨n,d,rfl,h1,h2,h3,h4,h5,h6,h7⟩
   ·refine⟨?_,.inl (litP_at l i)⟩
    unfold estp
    rw[if_pos (litP_at l i)]
    show l.take i++[byt (bat l i)]=l.take (i+1)
    rw[byt_bat hil,List.take_append_getElem hil]
   ·refine⟨?_,.inr (by unfold okC;rw[hl];dsimp only;omega)⟩
    unfold estp
    rw[if_neg (by show ¬(d:Int)=0;omega)]
    show copyN (d:Int).toNat (n:Int).toNat _=l.take (i+(n:Int).toNat)
    rw[Int.toNat_natCast,Int.toNat_natCast]
    exact copyN_take h3 n i h5 h6 h7
  have hn:=cov_fit hw (ps:=r) (i:=i+t.1.toNat) (by omega) h.2
  refine⟨⟨by rw[hl];omega,hest.2,by rw[hest.1];exact hn.1⟩,?_⟩
  show exps r (estp (l.take i) t)=l
  rw[hest.1];exact hn.2
theorem rstp_miss {x:Ms}{d:Dec}(h:(zrd x d).d.missing=false):d.missing=false:=by
 unfold zrd at h
 split at h
 ·exact tdec_miss 1 (bdec_miss h)
 ·exact tdec_miss 1 (ndec_miss (ndec_miss h).1).1
theorem rstp_ext {x:Ms}{d:Dec}{c:UInt8}(h:(zrd x d).d.missing=false):zrd x (ext d c)=⟨(zrd x d).x,ext (zrd x d).d c,(zrd x d).lit,(zrd x d).t⟩:=by
 unfold zrd at h ⊢
 by_cases hj:(tdec 1 x.K d 1).2.2=2
 ·rw[if_pos hj]at h ⊢
  have h1:=tdec_ext (c:=c) 1 (t:=x.K) (j:=1) (bdec_miss h)
  have h2:=bdec_ext (x:=c) h
  rw[h1]
  dsimp only
  rw[if_pos hj,h2]
 ·rw[if_neg hj]at h ⊢
  have h1:=tdec_ext (c:=c) 1 (t:=x.K) (j:=1) (ndec_miss (ndec_miss h).1).1
  have h2:=ndec_ext (x:=c) (ndec_miss h).1
  have h3:=ndec_ext (x:=c) h
  rw[h1]
  dsimp only
  rw[if_neg hj,h2]
  dsimp only
  rw[h3]
theorem rdP_miss {n:Nat}:∀{f:Nat} {x:Ms} {d:Dec} {o:List UInt8} {r:List Pc × Dec},rdP n f x d o=some r→r.2.missing=false→d.missing=false
 |0,x,d,o,r,h,hm=>by obtain rfl:=Option.some.inj h;exact hm
 |f+1,x,d,o,r,h,hm=>by
  by_cases hlt:o.length<n
  ·rw[show rdP n (f+1) x d o=_ from if_pos hlt]at h
   split at h
   ·obtain⟨r',e1,rfl⟩:=Option.map_eq_some_iff.1 h
    exact rstp_miss (rdP_miss e1 hm)
   ·cases h
  ·rw[rdP_end hlt]at h
   obtain rfl:=Option.some.inj h;exact hm
theorem rdP_ext {n:Nat}{c:UInt8}:∀{f:Nat} {x:Ms} {d:Dec} {o:List UInt8} {r:List Pc × Dec},rdP n f x d o=some r→r.2.missing=false→rdP n f x (ext d c) o=some (r.1,ext r.2 c)
 |0,x,d,o,r,h,hm=>by obtain rfl:=Option.some.inj h;rfl
 |f+1,x,d,o,r,h,hm=>by
  by_cases hlt:o.length<n
  ·rw[show rdP n (f+1) x d o=_ from if_pos hlt]at h
   rw[show rdP n (f+1) x (ext d c) o=_ from if_pos hlt]
   split at h
   ·rename_i hg
    obtain⟨r',e1,rfl⟩:=Option.map_eq_some_iff.1 h
    have hm1:=rdP_miss e1 hm
    rw[rstp_ext hm1]
    dsimp only
    rw[if_pos hg,rdP_ext e1 hm]
    rfl
   ·cases h
  ·rw[rdP_end hlt]at h ⊢
   obtain rfl:=Option.some.inj h;rfl
theorem lzR_wrt {l:List UInt8}{w:Int}{ps:List Pc}(hw:w≤4096)(hc:Cov l w 0 ps):∃d',rdP l.length l.length ms0 (dnew (fin (wrun ps zs0).2)) []=some (ps,d')∧dend d'=0∧(∀c,rdP l.length l.length ms0 (dnew (fin (wrun ps zs0).2++[c])) []=some (ps,ext d' c))∧exps ps []=l:=by
 have hv:=cov_vPb hw hc
 have h1:=wrun_ok (s:=zs0) ms0_ok encZ_ok hv
 have h2:=wrun_in ps (s:=zs0) ms0_ok encZ_ok e00_InB hv
 have hfit:=cov_fit hw (Nat.zero_le _) hc
 rw[List.take_zero]at hfit
 obtain⟨d',e1,e2,e3⟩:=rdP_read (n:=l.length) (Beh.fin h1.2) ps (k:=l.length) (s:=zs0) (o:=[]) ms0_ok encZ_ok e00_InB (start_syn h1.2 h2.1) hfit.1 hv (.refl _) (Nat.sub_le _ _)
 have hend:=inv_end h1.2.low e2 (e3.trans (start_full h1.2 h2.1))
 obtain⟨k1,_⟩:=dend_zero hend
 refine⟨d',e1,hend,fun c=>?_,hfit.2⟩
 rw[dnew_ext (by rw[fin_len];omega)]
 exact rdP_ext e1 k1

theorem lzE_ne {l:List UInt8}(hl:l.length≤4096)(h0:l≠[]):lzE l=(wrt l.length (pcs l),0):=by unfold lzE;rw[if_neg (by omega),if_neg h0]
theorem lzD_wrt {l:List UInt8}{w:Int}{ps:List Pc}(hl:l.length≤4096)(hw:w≤4096)(hc:Cov l w 0 ps)(most:Int) :
  lzD (wrt l.length ps) most=(if most<l.length then([],2)else if lzE l=(wrt l.length ps,0)then(l,0)else([],12)) ∧
  ∀c,lzD (wrt l.length ps++[c]) most=(if most<l.length then([],2)else if lzE l=(wrt l.length ps++[c],0)then(l,0)else([],12)):=by
 obtain⟨d',e1,e2,e3,e4⟩:=lzR_wrt hw hc
 have k1:lzR (fin (wrun ps zs0).2) l.length=(l,true):=by unfold lzR;rw[e1];dsimp only;rw[e4]
 have k2:∀c,lzR (fin (wrun ps zs0).2++[c]) l.length=(l,true):=fun c=>by unfold lzR;rw[e3 c];dsimp only;rw[e4]
 have key:∀(R:List UInt8),lzR R l.length=(l,true)→lzD (vnum l.length++R) most=(if most<l.length then([],2)else if lzE l=(vnum l.length++R,0)then(l,0)else([],12)):=fun R hR=>by
  unfold lzD
  rw[rdN_num (by omega) (by omega)]
  dsimp only
  rw[Int.toNat_natCast,hR]
  dsimp only
  rw[if_neg (by decide)]
  by_cases h:most<(l.length:Int)
  ·rw[if_pos h,if_pos h]
  ·rw[if_neg h,if_neg h,if_neg (by decide)]
 refine⟨key _ k1,fun c=>?_⟩
 unfold wrt
 rw[List.append_assoc]
 exact key _ (k2 c)
theorem lzD_nil (c:UInt8):lzD [0] 0=([],0)∧lzD [0] (-1)=([],2)∧lzD [0,c] 0=([],12):=by
 refine⟨by decide +kernel,by decide +kernel,?_⟩
 have e:rdN [0,c] 4096=(0,[c],0):=rdN_num (n:=0) (by decide) (by decide) [c]
 unfold lzD
 rw[e]
 dsimp only
 rw[if_neg (by decide),if_neg (by decide),if_neg (by show ¬true=false;decide),if_neg]
 show ¬lzE (exps [] [])=([0,c],0)
 rw[show lzE (exps [] [])=([0],0)from zx1]
 intro g
 have:=congrArg List.length (congrArg Prod.fst g)
 cases this
theorem lzD_own {l:List UInt8}(hl:l.length≤4096):(lzE l).2=0∧lzD (lzE l).1 l.length=(l,0)∧lzD (lzE l).1 ((l.length:Int)-1)=([],2)∧∀c,lzD ((lzE l).1++[c]) l.length=([],12):=by
 by_cases h0:l=[]
 ·subst h0
  rw[zx1]
  refine⟨rfl,(lzD_nil 0).1,(lzD_nil 0).2.1,fun c=>(lzD_nil c).2.2⟩
 ·have h1:=lzE_ne hl h0
  have h2:=lzD_wrt hl (by omega) (pcs_cov hl)
  rw[h1]
  refine⟨rfl,?_,?_,fun c=>?_⟩
  ·show lzD (wrt l.length (pcs l)) l.length=_
   rw[(h2 l.length).1,if_neg (by omega),if_pos h1]
  ·show lzD (wrt l.length (pcs l)) ((l.length:Int)-1)=_
   rw[(h2 _).1,if_pos (by omega)]
  ·show lzD (wrt l.length (pcs l)++[c]) l.length=_
   rw[(h2 l.length).2,if_neg (by omega),if_neg]
   rw[h1]
   intro g
   have:=congrArg List.length (congrArg Prod.fst g)
   dsimp only at this
   rw[List.length_append,List.length_singleton]at this
   omega
theorem lzE_len {l:List UInt8}(hl:l.length≤4096):(lzE l).1.length≤137*l.length+13:=by
 by_cases h0:l=[]
 ·subst h0;rw[zx1];decide
 ·rw[lzE_ne hl h0]
  have hc:=pcs_cov hl
  have h1:=wrun_ok (s:=zs0) ms0_ok encZ_ok (cov_vPb (by omega) hc)
  have h2:=cov_psum (by omega) hc
  have h3:=h1.2.out
  have h4:=vnum_len (n:=(l.length:Int)) (by omega)
  have h5:=(vk_ok (n:=(l.length:Int)) (by omega)).2
  show(vnum l.length++fin (wrun (pcs l) zs0).2).length≤_
  rw[List.length_append,fin_len]
  omega
end Go.Proofs.YteddogfolceahaaGreat
end
section
set_option maxRecDepth 4000
namespace Go.Gh
open Go.RowKit

abbrev UB (x:BitVec 32):Value:=.int .u32 x.toNat
theorem ofInt_toNat (x:BitVec 32):BitVec.ofInt 32 (x.toNat:Int)=x:=by
 apply BitVec.eq_of_toNat_eq
 rw[BitVec.toNat_ofInt]
 have:=x.isLt
 omega
theorem a_compl {P:Program}{N:Fr}{o:Oper}{a:AF}{H:Heap}(T:TypeId)(x:Operand){b:BitVec 32}(ho:o.op=.unOp .xor T x)(hx:ev a x=some (UB b)):APure P N o a H (UB (~~~ b)):=by
 refine⟨fun _ _ φ w ac _ hf=>?_⟩
 have h1:=(zW hf hx).scalar rfl
 have hv:IntKind.u32.wrap ((BitVec.ofInt 32 4294967295^^^BitVec.ofInt 32 (b.toNat:Int)).toNat:Int)=((~~~ b).toNat:Int):=by
  rw[ofInt_toNat,show BitVec.ofInt 32 4294967295=BitVec.allOnes 32 from rfl,BitVec.allOnes_xor]
  exact IntWalk.u32_in _ (by have:=(~~~ b).isLt;omega)
 exact⟨_,.int _ _,fun w _=>by
  unfold execOp
  simp only[ho,h1,Op.unary,Op.intBits,Sem.run_bind,Sem.run_pure,Result.andThen_ok]
  exact congrArg (fun v=>Result.ok (Next.value (Value.int .u32 v)) w) hv⟩
theorem o_compl {m:Mode}{P:Program}{sz:Nat}{ops:Array Oper}{Q:SPost}{rest:List Oper}{a:AF}{h:SH}{t:Nat}{ty:TypeId}{pos:String}{aft:Array Edge}{T:Nat}{x:Operand}{b:BitVec 32}
  (hx:ev a x=some (UB b)) (hN:Nat.blt t sz=true) (k:GO m.next P sz ops Q rest ((t,UB (~~~ b))::a) h):GO m P sz ops Q (⟨some t,.unOp .xor T x,ty,pos,aft,none⟩::rest) a h :=
 o_pure (fun _ _ _ hag=>a_compl _ _ rfl ((hag.ev (by simp[Op.operands,Call.operands])).trans hx)) hN k
end Go.Gh
end
section
set_option maxRecDepth 4000
namespace Go.Proofs.YteddogfolceahaaGreat
open Go.Gh Go.RowKit

theorem bw (b:BitVec 32):IntKind.u32.wrap (b.toNat:Int)=(b.toNat:Int):=IntWalk.u32_in _ (by have:=b.isLt;omega)
theorem bneg (b:BitVec 32):IntKind.u32.wrap (0-(b.toNat:Int))=((-b).toNat:Int):=by
 rw[IntKind.wrap_u32,BitVec.toNat_neg]
 have:=b.isLt
 omega
theorem bshr (b:BitVec 32):BitVec.ofInt 32 ((b.toNat:Int)/2^(min (Int.toNat 1) IntKind.u32.bits))=b >>> 1:=by
 apply BitVec.eq_of_toNat_eq
 rw[BitVec.toNat_ofInt,BitVec.toNat_ushiftRight,Nat.shiftRight_eq_div_pow]
 have h1:(2:Int)^(min (Int.toNat 1) IntKind.u32.bits)=2:=rfl
 have:=b.isLt
 rw[h1]
 omega
def crcB (x:BitVec 32):BitVec 32:=(x >>> 1)^^^(-(x&&&1#32)&&&0xedb88320#32)
def crcN :Nat→BitVec 32→BitVec 32
 |0,x=>x
 |n+1,x=>crcN n (crcB x)
theorem crc_step (x:BitVec 32):BitVec.ofInt 32 ((x.toNat:Int)/2^(min (Int.toNat 1) IntKind.u32.bits))^^^BitVec.ofInt 32 ((BitVec.ofInt 32 (((-(BitVec.ofInt 32 (x.toNat:Int)&&&BitVec.ofInt 32 1)).toNat:Nat):Int)&&&BitVec.ofInt 32 3988292384).toNat:Int)=crcB x:=by
 rw[bshr,ofInt_toNat,ofInt_toNat,ofInt_toNat]
 rfl
theorem shift_any (x:BitVec 32)(h:SH):SRun Tryz.prog 30 [UB x] h fun r q=>r=UB (crcN 8 x)∧q=h:=by
 obtain⟨R,hR⟩:∃R,crcN 8 x=R:=⟨_,rfl⟩
 rw[hR]
 refine zR Tryz.func30 rfl rfl ?_
 repeat'(first|apply zF|apply zB|apply zE|(apply o_g zC;exact rfl;exact rfl)|apply zA|apply zH|((with_reducible apply Sd.mk);first|exact True.intro))
 refine zZ (S:=Nat × BitVec 32) (fun s=>[(0,UB s.2),(3,I s.1)]) (fun _=>h) (fun s=>s.1≤8∧crcN (8-s.1) s.2=R) (fun s=>8-s.1) (0,x) ⟨Nat.zero_le _,hR⟩ (by repeat'(first|exact trivial|refine⟨rfl,?_⟩|refine⟨congrArg some ?_,?_⟩)) (by repeat with_reducible first|exact Take.nil|apply Take.c|apply Take.drop) ?_
 rintro⟨i,x⟩ ⟨hi,he⟩
 dsimp only at hi he ⊢
 by_cases h8:i<8
 ·rw[show 8-i=(8-(i+1))+1 by omega]at he
  have he:crcN (8-(i+1)) (crcB x)=R:=he
  have hs:=congrArg (fun b:BitVec 32=>some (UB b)) (crc_step x)
  repeat'(first|apply zF|apply zB|apply zE|(apply o_g zC;exact rfl;exact rfl)|(apply o_ar zC;exact rfl;exact rfl)|(apply o_ex;exact rfl;exact rfl)|(apply yC;exact rfl;(focus first|omega))|apply zA|apply zG|apply zI|apply zH|((with_reducible apply Sd.mk);first|exact True.intro|omega)|((with_reducible apply Wr.mk);first|exact bw _|exact bneg _|exact IntWalk.i64_in _ (by omega))|((with_reducible apply Ex.mk);first|rfl))
  all_goals first|(exfalso;omega)|skip
  exact⟨(i+1,crcB x),⟨h8,he⟩,by show 8-(i+1)<8-i;omega,⟨hs,rfl,trivial⟩,(by repeat with_reducible first|exact Take.nil|apply Take.c|apply Take.drop)⟩
 ·obtain rfl:i=8:=by omega
  have he:x=R:=he
  subst he
  repeat'(first|apply zF|apply zB|apply zE|(apply o_g zC;exact rfl;exact rfl)|(apply zS;exact rfl)|apply zA|apply zK|apply zJ|apply zN|apply zV|((with_reducible apply Sd.mk);first|exact True.intro))
  all_goals first|(exfalso;omega)|skip
  (apply zL;(exact(show ResS _ _ _ _ [_] from⟨rfl,trivial⟩));(focus exact⟨rfl,rfl⟩);(focus repeat with_reducible first|exact Take.nil|apply Take.c|apply Take.drop))
def crcL (l:List UInt8):Nat→Nat→BitVec 32→BitVec 32
 |0,_,x=>x
 |k+1,i,x=>crcL l k (i+1) (crcN 8 (x^^^BitVec.ofInt 32 (bat l (i:Int))))
def crcV (l:List UInt8):BitVec 32 := ~~~ (crcL l l.length 0 (~~~ 0#32))
theorem Sum_any (l:List UInt8)(h:SH)(hl:l.length≤9223372036854775807):SRun Tryz.prog 64 [S l] h fun r q=>r=UB (crcV l)∧q=h:=by
 have hU:∀h,SRun Tryz.prog 106 [UB 0#32,S l] h fun r q=>r=UB (crcV l)∧q=h:=by
  intro h
  obtain⟨R,hR⟩:∃R,crcL l l.length 0 (~~~ 0#32)=R:=⟨_,rfl⟩
  rw[show crcV l = ~~~ R by unfold crcV;rw[hR]]
  generalize (0#32:BitVec 32)=z at *
  refine zY Tryz.func106 rfl rfl ?_
  repeat'(first|apply zF|apply zB|apply zE|(apply o_g zC;exact rfl;exact rfl)|(apply o_compl;exact rfl;exact rfl)|apply zA|apply zH|((with_reducible apply Sd.mk);first|exact True.intro))
  refine zZ (S:=Nat × BitVec 32) (fun s=>[(1,S l),(5,UB s.2),(10,I l.length),(11,I s.1)]) (fun _=>h) (fun s=>s.1≤l.length∧crcL l (l.length-s.1) s.1 s.2=R) (fun s=>l.length-s.1) (0,~~~ z) ⟨Nat.zero_le _,hR⟩ (by repeat'(first|exact trivial|refine⟨rfl,?_⟩|refine⟨congrArg some ?_,?_⟩)) (by repeat with_reducible first|exact Take.nil|apply Take.c|apply Take.drop) ?_
  rintro⟨i,x⟩ ⟨hi,he⟩
  dsimp only at hi he ⊢
  by_cases hil:i<l.length
  ·rw[show l.length-i=(l.length-(i+1))+1 by omega]at he
   have he:crcL l (l.length-(i+1)) (i+1) (crcN 8 (x^^^BitVec.ofInt 32 (bat l (i:Int))))=R:=he
   have hb:=bat_255 l (i:Int)
   have hx:BitVec.ofInt 32 (x.toNat:Int)^^^BitVec.ofInt 32 (bat l (i:Int))=x^^^BitVec.ofInt 32 (bat l (i:Int)):=by rw[ofInt_toNat]
   have hS:=fun h=>shift_any (BitVec.ofInt 32 (x.toNat:Int)^^^BitVec.ofInt 32 (bat l (i:Int))) h
   rw[hx]at hS
   repeat'(first|apply zF|apply zB|apply zE|(apply o_g zC;exact rfl;exact rfl)|(apply o_ar zC;exact rfl;exact rfl)|(apply zD;exact rfl;exact rfl;(focus first|exact rfl);exact rfl;(focus exact⟨_,hS _,by repeat with_reducible exact Take.nil⟩);rintro _ _ ⟨rfl,rfl⟩)|(apply yC;exact rfl;(focus first|omega))|apply zA|apply zG|apply zI|apply zH|((with_reducible apply Sd.mk);first|exact True.intro|omega)|((with_reducible apply Wr.mk);first|exact(bw _).trans (congrArg (fun b:BitVec 32=>(b.toNat:Int)) hx)|exact IntWalk.u32_in _ (by omega)|exact IntWalk.i64_in _ (by omega)))
   all_goals first|(exfalso;omega)|skip
   exact⟨(i+1,_),⟨hil,he⟩,by show l.length-(i+1)<l.length-i;omega,(by repeat'(first|exact trivial|refine⟨rfl,?_⟩|refine⟨congrArg some ?_,?_⟩)),(by repeat with_reducible first|exact Take.nil|apply Take.c|apply Take.drop)⟩
  ·obtain rfl:i=l.length:=by omega
   rw[Nat.sub_self]at he
   have he:x=R:=he
   subst he
   repeat'(first|apply zF|apply zB|apply zE|(apply o_g zC;exact rfl;exact rfl)|(apply o_compl;exact rfl;exact rfl)|(apply yD;exact rfl;(focus first|omega))|apply zA|apply zK|apply zJ|apply zN|apply zV|((with_reducible apply Sd.mk);first|exact True.intro))
   all_goals first|(exfalso;omega)|skip
   (apply zL;(exact(show ResS _ _ _ _ [_] from⟨rfl,trivial⟩));(focus exact⟨rfl,rfl⟩);(focus repeat with_reducible first|exact Take.nil|apply Take.c|apply Take.drop))
 refine zR Tryz.func64 rfl rfl ?_
 repeat'(first|apply zF|apply zB|apply zE|(apply o_g zC;exact rfl;exact rfl)|(apply zD;exact rfl;exact rfl;(focus first|exact rfl);exact rfl;(focus exact⟨_,hU _,by repeat with_reducible exact Take.nil⟩);rintro _ _ ⟨rfl,rfl⟩)|apply zA|apply zN|((with_reducible apply Sd.mk);first|exact True.intro))
 (apply zL;(exact(show ResS _ _ _ _ [_] from⟨rfl,trivial⟩));(focus exact⟨rfl,rfl⟩);(focus repeat with_reducible first|exact Take.nil|apply Take.c|apply Take.drop))
end Go.Proofs.YteddogfolceahaaGreat
end
