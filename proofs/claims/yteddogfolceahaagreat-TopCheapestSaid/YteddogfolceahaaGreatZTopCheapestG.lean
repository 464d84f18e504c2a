/- Part 7 of the proof of the law TopCheapest: texts merged. No condition. -/
import Derived.Test.YteddogfolceahaaGreatZTopCheapestF
set_option linter.unusedSimpArgs false
set_option linter.unusedVariables false
section
set_option maxRecDepth 4000
namespace Go.Proofs.YteddogfolceahaaGreat
open Go.Gh Go.RowKit

inductive EncT (n:Nat)(h:SH)(a:Option Nat):Enc→SH→Prop
 |nil (low size:Int) (ha:a=none):EncT n h a ⟨[],low,size⟩ ((n,⟨encC (.slice none 0 0) low size,false⟩)::h)
 |some (o:List UInt8) (low size:Int) (A:Nat) (ha:∀A0,a=.some A0→A=A0) (ho:o≠[]):EncT n h a ⟨o,low,size⟩ ((n,⟨encC (gsl A 0 o.length o.length 1) low size,false⟩)::(A,⟨bytesV o,false⟩)::h)
theorem EncT.pick {n:Nat}{h p:SH}{a:Option Nat}{e:Enc}(hb:EncT n h a e p){A:Nat}{b:Blk}{h1:SH}(hp:Pick h A b h1):∃p1,Pick p A b p1:=by
 cases hb with
 |nil=>exact⟨_,.tail hp⟩
 |some=>exact⟨_,.tail (.tail hp)⟩
theorem EncT.b {n:Nat}{h p:SH}{a:Option Nat}{e:Enc}(hb:EncT n h a e p):EncB n h e p:=by
 cases hb with
 |nil=>exact .nil _ _
 |some=>exact .some _ _ _ _
theorem ne_len {o l:List UInt8}(h:l.length=o.length)(ho:o≠[]):l≠[]:=fun g=>ho (List.length_eq_zero_iff.1 (by rw[←h,g];rfl))
theorem EncT.some' {n:Nat}{a:Option Nat}{h:SH}{o:List UInt8}{m:Nat}(hm:o.length=m)(low size:Int)(A:Nat)(ha:∀A0,a=.some A0→A=A0)(ho:o≠[]):EncT n h a ⟨o,low,size⟩ ((n,⟨encC (gsl A 0 m m 1) low size,false⟩)::(A,⟨bytesV o,false⟩)::h):=by subst hm;exact .some _ _ _ _ ha ho
theorem carryT_any (n:Nat)(a:Option Nat)(e:Enc)(h p:SH)(hb:EncT n h a e p)(ho:e.out.length≤1000000) :
  SRun Tryz.prog 114 [gptr n 0 3] p fun _ q=>EncT n h a ⟨carry e.out,e.low,e.size⟩ q:=by
 cases hb with
 |nil low size ha =>
  refine zR Tryz.func114 rfl rfl ?_
  repeat'(first|apply zF|apply zB|apply zE|(apply o_g zC;exact rfl;exact rfl)|(apply o_ar zC;exact rfl;exact rfl)|(apply zM zC;(iterate 3 exact rfl);(focus exact pk))|apply zA|apply zH|((with_reducible apply Sd.mk);first|exact True.intro)|((with_reducible apply Ln.mk);first|rfl)|((with_reducible apply Wr.mk);first|exact IntWalk.i64_in _ (by omega))|((with_reducible apply Ce.mk);first|rfl)|exact True.intro|exact rfl)
  refine zZ (S:=Unit) (fun x=>[(2,I (0-1))]) (fun x=>(n,⟨encC (.slice none 0 0) low size,false⟩)::h) (fun _=>True) (fun _=>0) () trivial (by repeat'(first|exact trivial|refine⟨rfl,?_⟩|refine⟨congrArg some ?_,?_⟩)) (by repeat with_reducible first|exact Take.nil|apply Take.c|apply Take.drop) ?_
  rintro - -
  repeat'(first|apply zF|apply zB|apply zE|(apply o_g zC;exact rfl;exact rfl)|(apply zS;exact rfl)|apply zA|apply zK|apply zJ|apply zV|((with_reducible apply Sd.mk);first|exact True.intro))
  (apply s_finN;(exact(show ResS _ _ _ _ [] from trivial));(focus exact .nil _ _ ha);(focus repeat with_reducible first|exact Take.nil|apply Take.c|apply Take.drop))
 |some o low size A ha hne =>
  dsimp only at ho
  refine zR Tryz.func114 rfl rfl ?_
  repeat'(first|apply zF|apply zB|apply zE|(apply o_g zC;exact rfl;exact rfl)|(apply o_ar zC;exact rfl;exact rfl)|(apply zM zC;(iterate 3 exact rfl);(focus exact pk))|apply zA|apply zH|((with_reducible apply Sd.mk);first|exact True.intro)|((with_reducible apply Ln.mk);first|rfl)|((with_reducible apply Wr.mk);first|exact IntWalk.i64_in _ (by omega))|((with_reducible apply Ce.mk);first|rfl)|exact True.intro|exact rfl)
  refine zZ (S:=Nat × List UInt8) (fun x=>[(0,gptr n 0 3),(2,I (x.1-1))]) (fun x=>(n,⟨encC (gsl A 0 o.length o.length 1) low size,false⟩)::(A,⟨bytesV x.2,false⟩)::h)
   (fun x=>x.1≤o.length∧x.2.length=o.length∧carryAt x.2 x.1=carry o) (fun x=>x.1) (o.length,o) ⟨Nat.le_refl _,rfl,rfl⟩ (by repeat'(first|exact trivial|refine⟨rfl,?_⟩|refine⟨congrArg some ?_,?_⟩)) (by repeat with_reducible first|exact Take.nil|apply Take.c|apply Take.drop) ?_
  rintro⟨k,l⟩ ⟨hk,hl,he⟩
  dsimp only at hk hl he ⊢
  rw[←hl]
  cases k with
  |zero =>
   repeat'(first|apply zF|apply zB|apply zE|(apply o_g zC;exact rfl;exact rfl)|(apply zS;exact rfl)|apply zA|apply zK|apply zJ|apply zV|((with_reducible apply Sd.mk);first|exact True.intro))
   (apply s_finN;(exact(show ResS _ _ _ _ [] from trivial));(focus rw[←show l=carry o from he];exact .some _ _ _ A ha (ne_len hl hne));(focus repeat with_reducible first|exact Take.nil|apply Take.c|apply Take.drop))
  |succ k =>
   rw[show((k+1:Nat):Int)-1=k by omega]
   repeat'(first|apply zF|apply zB|apply zE|(apply o_g zC;exact rfl;exact rfl)|(apply o_ar zC;exact rfl;exact rfl)|(apply zM zC;(iterate 3 exact rfl);(focus exact pk))|(apply zX zC;(iterate 4 exact rfl);(focus exact up))|(apply yB;exact rfl)|(apply w_ifN;exact rfl;all_goals intro hc)|apply zA|apply zP|apply zG|apply yP|apply zI|apply zN|apply zH|((with_reducible apply Sd.mk);first|exact True.intro|omega)|((with_reducible apply Ln.mk);first|rfl|(simp ;first|done|omega))|((with_reducible apply Wr.mk);first|exact IntWalk.i64_in _ (by omega)|exact IntKind.wrap_u8 _)|((with_reducible apply Ce.mk);first|rfl|exact cell_bytes_set (by omega) (by omega)|exact cell_bytes (by omega))|((with_reducible apply Se.mk);first|exact setAt_bytes (by omega) (by omega))|exact True.intro|exact rfl)
   ·(apply zL;(exact(show ResS _ _ _ _ [] from trivial));(focus rw[←he,carryAt,if_pos hc];exact .some' (m:=l.length) (by simp) _ _ A ha (ne_len (o:=o) (by simpa using hl) hne));(focus repeat with_reducible first|exact Take.nil|apply Take.c|apply Take.drop))
   ·refine⟨(k,l.set k (b8 ((bat l k+1)%256))),⟨by show k≤_;omega,by simp[hl],?_⟩,by show k<k+1;omega,(by repeat'(first|exact trivial|refine⟨rfl,?_⟩|refine⟨congrArg some ?_,?_⟩)),(by repeat with_reducible first|exact Take.nil|apply Take.c|apply Take.drop)⟩
    rw[←he,carryAt,if_neg (fun h=>h hc)]

theorem encT_shift_nil {n A:Nat}{a:Option Nat}{h:SH}{low size:Int}(ha:a=none)(hl:0≤low∧low≤4294967295):EncT n h a (eshift ⟨[],low,size⟩) ((n,⟨encC (gsl A 0 (1*1) 1 1) (low*256%4294967296) (size*256),false⟩)::(A,⟨[Y (low/16777216)],false⟩)::h):=by
 have:=EncT.some' (n:=n) (a:=a) (h:=h) (o:=[b8 (low/16777216)]) (m:=1) rfl (low*256%4294967296) (size*256) A (fun A0 g=>by rw[ha]at g;cases g) (by simp)
 rw[bytesV_one (by omega)]at this
 exact this
theorem encT_shift {n A:Nat}{a:Option Nat}{h:SH}{o:List UInt8}{low size:Int}(ha:∀A0,a=some A0→A=A0)(hl:0≤low∧low≤4294967295):EncT n h a (eshift ⟨o,low,size⟩) ((n,⟨encC (gsl A 0 (o.length+1*1) (o.length+1) 1) (low*256%4294967296) (size*256),false⟩)::(A,⟨bytesV o++[Y (low/16777216)],false⟩)::h):=by
 have:=EncT.some' (n:=n) (a:=a) (h:=h) (o:=o++[b8 (low/16777216)]) (m:=o.length+1) (by simp) (low*256%4294967296) (size*256) A ha (by simp)
 rw[←bytesV_snoc (by omega)]at this
 exact this
theorem BitT_any (n:Nat)(a:Option Nat)(z b:Int)(e:Enc)(h p:SH)(hb:EncT n h a e p)(hok:EncOk 1000000 e) :
  SRun Tryz.prog 76 [gptr n 0 3,I z,I b] p fun _ q=>EncT n h a (ebit e z b) q:=by
 have hd:=size_dvd hok.size z
 unfold bound at hd
 have hz:=clp_in z
 have h1:=hok.low;have h2:=hok.size;have h3:=hok.out
 unfold ebit
 have h4:=estep_ok hok z b
 generalize hs:estep e z b=s at h4
 obtain⟨p1,B',hp⟩:∃p1 sl,Pick p n ⟨encC sl e.low e.size,false⟩ p1:=by cases hb <;> exact⟨_,_,Pick.head⟩
 obtain⟨o,low,size⟩:=e
 dsimp only at *
 refine w_body3 Tryz.func76 rfl rfl ?_
 repeat'((fail_if_success (show SWp _ _ (Code.cond (Operand.tmp 17) _ _) _ _ _));first|apply zF|apply zB|apply zE|(apply yH;(focus kernel_rfl);(focus kernel_rfl))|(apply o_g zC;exact rfl;exact rfl)|(apply o_ar zC;exact rfl;exact rfl)|(apply zM zC;(iterate 3 exact rfl);(focus exact pk))|(apply yS;(iterate 4 exact rfl);(focus exact⟨_,clamp_any _ _,by repeat with_reducible exact Take.nil⟩);(focus exact fun _ _ h=>h.1);(focus(repeat(first|exact Flat.c rfl))))|apply zA|((with_reducible apply Sd.mk);first|exact True.intro|omega)|((with_reducible apply Ln.mk);first|rfl)|((with_reducible apply Wr.mk);first|exact w_quoU (by omega) (by omega)|exact IntWalk.u32_in _ (by omega))|((with_reducible apply Ce.mk);first|rfl)|exact True.intro|exact rfl)
 refine w_meet (S:=SH) (fun _=>[(0,gptr n 0 3)]) (fun q=>q) (fun q=>EncT n h a s q) ?_ ?_
 ·unfold estep bound at hs
  dsimp only at hs
  cases hb with
  |nil low size ha =>
   repeat'(first|apply zF|apply zB|apply zE|(apply o_g zC;exact rfl;exact rfl)|(apply o_ar zC;exact rfl;exact rfl)|(apply zM zC;(iterate 3 exact rfl);(focus exact pk))|(apply zX zC;(iterate 4 exact rfl);(focus exact up))|(apply zD;exact rfl;exact rfl;(focus first|exact rfl);exact rfl;(focus exact⟨_,carryT_any _ _ _ _ _ (.nil _ _ ha) (by simp),by repeat with_reducible exact Take.nil⟩);rintro _ _ hb2)|(apply w_if;exact rfl;all_goals intro hc)|apply zA|apply zI|((with_reducible apply Sd.mk);first|exact True.intro)|((with_reducible apply Ln.mk);first|rfl)|((with_reducible apply Wr.mk);first|exact IntWalk.u32_in _ (by omega)|exact IntKind.wrap_u32 _)|((with_reducible apply Ce.mk);first|rfl)|((with_reducible apply Se.mk);first|(focus(repeat(first|exact SetAt.zero|apply SetAt.succ));done))|exact True.intro|exact rfl)
   ·rw[if_pos hc]at hs;subst hs
    exact⟨_,.nil _ _ ha,(by repeat'(first|exact trivial|refine⟨rfl,?_⟩|refine⟨congrArg some ?_,?_⟩)),Take.nil⟩
   ·rw[if_neg (show ¬b=0 by assumption),if_pos (by omega),show(low+size/2048*clp z)-4294967296=(low+size/2048*clp z)%4294967296 by omega]at hs;subst hs
    generalize carry []=o2 at hb2
    dsimp only at hb2
    cases hb2 with
    |nil _ _ ha =>
     repeat'(first|apply zE|(apply o_g zC;exact rfl;exact rfl)|(apply o_ar zC;exact rfl;exact rfl)|(apply zM zC;(iterate 3 exact rfl);(focus exact pk))|(apply zX zC;(iterate 4 exact rfl);(focus exact up))|apply zA|((with_reducible apply Sd.mk);first|exact True.intro)|((with_reducible apply Ln.mk);first|rfl)|((with_reducible apply Wr.mk);first|exact IntWalk.u32_in _ (by omega))|((with_reducible apply Ce.mk);first|rfl)|((with_reducible apply Se.mk);first|(focus(repeat(first|exact SetAt.zero|apply SetAt.succ));done))|exact True.intro|exact rfl)
     exact⟨_,.nil _ _ ha,(by repeat'(first|exact trivial|refine⟨rfl,?_⟩|refine⟨congrArg some ?_,?_⟩)),Take.nil⟩
    |some _ _ _ A ha ho =>
     repeat'(first|apply zE|(apply o_g zC;exact rfl;exact rfl)|(apply o_ar zC;exact rfl;exact rfl)|(apply zM zC;(iterate 3 exact rfl);(focus exact pk))|(apply zX zC;(iterate 4 exact rfl);(focus exact up))|apply zA|((with_reducible apply Sd.mk);first|exact True.intro)|((with_reducible apply Ln.mk);first|rfl)|((with_reducible apply Wr.mk);first|exact IntWalk.u32_in _ (by omega))|((with_reducible apply Ce.mk);first|rfl)|((with_reducible apply Se.mk);first|(focus(repeat(first|exact SetAt.zero|apply SetAt.succ));done))|exact True.intro|exact rfl)
     exact⟨_,.some _ _ _ A ha ho,(by repeat'(first|exact trivial|refine⟨rfl,?_⟩|refine⟨congrArg some ?_,?_⟩)),Take.nil⟩
   ·rw[if_neg (show ¬b=0 by assumption),if_neg (by omega),show(low+size/2048*clp z)=(low+size/2048*clp z)%4294967296 by omega]at hs;subst hs
    exact⟨_,.nil _ _ ha,(by repeat'(first|exact trivial|refine⟨rfl,?_⟩|refine⟨congrArg some ?_,?_⟩)),Take.nil⟩
  |some o low size A ha ho =>
   repeat'(first|apply zF|apply zB|apply zE|(apply o_g zC;exact rfl;exact rfl)|(apply o_ar zC;exact rfl;exact rfl)|(apply zM zC;(iterate 3 exact rfl);(focus exact pk))|(apply zX zC;(iterate 4 exact rfl);(focus exact up))|(apply zD;exact rfl;exact rfl;(focus first|exact rfl);exact rfl;(focus exact⟨_,carryT_any _ _ _ _ _ (.some _ _ _ _ ha ho) h3,by repeat with_reducible exact Take.nil⟩);rintro _ _ hb2)|(apply w_if;exact rfl;all_goals intro hc)|apply zA|apply zI|((with_reducible apply Sd.mk);first|exact True.intro)|((with_reducible apply Ln.mk);first|rfl)|((with_reducible apply Wr.mk);first|exact IntWalk.u32_in _ (by omega)|exact IntKind.wrap_u32 _)|((with_reducible apply Ce.mk);first|rfl)|((with_reducible apply Se.mk);first|(focus(repeat(first|exact SetAt.zero|apply SetAt.succ));done))|exact True.intro|exact rfl)
   ·rw[if_pos hc]at hs;subst hs
    exact⟨_,.some _ _ _ A ha ho,(by repeat'(first|exact trivial|refine⟨rfl,?_⟩|refine⟨congrArg some ?_,?_⟩)),Take.nil⟩
   ·rw[if_neg (show ¬b=0 by assumption),if_pos (by omega),show(low+size/2048*clp z)-4294967296=(low+size/2048*clp z)%4294967296 by omega]at hs;subst hs
    generalize carry o=o2 at hb2
    dsimp only at hb2
    cases hb2 with
    |nil _ _ ha =>
     repeat'(first|apply zE|(apply o_g zC;exact rfl;exact rfl)|(apply o_ar zC;exact rfl;exact rfl)|(apply zM zC;(iterate 3 exact rfl);(focus exact pk))|(apply zX zC;(iterate 4 exact rfl);(focus exact up))|apply zA|((with_reducible apply Sd.mk);first|exact True.intro)|((with_reducible apply Ln.mk);first|rfl)|((with_reducible apply Wr.mk);first|exact IntWalk.u32_in _ (by omega))|((with_reducible apply Ce.mk);first|rfl)|((with_reducible apply Se.mk);first|(focus(repeat(first|exact SetAt.zero|apply SetAt.succ));done))|exact True.intro|exact rfl)
     exact⟨_,.nil _ _ ha,(by repeat'(first|exact trivial|refine⟨rfl,?_⟩|refine⟨congrArg some ?_,?_⟩)),Take.nil⟩
    |some _ _ _ A ha ho =>
     repeat'(first|apply zE|(apply o_g zC;exact rfl;exact rfl)|(apply o_ar zC;exact rfl;exact rfl)|(apply zM zC;(iterate 3 exact rfl);(focus exact pk))|(apply zX zC;(iterate 4 exact rfl);(focus exact up))|apply zA|((with_reducible apply Sd.mk);first|exact True.intro)|((with_reducible apply Ln.mk);first|rfl)|((with_reducible apply Wr.mk);first|exact IntWalk.u32_in _ (by omega))|((with_reducible apply Ce.mk);first|rfl)|((with_reducible apply Se.mk);first|(focus(repeat(first|exact SetAt.zero|apply SetAt.succ));done))|exact True.intro|exact rfl)
     exact⟨_,.some _ _ _ A ha ho,(by repeat'(first|exact trivial|refine⟨rfl,?_⟩|refine⟨congrArg some ?_,?_⟩)),Take.nil⟩
   ·rw[if_neg (show ¬b=0 by assumption),if_neg (by omega),show(low+size/2048*clp z)=(low+size/2048*clp z)%4294967296 by omega]at hs;subst hs
    exact⟨_,.some _ _ _ A ha ho,(by repeat'(first|exact trivial|refine⟨rfl,?_⟩|refine⟨congrArg some ?_,?_⟩)),Take.nil⟩
 ·intro q0 hb
  repeat'(first|apply zH)
  refine zZ (S:=Nat × Enc × SH) (fun x=>[(0,gptr n 0 3)]) (fun x=>x.2.2) (fun x=>EncT n h a x.2.1 x.2.2∧norm x.1 x.2.1=norm 2 s∧16777216≤x.2.1.size*256^x.1∧0<x.2.1.size∧x.2.1.size≤4294967295∧(0≤x.2.1.low∧x.2.1.low≤4294967295)∧x.2.1.out.length+x.1≤1000002)
   (fun x=>x.1) (2,s,q0) ⟨hb,rfl,by show _≤s.size*256^2;omega,by show 0<s.size;omega,by show s.size≤_;omega,h4.2.1,by show s.out.length+2≤_;omega⟩ (by repeat'(first|exact trivial|refine⟨rfl,?_⟩|refine⟨congrArg some ?_,?_⟩)) (by repeat with_reducible first|exact Take.nil|apply Take.c|apply Take.drop) ?_
  rintro⟨k,⟨o,low,size⟩,q⟩ ⟨hb,he,g1,g2,g3,g4,g5⟩
  dsimp only at *
  cases hb with
  |nil _ _ ha =>
   repeat'(first|apply zF|apply zB|apply zE|(apply yH;(focus kernel_rfl);(focus kernel_rfl))|(apply o_g zC;exact rfl;exact rfl)|(apply o_ar zC;exact rfl;exact rfl)|(apply o_ex;exact rfl;exact rfl)|(apply zM zC;(iterate 3 exact rfl);(focus exact pk))|(apply zX zC;(iterate 4 exact rfl);(focus exact up))|(apply zT zC;(iterate 5 exact rfl);(focus decide);exact rfl;(focus decide);(focus repeat(first|exact CatR.nil|(apply CatR.one;exact rfl;exact rfl)));exact rfl)|(apply o_append_nil zC;(iterate 5 exact rfl);(focus exact⟨by decide⟩);(focus exact pk))|(apply w_if;exact rfl;all_goals intro hc)|apply zA|apply zK|apply zG|apply zJ|apply zI|apply zV|apply zH|((with_reducible apply Sd.mk);first|exact True.intro|omega|(constructor <;> first|omega|(unfold maxLen;omega)))|((with_reducible apply Ln.mk);first|rfl)|((with_reducible apply Wr.mk);first|exact w_shl8u _|exact IntWalk.u8_in _ (by omega))|((with_reducible apply Ex.mk);first|exact ex24u _)|((with_reducible apply Ce.mk);first|rfl)|((with_reducible apply Se.mk);first|(focus(repeat(first|exact SetAt.zero|apply SetAt.succ));done))|((with_reducible apply Su.mk);first|exact zQ)|exact True.intro|refine Rc.mk ⟨_,_,pk,?_⟩|exact Or.inl rfl|apply And.intro|apply Or.inr|intro A|exact rfl)
   ·obtain⟨k',rfl,e1,e2⟩:=norm_go (e:=⟨[],low,size⟩) hc g1
    rw[show size*256%4294967296=size*256 by omega]
    refine⟨(k',eshift ⟨[],low,size⟩,_),⟨encT_shift_nil (A:=A) ha g4,by rw[←e1];exact he,e2,by show 0<size*256;omega,by show size*256≤_;omega,by show 0≤low*256%4294967296∧low*256%4294967296≤_;omega,by show 1+k'≤_;simp only[List.length_nil]at g5;omega⟩,by show k'<k'+1;omega,(by repeat'(first|exact trivial|refine⟨rfl,?_⟩|refine⟨congrArg some ?_,?_⟩)),(by repeat with_reducible first|exact Take.nil|apply Take.c|apply Take.drop)⟩
   ·rw[norm_end hc]at he
    (apply s_finN;(exact(show ResS _ _ _ _ [] from trivial));(focus rw[←he];exact .nil _ _ ha);(focus repeat with_reducible first|exact Take.nil|apply Take.c|apply Take.drop))
  |some _ _ _ A ha ho =>
   repeat'(first|apply zF|apply zB|apply zE|(apply yH;(focus kernel_rfl);(focus kernel_rfl))|(apply o_g zC;exact rfl;exact rfl)|(apply o_ar zC;exact rfl;exact rfl)|(apply o_ex;exact rfl;exact rfl)|(apply zM zC;(iterate 3 exact rfl);(focus exact pk))|(apply zX zC;(iterate 4 exact rfl);(focus exact up))|(apply zT zC;(iterate 5 exact rfl);(focus decide);exact rfl;(focus decide);(focus repeat(first|exact CatR.nil|(apply CatR.one;exact rfl;exact rfl)));exact rfl)|(apply o_append zC;(iterate 5 exact rfl);(focus exact⟨by decide⟩);(focus exact up);(focus exact pk))|(apply w_if;exact rfl;all_goals intro hc)|apply zA|apply zK|apply zG|apply zJ|apply zI|apply zV|apply zH|((with_reducible apply Sd.mk);first|exact True.intro|omega|(constructor <;> first|omega|(unfold maxLen;omega)))|((with_reducible apply Ln.mk);first|rfl|omega|(simp ;first|done|omega))|((with_reducible apply Wr.mk);first|exact w_shl8u _|exact IntWalk.u8_in _ (by omega))|((with_reducible apply Ex.mk);first|exact ex24u _)|((with_reducible apply Ce.mk);first|rfl)|((with_reducible apply Se.mk);first|(focus(repeat(first|exact SetAt.zero|apply SetAt.succ));done))|((with_reducible apply Su.mk);first|exact zQ)|exact True.intro|refine Rc.mk ⟨_,_,pk,?_⟩|exact Or.inl rfl|apply And.intro|apply Or.inr|intro A|exact rfl)
   ·obtain⟨k',rfl,e1,e2⟩:=norm_go (e:=⟨o,low,size⟩) hc g1
    rw[show size*256%4294967296=size*256 by omega]
    refine⟨(k',eshift ⟨o,low,size⟩,_),⟨encT_shift ha g4,by rw[←e1];exact he,e2,by show 0<size*256;omega,by show size*256≤_;omega,by show 0≤low*256%4294967296∧low*256%4294967296≤_;omega,by show(o++[_]).length+k'≤_;simp only[List.length_append,List.length_singleton];omega⟩,by show k'<k'+1;omega,(by repeat'(first|exact trivial|refine⟨rfl,?_⟩|refine⟨congrArg some ?_,?_⟩)),Take.drop Take.nil⟩
   ·rw[norm_end hc]at he
    (apply s_finN;(exact(show ResS _ _ _ _ [] from trivial));(focus rw[←he];exact .some _ _ _ A ha ho);(focus repeat with_reducible first|exact Take.nil|apply Take.c|apply Take.drop))
theorem TreeEncodeT (n M N off S0 Sp bits m:Nat)(a:Option Nat)(C:List Value)(A Z t:List Int)(e:Enc)(v:Int)(h p:SH)
  (hb:EncT n ((M,⟨C,false⟩)::(N,⟨nodes (A++t++Z),false⟩)::h) a e p) (hC0:C[off+0]?=some (I bits)) (hC1:C[off+1]?=some (gsl N A.length Sp (2^bits) 0))
  (hC:C.length=S0) (hP:A.length+2^bits+Z.length=Sp) (ht:t.length=2^bits) (hbits:1≤bits∧bits≤8) (hok:EncOk m e) (hm:m+2*bits≤999000) :
  SRun Tryz.prog 42 [gptr M off S0,gptr n 0 3,I v] p fun r q=>r=.tuple #[] ∧
   EncT n ((M,⟨C,false⟩)::(N,⟨nodes (A++(tenc v bits t e 1).1++Z),false⟩)::h) a (tenc v bits t e 1).2 q:=by
 obtain⟨K,hK⟩:∃K,K=2^bits:=⟨_,rfl⟩
 rw[←hK]at hC1 hP ht
 obtain⟨pM,hpM⟩:=hb.pick (Pick.head (A:=M))
 refine w_body3 Tryz.func42 rfl rfl ?_
 repeat'(first|apply zF|apply zB|apply zE|(apply o_g zC;exact rfl;exact rfl)|(apply o_ar zC;exact rfl;exact rfl)|(apply zM zC;(iterate 3 exact rfl);(focus exact pk))|apply zA|apply zH|((with_reducible apply Sd.mk);first|exact True.intro)|((with_reducible apply Ln.mk);first|omega)|((with_reducible apply Wr.mk);first|exact IntWalk.i64_in _ (by omega))|((with_reducible apply Ce.mk);first|exact hC0)|exact True.intro|exact rfl)
 refine zZ (S:=Nat × Nat × Nat × List Int × Enc × SH × Nat) (fun x=>[(0,gptr M off S0),(1,gptr n 0 3),(2,I v),(6,I x.2.1),(7,I ((x.1:Int)-1))]) (fun x=>x.2.2.2.2.2.1)
  (fun x=>x.1≤bits∧(1≤x.2.1∧x.2.1<x.2.2.1∧x.2.2.1*2^x.1=2*K)∧x.2.2.2.1.length=K∧EncT n ((M,⟨C,false⟩)::(N,⟨nodes (A++x.2.2.2.1++Z),false⟩)::h) a x.2.2.2.2.1 x.2.2.2.2.2.1∧EncOk x.2.2.2.2.2.2 x.2.2.2.2.1∧x.2.2.2.2.2.2+2*x.1≤999000∧tenc v x.1 x.2.2.2.1 x.2.2.2.2.1 x.2.1=tenc v bits t e 1)
  (fun x=>x.1) (bits,1,2,t,e,p,m) ⟨Nat.le_refl _,⟨Nat.le_refl _,by show 1<2;decide,by rw[hK]⟩,ht,hb,hok,hm,rfl⟩ (by repeat'(first|exact trivial|refine⟨rfl,?_⟩|refine⟨congrArg some ?_,?_⟩)) (by repeat with_reducible first|exact Take.nil|apply Take.c|apply Take.drop) ?_
 rintro⟨k,j,W,t,e,p,m⟩ ⟨hk,⟨hj1,hjW,hW⟩,ht,hb,hok,hm,he⟩
 dsimp only at hk hj1 hjW hW ht hb hok hm he ⊢
 cases k with
 |zero =>
  repeat'(first|apply zF|apply zB|apply zE|(apply o_g zC;exact rfl;exact rfl)|(apply zS;exact rfl)|apply zA|apply zK|apply zJ|apply zV|((with_reducible apply Sd.mk);first|exact True.intro))
  all_goals first
   |(exfalso;omega)
   |(apply s_finN;(exact(show ResS _ _ _ _ [] from trivial));(focus rw[←he];exact⟨rfl,hb⟩);(focus repeat with_reducible first|exact Take.nil|apply Take.c|apply Take.drop))
 |succ k =>
  rw[show((k+1:Nat):Int)-1=(k:Int)by omega]
  have hp2:1≤2^k:=Nat.one_le_two_pow
  have hWK:W*2^k=K:=by
   rw[Nat.pow_succ,←Nat.mul_assoc]at hW;omega
  have hW1:W*1≤W*2^k:=Nat.mul_le_mul_left W hp2
  have hjt:j<t.length:=by omega
  have hK8:K≤256:=by rw[hK];exact Nat.pow_le_pow_right (n:=2) (by decide) hbits.2
  obtain⟨z,hz⟩:∃z,z=t[j]!:=⟨_,rfl⟩
  have hcell:=node_cell (A:=A) (Z:=Z) hjt
  have hset:=node_set (A:=A) (Z:=Z) hjt (adp z (v/2^k%2))
  rw[←hz]at hcell
  have hst:tenc v (k+1) t e j=tenc v k (t.set j (adp z (v/2^k%2))) (ebit e z (v/2^k%2)) (2*j+(v/2^k%2).toNat):=by rw[hz];rfl
  rw[hst]at he
  have hb01:0≤v/2^k%2∧v/2^k%2≤1:=by omega
  have hlen:(nodes (A++t++Z)).length=Sp:=by simp;omega
  obtain⟨pM,hpM⟩:=hb.pick (Pick.head (A:=M))
  obtain⟨pN,hpN⟩:=hb.pick (Pick.tail (Pick.head (A:=N)))
  have hB:SRun Tryz.prog 76 [gptr n 0 3,I z,I (v/2^k%2)] p fun _ q=>∃e',e'=ebit e z (v/2^k%2)∧EncT n ((M,⟨C,false⟩)::(N,⟨nodes (A++t++Z),false⟩)::h) a e' q:=(BitT_any n a z (v/2^k%2) e _ p hb (hok.mono (by omega))).mono fun _ _ g=>⟨_,rfl,g⟩
  have hok2:=ebit_ok hok z (v/2^k%2)
  repeat'(first|apply zF|apply zB|apply zE|(apply yH;(focus kernel_rfl);(focus kernel_rfl))|(apply o_g zC;exact rfl;exact rfl)|(apply o_ar zC;exact rfl;exact rfl)|(apply o_ex;exact rfl;exact rfl)|(apply zM zC;(iterate 3 exact rfl);(focus exact pk))|(apply zX zC;(iterate 4 exact rfl);(focus exact up))|(apply zD;exact rfl;exact rfl;(focus first|exact rfl);exact rfl;(focus exact⟨_,hB,by repeat with_reducible exact Take.nil⟩);rintro _ _ (⟨e',he',(⟨lo,sz,ha⟩|⟨o,lo,sz,A9,ha,ho⟩)⟩))|(apply yS;(iterate 4 exact rfl);(focus exact⟨_,Adapt_any _ _ _,by repeat with_reducible exact Take.nil⟩);(focus exact fun _ _ h=>h.1);(focus(repeat(first|exact Flat.c rfl))))|(apply yB;exact rfl)|apply zA|apply zG|apply zI|apply zH|((with_reducible apply Sd.mk);first|exact True.intro|omega)|((with_reducible apply Ln.mk);first|omega)|((with_reducible apply Wr.mk);first|exact w_and1 _|exact IntWalk.i64_in _ (by omega))|((with_reducible apply Ex.mk);first|exact ex_shrk (by omega))|((with_reducible apply Ce.mk);first|exact hC1|exact hcell)|((with_reducible apply Se.mk);first|exact hset)|exact True.intro|exact Or.inl rfl|apply And.intro|exact rfl)
  all_goals (rw[←he']at he hok2)
  all_goals have hj2:(((2*j+(v/2^k%2).toNat:Nat)):Int)=2*(j:Int)+v/2^k%2:=by omega
  all_goals first
   |(exfalso;omega)
   |exact⟨(k,2*j+(v/2^k%2).toNat,2*W,t.set j (adp z (v/2^k%2)),⟨[],lo,sz⟩,(n,⟨encC (.slice none 0 0) lo sz,false⟩)::(M,⟨C,false⟩)::(N,⟨nodes (A++t.set j (adp z (v/2^k%2))++Z),false⟩)::h,m+2),
     ⟨by show k≤bits;omega,⟨by show 1≤2*j+_;omega,by show 2*j+(v/2^k%2).toNat<2*W;omega,by show 2*W*2^k=2*K;rw[Nat.mul_assoc,hWK]⟩,by simpa using ht,.nil _ _ ha,hok2,by show m+2+2*k≤999000;omega,he⟩,by show k<k+1;omega,
     ⟨rfl,rfl,rfl,congrArg some (congrArg (Value.int .i64) hj2.symm),rfl,trivial⟩,(by repeat with_reducible first|exact Take.nil|apply Take.c|apply Take.drop)⟩
   |exact⟨(k,2*j+(v/2^k%2).toNat,2*W,t.set j (adp z (v/2^k%2)),⟨o,lo,sz⟩,(n,⟨encC (gsl A9 0 o.length o.length 1) lo sz,false⟩)::(A9,⟨bytesV o,false⟩)::(M,⟨C,false⟩)::(N,⟨nodes (A++t.set j (adp z (v/2^k%2))++Z),false⟩)::h,m+2),
     ⟨by show k≤bits;omega,⟨by show 1≤2*j+_;omega,by show 2*j+(v/2^k%2).toNat<2*W;omega,by show 2*W*2^k=2*K;rw[Nat.mul_assoc,hWK]⟩,by simpa using ht,.some _ _ _ _ ha ho,hok2,by show m+2+2*k≤999000;omega,he⟩,by show k<k+1;omega,
     ⟨rfl,rfl,rfl,congrArg some (congrArg (Value.int .i64) hj2.symm),rfl,trivial⟩,(by repeat with_reducible first|exact Take.nil|apply Take.c|apply Take.drop)⟩

theorem byEnc (n M N k m:Nat)(a:Option Nat)(P:List Int)(c v:Int)(e:Enc)(h p:SH)(hb:EncT n ((M,⟨byC N c,false⟩)::(N,⟨nodes P,false⟩)::h) a e p)(hP:P.length=2048)(hk:k<8)(hok:EncOk m e)(hm:m+16≤999000) :
  SRun Tryz.prog 42 [gptr M (0+k*2) 17,gptr n 0 3,I v] p fun r q=>r=.tuple #[] ∧
   EncT n ((M,⟨byC N c,false⟩)::(N,⟨nodes (bput P k (tenc v 8 (bsel P k) e 1).1),false⟩)::h) a (tenc v 8 (bsel P k) e 1).2 q:=by
 have hA:(P.take (k*256)).length=k*256:=by rw[List.length_take];omega
 have hZ:(P.drop (k*256+256)).length=2048-(k*256+256):=by rw[List.length_drop,hP]
 have h28:(2^8:Nat)=256:=rfl
 have e0:P.take (k*256)++bsel P k++P.drop (k*256+256)=P:=bput_sel (P:=P) (k:=k)
 exact TreeEncodeT n M N (0+k*2) 17 2048 8 m a (byC N c) (P.take (k*256)) (P.drop (k*256+256)) (bsel P k) e v h p (by rw[e0];exact hb) (byC_cell hk).1 (by rw[hA];exact(byC_cell hk).2) rfl (by rw[hA,hZ,h28];omega) (bsel_len hP hk) (by decide) hok hm
theorem enc_nil {n:Nat}{h:SH}{e:Enc}(h0:e.out=[]):EncT n h none e ((n,⟨encC (.slice none 0 0) e.low e.size,false⟩)::h):=by
 obtain⟨o,l,s⟩:=e
 obtain rfl:o=[]:=h0
 exact .nil _ _ rfl
def benc (P:List Int)(c:Int)(e:Enc)(v:Int):List Int × Enc :=
 (bput P (c/32).toNat (tenc v 8 (bsel P (c/32).toNat) e 1).1,(tenc v 8 (bsel P (c/32).toNat) e 1).2)
theorem BytesEncode_any (n M N m:Nat)(P:List Int)(c v:Int)(e:Enc)(h p:SH)(hb:∃a,EncT n ((M,⟨byC N c,false⟩)::(N,⟨nodes P,false⟩)::h) a e p)(hP:P.length=2048)(hc0:0≤c∧c≤255)(hv0:0≤v∧v≤255)(hok:EncOk m e)(hm:m+16≤999000) :
  SRun Tryz.prog 43 [gptr M 0 17,gptr n 0 3,Y v] p fun _ q =>
   ∃a,EncT n ((M,⟨byC N v,false⟩)::(N,⟨nodes (benc P c e v).1,false⟩)::h) a (benc P c e v).2 q:=by
 have hk:(c/32).toNat<8:=by omega
 unfold benc
 have hE:=fun a q hb=>byEnc n M N (c/32).toNat m a P c v e h q hb hP hk hok hm
 generalize tenc v 8 (bsel P (c/32).toNat) e 1=T at *
 obtain⟨t2,e2⟩:=T
 dsimp only at *
 generalize bput P (c/32).toNat t2=P2 at *
 have hcl:(byC N c)[0+16]?=some (Y c):=rfl
 have hset:=byC_set N c v
 have hln:(byC N c).length=17:=rfl
 have hsh:c/2^(min (Int.toNat 5) IntKind.u8.bits)=c/32:=rfl
 obtain⟨a,hb⟩:=hb
 cases hb with
 |nil low size ha =>
  have hE:=hE none _ (.nil low size rfl)
  by_cases h0:e2.out=[]
  ·have hE0:SRun Tryz.prog 42 [gptr M (0+(c/32).toNat*2) 17,gptr n 0 3,I v] ((n,⟨encC (.slice none 0 0) low size,false⟩)::(M,⟨byC N c,false⟩)::(N,⟨nodes P,false⟩)::h) fun r q =>
     r=.tuple #[]∧q=(n,⟨encC (.slice none 0 0) e2.low e2.size,false⟩)::(M,⟨byC N c,false⟩)::(N,⟨nodes P2,false⟩)::h:=hE.mono fun r q ⟨g1,g2⟩=>⟨g1,by
    cases g2 with
    |nil=>rfl
    |some o low size A ha ho=>exact absurd h0 ho⟩
   refine w_body3 Tryz.func43 rfl rfl ?_
   repeat'(first|apply zF|apply zB|apply zE|(apply yH;(focus kernel_rfl);(focus kernel_rfl))|(apply o_g zC;exact rfl;exact rfl)|(apply o_ar zC;exact rfl;exact rfl)|(apply o_ex;exact rfl;exact rfl)|(apply zM zC;(iterate 3 exact rfl);(focus exact pk))|(apply zX zC;(iterate 4 exact rfl);(focus exact up))|(apply o_callE0;(iterate 4 exact rfl);(focus exact⟨hE0,by repeat with_reducible exact Take.nil⟩);(focus first|exact List.Perm.refl _);(focus(intro ρ D hρ hD;refine⟨?_,?_⟩;(focus repeat(first|exact VR.const rfl));(focus repeat(first|((apply SHR.same);(focus intro x hx;(repeat(first|exact hx|apply List.mem_cons_of_mem));done))|((apply SHR.keep);(focus(repeat(first|with_reducible exact List.mem_cons_self|apply List.mem_cons_of_mem));done))|(apply SHR.cons;(focus first|((apply rho_pick hρ);(exact pk)));(focus repeat(first|exact VR.const rfl|exact VRs.nil|((apply VRs.const);(focus first|exact map_const (fun _=>rfl)))|apply VRs.cons))))))))|apply zA|((with_reducible apply Sd.mk);first|exact True.intro|omega)|((with_reducible apply Ln.mk);first|rfl)|((with_reducible apply Wr.mk);first|exact IntWalk.i64_in _ (by omega))|((with_reducible apply Ex.mk);first|exact hsh)|((with_reducible apply Ce.mk);first|rfl)|((with_reducible apply Se.mk);first|(focus(repeat(first|exact SetAt.zero|apply SetAt.succ));done))|exact True.intro|exact Or.inl rfl|apply And.intro|exact rfl)
   all_goals first
    |(exfalso;omega)
    |(apply s_finN;(exact(show ResS _ _ _ _ [] from trivial));(focus exact⟨none,enc_nil h0⟩);(focus repeat(first|with_reducible exact Take.nil|with_reducible apply Take.c|((with_reducible apply Take.cE);first|exact rfl|(apply blkE;(focus first|exact rfl|exact yI rfl|exact yO rfl|exact congrArg (fun v=>[v]) (gslE rfl rfl (by first|rfl|exact ‹_›|omega|(simp[hln];first|done|omega)) (by first|rfl|exact ‹_›|omega|(simp[hln];first|done|omega)) rfl))))|with_reducible apply Take.drop)))
  ·have hE1:SRun Tryz.prog 42 [gptr M (0+(c/32).toNat*2) 17,gptr n 0 3,I v] ((n,⟨encC (.slice none 0 0) low size,false⟩)::(M,⟨byC N c,false⟩)::(N,⟨nodes P,false⟩)::h) fun r q =>
     ∃A,r=.tuple #[]∧q=(n,⟨encC (gsl A 0 e2.out.length e2.out.length 1) e2.low e2.size,false⟩)::(A,⟨bytesV e2.out,false⟩)::(M,⟨byC N c,false⟩)::(N,⟨nodes P2,false⟩)::h:=hE.mono fun r q ⟨g1,g2⟩=>by
    cases g2 with
    |nil=>exact absurd rfl h0
    |some o low size A ha ho=>exact⟨A,g1,rfl⟩
   refine w_body3 Tryz.func43 rfl rfl ?_
   repeat'(first|apply zF|apply zB|apply zE|(apply yH;(focus kernel_rfl);(focus kernel_rfl))|(apply o_g zC;exact rfl;exact rfl)|(apply o_ar zC;exact rfl;exact rfl)|(apply o_ex;exact rfl;exact rfl)|(apply zM zC;(iterate 3 exact rfl);(focus exact pk))|(apply zX zC;(iterate 4 exact rfl);(focus exact up))|(apply yU;(iterate 4 exact rfl);(focus exact⟨hE1,by repeat with_reducible exact Take.nil⟩);(focus(intro _;(first|exact List.Perm.swap _ _ _)));(focus(intro A1 A2 ρ D e1 d1 hρ hD;refine⟨?_,?_⟩;(focus repeat(first|exact VR.const rfl));(focus repeat(first|((apply SHR.same);(focus intro x hx;(repeat(first|exact hx|apply List.mem_cons_of_mem));done))|((apply SHR.keep);(focus(repeat(first|with_reducible exact List.mem_cons_self|apply List.mem_cons_of_mem));done))|(apply SHR.cons;(focus first|exact e1|((apply rho_pick hρ);(exact pk)));(focus repeat(first|exact VR.const rfl|(apply VR.slc';(focus first|exact e1);(focus first|exact d1))|exact VRs.nil|((apply VRs.const);(focus first|exact bytesV_const _|exact map_const (fun _=>rfl)))|apply VRs.cons))))))))|apply zA|((with_reducible apply Sd.mk);first|exact True.intro|omega)|((with_reducible apply Ln.mk);first|rfl)|((with_reducible apply Wr.mk);first|exact IntWalk.i64_in _ (by omega))|((with_reducible apply Ex.mk);first|exact hsh)|((with_reducible apply Ce.mk);first|rfl)|((with_reducible apply Se.mk);first|(focus(repeat(first|exact SetAt.zero|apply SetAt.succ));done))|exact True.intro|exact Or.inl rfl|apply And.intro|intro A|exact rfl)
   all_goals first
    |(exfalso;omega)
    |(apply s_finN;(exact(show ResS _ _ _ _ [] from trivial));(focus exact⟨none,.some _ _ _ A (fun _ g=>by cases g) h0⟩);(focus repeat(first|with_reducible exact Take.nil|with_reducible apply Take.c|((with_reducible apply Take.cE);first|exact rfl|(apply blkE;(focus first|exact rfl|exact yI rfl|exact yO rfl|exact congrArg (fun v=>[v]) (gslE rfl rfl (by first|rfl|exact ‹_›|omega|(simp[hln];first|done|omega)) (by first|rfl|exact ‹_›|omega|(simp[hln];first|done|omega)) rfl))))|with_reducible apply Take.drop)))
 |some o low size A ha ho =>
  have hE:=hE (some A) _ (.some o low size A (fun _ g=>by cases g;rfl) ho)
  have hE0:SRun Tryz.prog 42 [gptr M (0+(c/32).toNat*2) 17,gptr n 0 3,I v] ((n,⟨encC (gsl A 0 o.length o.length 1) low size,false⟩)::(A,⟨bytesV o,false⟩)::(M,⟨byC N c,false⟩)::(N,⟨nodes P,false⟩)::h) fun r q =>
    r=.tuple #[]∧q=(n,⟨encC (gsl A 0 e2.out.length e2.out.length 1) e2.low e2.size,false⟩)::(A,⟨bytesV e2.out,false⟩)::(M,⟨byC N c,false⟩)::(N,⟨nodes P2,false⟩)::h∧e2.out≠[]:=hE.mono fun r q ⟨g1,g2⟩=>by
   cases g2 with
   |nil _ _ ha=>cases ha
   |some o low size A' ha ho=>obtain rfl:=ha A rfl;exact⟨g1,rfl,ho⟩
  by_cases h0:e2.out=[]
  ·have hE0:SRun Tryz.prog 42 [gptr M (0+(c/32).toNat*2) 17,gptr n 0 3,I v] ((n,⟨encC (gsl A 0 o.length o.length 1) low size,false⟩)::(A,⟨bytesV o,false⟩)::(M,⟨byC N c,false⟩)::(N,⟨nodes P,false⟩)::h) fun r q =>
     r=.tuple #[]∧q=(n,⟨encC (.slice none 0 0) e2.low e2.size,false⟩)::(A,⟨bytesV o,false⟩)::(M,⟨byC N c,false⟩)::(N,⟨nodes P2,false⟩)::h:=hE0.mono fun r q g=>absurd h0 g.2.2
   refine w_body3 Tryz.func43 rfl rfl ?_
   repeat'(first|apply zF|apply zB|apply zE|(apply yH;(focus kernel_rfl);(focus kernel_rfl))|(apply o_g zC;exact rfl;exact rfl)|(apply o_ar zC;exact rfl;exact rfl)|(apply o_ex;exact rfl;exact rfl)|(apply zM zC;(iterate 3 exact rfl);(focus exact pk))|(apply zX zC;(iterate 4 exact rfl);(focus exact up))|(apply o_callE0;(iterate 4 exact rfl);(focus exact⟨hE0,by repeat with_reducible exact Take.nil⟩);(focus first|exact List.Perm.refl _);(focus(intro ρ D hρ hD;refine⟨?_,?_⟩;(focus repeat(first|exact VR.const rfl));(focus repeat(first|((apply SHR.same);(focus intro x hx;(repeat(first|exact hx|apply List.mem_cons_of_mem));done))|((apply SHR.keep);(focus(repeat(first|with_reducible exact List.mem_cons_self|apply List.mem_cons_of_mem));done))|(apply SHR.cons;(focus first|((apply rho_pick hρ);(exact pk)));(focus repeat(first|exact VR.const rfl|exact VRs.nil|((apply VRs.const);(focus first|exact map_const (fun _=>rfl)))|apply VRs.cons))))))))|apply zA|((with_reducible apply Sd.mk);first|exact True.intro|omega)|((with_reducible apply Ln.mk);first|rfl)|((with_reducible apply Wr.mk);first|exact IntWalk.i64_in _ (by omega))|((with_reducible apply Ex.mk);first|exact hsh)|((with_reducible apply Ce.mk);first|rfl)|((with_reducible apply Se.mk);first|(focus(repeat(first|exact SetAt.zero|apply SetAt.succ));done))|exact True.intro|exact Or.inl rfl|apply And.intro|exact rfl)
   all_goals first
    |(exfalso;omega)
    |(apply s_finN;(exact(show ResS _ _ _ _ [] from trivial));(focus exact⟨none,enc_nil h0⟩);(focus repeat(first|with_reducible exact Take.nil|with_reducible apply Take.c|((with_reducible apply Take.cE);first|exact rfl|(apply blkE;(focus first|exact rfl|exact yI rfl|exact yO rfl|exact congrArg (fun v=>[v]) (gslE rfl rfl (by first|rfl|exact ‹_›|omega|(simp[hln];first|done|omega)) (by first|rfl|exact ‹_›|omega|(simp[hln];first|done|omega)) rfl))))|with_reducible apply Take.drop)))
  ·have hE0:SRun Tryz.prog 42 [gptr M (0+(c/32).toNat*2) 17,gptr n 0 3,I v] ((n,⟨encC (gsl A 0 o.length o.length 1) low size,false⟩)::(A,⟨bytesV o,false⟩)::(M,⟨byC N c,false⟩)::(N,⟨nodes P,false⟩)::h) fun r q =>
     r=.tuple #[]∧q=(n,⟨encC (gsl A 0 e2.out.length e2.out.length 1) e2.low e2.size,false⟩)::(A,⟨bytesV e2.out,false⟩)::(M,⟨byC N c,false⟩)::(N,⟨nodes P2,false⟩)::h:=hE0.mono fun r q g=>⟨g.1,g.2.1⟩
   refine w_body3 Tryz.func43 rfl rfl ?_
   repeat'(first|apply zF|apply zB|apply zE|(apply yH;(focus kernel_rfl);(focus kernel_rfl))|(apply o_g zC;exact rfl;exact rfl)|(apply o_ar zC;exact rfl;exact rfl)|(apply o_ex;exact rfl;exact rfl)|(apply zM zC;(iterate 3 exact rfl);(focus exact pk))|(apply zX zC;(iterate 4 exact rfl);(focus exact up))|(apply o_callE0;(iterate 4 exact rfl);(focus exact⟨hE0,by repeat with_reducible exact Take.nil⟩);(focus first|exact List.Perm.refl _);(focus(intro ρ D hρ hD;refine⟨?_,?_⟩;(focus repeat(first|exact VR.const rfl));(focus repeat(first|((apply SHR.same);(focus intro x hx;(repeat(first|exact hx|apply List.mem_cons_of_mem));done))|((apply SHR.keep);(focus(repeat(first|with_reducible exact List.mem_cons_self|apply List.mem_cons_of_mem));done))|(apply SHR.cons;(focus first|((apply rho_pick hρ);(exact pk)));(focus repeat(first|exact VR.const rfl|(apply VR.slc';(focus first|((apply rho_pick hρ);(exact pk)));(focus first|((apply dom_pick hD);(exact pk))))|exact VRs.nil|((apply VRs.const);(focus first|exact bytesV_const _|exact map_const (fun _=>rfl)))|apply VRs.cons))))))))|apply zA|((with_reducible apply Sd.mk);first|exact True.intro|omega)|((with_reducible apply Ln.mk);first|rfl)|((with_reducible apply Wr.mk);first|exact IntWalk.i64_in _ (by omega))|((with_reducible apply Ex.mk);first|exact hsh)|((with_reducible apply Ce.mk);first|rfl)|((with_reducible apply Se.mk);first|(focus(repeat(first|exact SetAt.zero|apply SetAt.succ));done))|exact True.intro|exact Or.inl rfl|apply And.intro|exact rfl)
   all_goals first
    |(exfalso;omega)
    |(apply s_finN;(exact(show ResS _ _ _ _ [] from trivial));(focus exact⟨none,.some _ _ _ A (fun _ g=>by cases g) h0⟩);(focus repeat(first|with_reducible exact Take.nil|with_reducible apply Take.c|((with_reducible apply Take.cE);first|exact rfl|(apply blkE;(focus first|exact rfl|exact yI rfl|exact yO rfl|exact congrArg (fun v=>[v]) (gslE rfl rfl (by first|rfl|exact ‹_›|omega|(simp ;first|done|omega)) (by first|rfl|exact ‹_›|omega|(simp ;first|done|omega)) rfl))))|with_reducible apply Take.drop)))

theorem DirectT_any (n:Nat)(x v:Int)(e:Enc)(h p:SH)(hb:EncT n h none e p)(hok:EncOk 999000 e) :
  SRun Tryz.prog 78 [gptr n 0 3,I x,I v] p fun _ q=>EncT n h none (edir e x v) q:=by
 refine w_body3 Tryz.func78 rfl rfl ?_
 repeat'(first|apply zF|apply zB|apply zE|(apply o_g zC;exact rfl;exact rfl)|(apply o_ar zC;exact rfl;exact rfl)|(apply zU;exact rfl;exact rfl)|(apply yF;iterate 4 exact rfl)|(apply o_guardF;(iterate 3 exact rfl);all_goals intro hc)|(apply yB;exact rfl)|(apply w_if;exact rfl;all_goals intro hc)|apply zA|apply zP|apply zI|apply zN|apply zH|((with_reducible apply Sd.mk);first|exact True.intro)|((with_reducible apply Wr.mk);first|exact IntWalk.i64_in _ (by omega)))
 all_goals first|(apply zL;(exact(show ResS _ _ _ _ [] from trivial));(focus rw[show edir e x v=e from if_pos (by omega)];exact hb);(focus repeat with_reducible first|exact Take.nil|apply Take.c|apply Take.drop))|skip
 obtain⟨m,rfl⟩:=Int.eq_ofNat_of_zero_le (show 0≤x by omega)
 have he:edir e m v=ebits v m e:=if_neg (by omega)
 refine zZ (S:=Nat × Enc × SH × Nat) (fun x=>[(0,gptr n 0 3),(2,I v),(6,I ((x.1:Int)-1))]) (fun x=>x.2.2.1) (fun x=>EncT n h none x.2.1 x.2.2.1∧EncOk x.2.2.2 x.2.1∧x.2.2.2+2*x.1≤999200∧x.1≤m∧ebits v x.1 x.2.1=edir e m v)
  (fun x=>x.1) (m,e,p,999000) ⟨hb,hok,by show 999000+2*m≤_;omega,Nat.le_refl _,he.symm⟩ (by repeat'(first|exact trivial|refine⟨rfl,?_⟩|refine⟨congrArg some ?_,?_⟩)) (by repeat with_reducible first|exact Take.nil|apply Take.c|apply Take.drop) ?_
 rintro⟨k,e1,p1,c⟩ ⟨hb1,hok1,hc1,hkm,he1⟩
 dsimp only at *
 cases k with
 |zero =>
  repeat'(first|apply zF|apply zB|apply zE|(apply o_g zC;exact rfl;exact rfl)|(apply zS;exact rfl)|apply zA|apply zK|apply zJ|apply zV|((with_reducible apply Sd.mk);first|exact True.intro))
  (apply s_finN;(exact(show ResS _ _ _ _ [] from trivial));(focus rw[←he1];exact hb1);(focus repeat with_reducible first|exact Take.nil|apply Take.c|apply Take.drop))
 |succ k =>
  rw[show((k+1:Nat):Int)-1=k by omega]
  repeat'(first|apply zF|apply zB|apply zE|(apply o_g zC;exact rfl;exact rfl)|(apply o_ar zC;exact rfl;exact rfl)|(apply o_ex;exact rfl;exact rfl)|(apply zD;exact rfl;exact rfl;(focus first|exact rfl);exact rfl;(focus exact⟨_,BitT_any _ _ _ _ _ _ _ hb1 (hok1.mono (by omega)),by repeat with_reducible exact Take.nil⟩);rintro _ _ hb2)|(apply yB;exact rfl)|apply zA|apply zG|apply zI|apply zH|((with_reducible apply Sd.mk);first|exact True.intro|omega)|((with_reducible apply Wr.mk);first|exact w_and1 _|exact IntWalk.i64_in _ (by omega))|((with_reducible apply Ex.mk);first|exact ex_shrk (by omega)))
  exact⟨(k,_,_,c+2),⟨hb2,ebit_ok hok1 _ _,by show c+2+2*k≤_;omega,by show k≤m;omega,he1⟩,by show k<k+1;omega,(by repeat'(first|exact trivial|refine⟨rfl,?_⟩|refine⟨congrArg some ?_,?_⟩)),(by repeat with_reducible first|exact Take.nil|apply Take.c|apply Take.drop)⟩
theorem numEncT (n M N m:Nat)(t:List Int)(e:Enc)(v:Int)(h p:SH)(hb:EncT n ((M,⟨numC N,false⟩)::(N,⟨nodes t,false⟩)::h) none e p)(ht:t.length=64)(hok:EncOk m e)(hm:m+12≤999000) :
  SRun Tryz.prog 42 [gptr M 0 2,gptr n 0 3,I v] p fun _ q=>EncT n ((M,⟨numC N,false⟩)::(N,⟨nodes (tenc v 6 t e 1).1,false⟩)::h) none (tenc v 6 t e 1).2 q:=by
 have hb':EncT n ((M,⟨numC N,false⟩)::(N,⟨nodes ([]++t++[]),false⟩)::h) none e p:=by rw[List.nil_append,List.append_nil];exact hb
 have:=TreeEncodeT n M N 0 2 64 6 m none (numC N) [] [] t e v h p hb' rfl rfl rfl rfl ht (by decide) hok hm
 rw[List.nil_append,List.append_nil]at this
 exact this.mono fun _ _ g=>g.2
theorem NumEncodeT_any (n M N m:Nat)(t:List Int)(e:Enc)(v:Int)(h p:SH)(hb:EncT n ((M,⟨numC N,false⟩)::(N,⟨nodes t,false⟩)::h) none e p)(ht:t.length=64)(hok:EncOk m e)(hm:m+200≤999000) :
  SRun Tryz.prog 44 [gptr M 0 2,gptr n 0 3,I v] p fun _ q=>EncT n ((M,⟨numC N,false⟩)::(N,⟨nodes (nenc t e v).1,false⟩)::h) none (nenc t e v).2 q:=by
 by_cases hv:v<0∨4611686018427387903<v
 ·have hx:ncut v=0:=if_pos hv
  have e1:nenc t e v=tenc 0 6 t e 1:=by unfold nenc;rw[hx];rfl
  rw[e1]
  have hL:∀h,SRun Tryz.prog 65 [.int .u64 0] h fun r q=>r=I 0∧q=h:=fun h=>bLen_any 0 h (by decide)
  have hE:=numEncT n M N m t e 0 h p hb ht hok (by omega)
  refine w_body3 Tryz.func44 rfl rfl ?_
  repeat'(first|apply zF|apply zB|apply zE|(apply o_g zC;exact rfl;exact rfl)|(apply o_ar zC;exact rfl;exact rfl)|(apply zD;exact rfl;exact rfl;(focus first|exact rfl);exact rfl;(focus exact⟨_,hL _,by repeat with_reducible exact Take.nil⟩);rintro _ _ ⟨rfl,rfl⟩)|(apply zD;exact rfl;exact rfl;(focus first|exact rfl);exact rfl;(focus exact⟨_,hE,by repeat with_reducible exact Take.nil⟩);rintro _ _ hb2)|(apply zU;exact rfl;exact rfl)|(apply yF;iterate 4 exact rfl)|(apply o_guardF;(iterate 3 exact rfl);all_goals intro hc)|(apply yB;exact rfl)|(apply zS;exact rfl)|(apply yC;exact rfl;(focus first|omega))|apply zA|apply zI|((with_reducible apply Sd.mk);first|exact True.intro)|((with_reducible apply Wr.mk);first|exact IntWalk.u64_in _ (by omega)))
  all_goals first
   |(exfalso;omega)
   |(apply s_finN;(exact(show ResS _ _ _ _ [] from trivial));(focus exact hb2);(focus repeat with_reducible first|exact Take.nil|apply Take.c|apply Take.drop))
 ·have hx:ncut v=v:=if_neg hv
  obtain⟨x,rfl⟩:=Int.eq_ofNat_of_zero_le (show 0≤v by omega)
  have hl:blen x≤62:=blen_le (by have:(2:Nat)^62=4611686018427387904:=rfl;omega)
  have hL:∀h,SRun Tryz.prog 65 [.int .u64 x] h fun r q=>r=I (blen x)∧q=h:=fun h=>bLen_any x h (by omega)
  have e1:nenc t e x=((tenc (blen x) 6 t e 1).1,if 2≤blen x then edir (tenc (blen x) 6 t e 1).2 ((blen x:Int)-1) x else(tenc (blen x) 6 t e 1).2):=by unfold nenc;rw[hx];rfl
  rw[e1]
  generalize blen x=l at *
  have hE:=numEncT n M N m t e l h p hb ht hok (by omega)
  have hok2:EncOk 999000 (tenc l 6 t e 1).2:=(tenc_ok (v:=(l:Int)) (k:=6) (t:=t) (j:=1) hok).1.mono (by omega)
  generalize tenc l 6 t e 1=T at *
  dsimp only
  refine w_body3 Tryz.func44 rfl rfl ?_
  repeat'(first|apply zF|apply zB|apply zE|(apply o_g zC;exact rfl;exact rfl)|(apply o_ar zC;exact rfl;exact rfl)|(apply zD;exact rfl;exact rfl;(focus first|exact rfl);exact rfl;(focus exact⟨_,hL _,by repeat with_reducible exact Take.nil⟩);rintro _ _ ⟨rfl,rfl⟩)|(apply zD;exact rfl;exact rfl;(focus first|exact rfl);exact rfl;(focus exact⟨_,hE,by repeat with_reducible exact Take.nil⟩);rintro _ _ hb2)|(apply zD;exact rfl;exact rfl;(focus first|exact rfl);exact rfl;(focus exact⟨_,DirectT_any _ _ _ _ _ _ hb2 hok2,by repeat with_reducible exact Take.nil⟩);rintro _ _ hb3)|(apply zU;exact rfl;exact rfl)|(apply yD;exact rfl;(focus first|omega))|(apply w_if;exact rfl;all_goals intro hc)|apply zA|apply zI|((with_reducible apply Sd.mk);first|exact True.intro)|((with_reducible apply Wr.mk);first|exact IntWalk.i64_in _ (by omega)|exact IntWalk.u64_in _ (by omega)))
  all_goals first
   |(exfalso;omega)
   |(rw[if_pos (by omega)];(apply s_finN;(exact(show ResS _ _ _ _ [] from trivial));(focus exact hb3);(focus repeat with_reducible first|exact Take.nil|apply Take.c|apply Take.drop)))
   |(rw[if_neg (by omega)];(apply s_finN;(exact(show ResS _ _ _ _ [] from trivial));(focus exact hb2);(focus repeat with_reducible first|exact Take.nil|apply Take.c|apply Take.drop)))
theorem EncT.re {n:Nat}{a:Option Nat}{h h' p:SH}{e:Enc}(hb:EncT n h a e p)(t:Take h h'):∃p',EncT n h' a e p'∧Take p p':=by
 cases hb with
 |nil low size ha=>exact⟨_,.nil _ _ ha,.cons .head t⟩
 |some o low size A ha ho=>exact⟨_,.some _ _ _ _ ha ho,.cons .head (.cons .head t)⟩
theorem EncT.none' {n:Nat}{a:Option Nat}{h p:SH}{e:Enc}(hb:EncT n h a e p):EncT n h none e p:=by
 cases hb with
 |nil low size ha=>exact .nil _ _ rfl
 |some o low size A ha ho=>exact .some _ _ _ _ (fun _ g=>by cases g) ho

def vbnd :Nat→Int
 |0=>0
 |k+1=>vbnd k+2^(7*(k+1))
theorem vbnd_in :∀k:Nat,k≤8→0≤vbnd k∧vbnd k≤72624976668147840:=by
 intro k hk
 have:k=0∨k=1∨k=2∨k=3∨k=4∨k=5∨k=6∨k=7∨k=8:=by omega
 rcases this with rfl|rfl|rfl|rfl|rfl|rfl|rfl|rfl|rfl <;> decide
theorem shl7 {i:Nat}(hi:i≤8):IntKind.i64.wrap (1*2^(min (7*(i:Int)).toNat IntKind.i64.bits))=2^(7*i):=by
 have:i=0∨i=1∨i=2∨i=3∨i=4∨i=5∨i=6∨i=7∨i=8:=by omega
 rcases this with rfl|rfl|rfl|rfl|rfl|rfl|rfl|rfl|rfl <;> rfl
theorem bound_any (k:Nat)(h:SH)(hk:k≤8):SRun Tryz.prog 72 [I k] h fun r q=>r=I (vbnd k)∧q=h:=by
 refine zR Tryz.func72 rfl rfl ?_
 repeat'(first|apply zF|apply zB|apply zE|(apply o_g zC;exact rfl;exact rfl)|apply zA|apply zH|((with_reducible apply Sd.mk);first|exact True.intro))
 refine zZ (S:=Nat) (fun i=>[(0,I k),(3,I (vbnd i)),(4,I ((i:Int)+1))]) (fun _=>h) (fun i=>i≤k) (fun i=>k-i) 0 (Nat.zero_le _) (by repeat'(first|exact trivial|refine⟨rfl,?_⟩|refine⟨congrArg some ?_,?_⟩)) (by repeat with_reducible first|exact Take.nil|apply Take.c|apply Take.drop) ?_
 intro i hi
 by_cases hik:i<k
 ·have hsh:=shl7 (i:=i+1) (by omega)
  have e:7*(((i+1:Nat)):Int)=7*((i:Int)+1):=by omega
  rw[e]at hsh
  have hb:=vbnd_in i (by omega)
  have hb2:=vbnd_in (i+1) (by omega)
  have hst:vbnd (i+1)=vbnd i+2^(7*(i+1)):=rfl
  rw[hst]at hb2
  generalize (2:Int)^(7*(i+1))=w at *
  repeat'(first|apply zF|apply zB|apply zE|(apply o_g zC;exact rfl;exact rfl)|(apply o_ar zC;exact rfl;exact rfl)|(apply yC;exact rfl;(focus first|omega))|apply zA|apply zG|apply zI|apply zH|((with_reducible apply Sd.mk);first|exact True.intro|omega)|((with_reducible apply Wr.mk);first|exact hsh|exact IntWalk.i64_in _ (by omega)))
  all_goals first
   |(exfalso;omega)
   |exact⟨i+1,hik,by show k-(i+1)<k-i;omega,⟨rfl,congrArg some (congrArg (Value.int .i64) hst.symm),rfl,trivial⟩,(by repeat with_reducible first|exact Take.nil|apply Take.c|apply Take.drop)⟩
 ·obtain rfl:i=k:=by omega
  repeat'(first|apply zF|apply zB|apply zE|(apply o_g zC;exact rfl;exact rfl)|(apply yD;exact rfl;(focus first|omega))|apply zA|apply zK|apply zJ|apply zN|apply zV|((with_reducible apply Sd.mk);first|exact True.intro))
  all_goals first
   |(exfalso;omega)
   |(apply zL;(exact(show ResS _ _ _ _ [_] from⟨rfl,trivial⟩));(focus exact⟨rfl,rfl⟩);(focus repeat with_reducible first|exact Take.nil|apply Take.c|apply Take.drop))
def vks (n:Int):Nat→Nat→Nat
 |0,k=>k
 |f+1,k=>if vbnd (k+1)≤n then vks n f (k+1)else k
def vk (n:Int):Nat:=vks n 8 0
theorem Size_any (n:Int)(h:SH)(hn:0≤n):SRun Tryz.prog 71 [I n] h fun r q=>r=I ((vk n:Int)+1)∧q=h:=by
 obtain⟨K,hK⟩:∃K,vk n=K:=⟨_,rfl⟩
 rw[hK]
 refine zR Tryz.func71 rfl rfl ?_
 repeat'(first|apply zF|apply zB|apply zE|(apply o_g zC;exact rfl;exact rfl)|(apply yD;exact rfl;(focus first|omega))|apply zA|apply zI|apply zH|((with_reducible apply Sd.mk);first|exact True.intro))
 all_goals first|(exfalso;omega)|skip
 refine zZ (S:=Nat) (fun k=>[(0,I n),(3,I k)]) (fun _=>h) (fun k=>k≤8∧vks n (8-k) k=K) (fun k=>8-k) 0 ⟨Nat.zero_le _,hK⟩ (by repeat'(first|exact trivial|refine⟨rfl,?_⟩|refine⟨congrArg some ?_,?_⟩)) (by repeat with_reducible first|exact Take.nil|apply Take.c|apply Take.drop) ?_
 intro k ⟨hk,he⟩
 by_cases h8:k<8
 ·have hst:vks n (8-k) k=if vbnd (k+1)≤n then vks n (8-(k+1)) (k+1)else k:=by rw[show 8-k=(8-(k+1))+1 by omega];rfl
  have hB:∀h,SRun Tryz.prog 72 [I ((k:Int)+1)] h fun r q=>r=I (vbnd (k+1))∧q=h:=fun h=>bound_any (k+1) h (by omega)
  rw[hst]at he
  generalize vbnd (k+1)=w at *
  repeat'(first|apply zF|apply zB|apply zE|(apply o_g zC;exact rfl;exact rfl)|(apply o_ar zC;exact rfl;exact rfl)|(apply zD;exact rfl;exact rfl;(focus first|exact rfl);exact rfl;(focus exact⟨_,hB _,by repeat with_reducible exact Take.nil⟩);rintro _ _ ⟨rfl,rfl⟩)|(apply zU;exact rfl;exact rfl)|(apply o_gT;(iterate 3 exact rfl);(focus first|omega))|(apply w_if;exact rfl;all_goals intro hc)|apply zA|apply zK|apply zG|apply zJ|apply zI|apply zN|apply zV|apply zH|((with_reducible apply Sd.mk);first|exact True.intro)|((with_reducible apply Wr.mk);first|exact IntWalk.i64_in _ (by omega)))
  all_goals first
   |(exfalso;omega)
   |(rw[if_pos (by omega)]at he;exact⟨k+1,⟨h8,he⟩,by show 8-(k+1)<8-k;omega,(by repeat'(first|exact trivial|refine⟨rfl,?_⟩|refine⟨congrArg some ?_,?_⟩)),(by repeat with_reducible first|exact Take.nil|apply Take.c|apply Take.drop)⟩)
   |(rw[if_neg (by omega)]at he;rw[←he];(apply zL;(exact(show ResS _ _ _ _ [_] from⟨rfl,trivial⟩));(focus exact⟨rfl,rfl⟩);(focus repeat with_reducible first|exact Take.nil|apply Take.c|apply Take.drop)))
 ·obtain rfl:k=8:=by omega
  have he:8=K:=he
  repeat'(first|apply zF|apply zB|apply zE|(apply o_g zC;exact rfl;exact rfl)|(apply o_ar zC;exact rfl;exact rfl)|(apply yF;iterate 4 exact rfl)|(apply zS;exact rfl)|apply zA|apply zK|apply zJ|apply zN|apply zV|((with_reducible apply Sd.mk);first|exact True.intro)|((with_reducible apply Wr.mk);first|exact IntWalk.i64_in _ (by omega)))
  all_goals first
   |(exfalso;omega)
   |(rw[←he];(apply zL;(exact(show ResS _ _ _ _ [_] from⟨rfl,trivial⟩));(focus exact⟨rfl,rfl⟩);(focus repeat with_reducible first|exact Take.nil|apply Take.c|apply Take.drop)))

theorem vks_ok {n:Int}:∀(f k:Nat),vbnd k≤n→vbnd (vks n f k)≤n∧vks n f k≤k+f
 |0,k,h=>⟨h,Nat.le_refl _⟩
 |f+1,k,h=>by
  by_cases g:vbnd (k+1)≤n
  ·rw[show vks n (f+1) k=vks n f (k+1)from if_pos g]
   have:=vks_ok f (k+1) g
   omega
  ·rw[show vks n (f+1) k=k from if_neg g]
   exact⟨h,by omega⟩
theorem vk_ok {n:Int}(h:0≤n):vbnd (vk n)≤n∧vk n≤8:=by
 have:=vks_ok (n:=n) 8 0 h
 exact⟨this.1,by have:=this.2;unfold vk;omega⟩
def vbe :Nat→Int→List UInt8→List UInt8 × Int
 |0,m,T=>(T,m)
 |i+1,m,T=>vbe i (m/256) (b8 (m%256)::T)
def vhd (k:Nat)(m:Int):Int:=((BitVec.ofInt 8 (65280/2^k%256) ||| BitVec.ofInt 8 (m%256)).toNat:Int)
theorem vhd_in (k:Nat)(m:Int):0≤vhd k m∧vhd k m<256:=by
 unfold vhd
 have:=(BitVec.ofInt 8 (65280/2^k%256) ||| BitVec.ofInt 8 (m%256)).isLt
 omega
def vnum (n:Int):List UInt8:=if n<0 then [] else b8 (vhd (vk n) (vbe (vk n) (n-vbnd (vk n)) []).2)::(vbe (vk n) (n-vbnd (vk n)) []).1
theorem vset_last (j:Nat)(b:UInt8)(T:List UInt8):(List.replicate (j+1) 0++T).set ((j:Int)).toNat b=List.replicate j 0++b::T:=by
 rw[Int.toNat_natCast,List.replicate_succ',List.append_assoc,List.set_append_right _ _ (by simp)]
 simp
theorem Number_any (n:Int)(h:SH)(hn:n≤9223372036854775807):SRun Tryz.prog 38 [I n] h fun r q=>r=S (vnum n)∧q=h:=by
 by_cases h0:n<0
 ·rw[show vnum n=[] from if_pos h0]
  refine zR Tryz.func38 rfl rfl ?_
  repeat'(first|apply zF|apply zB|apply zE|(apply o_g zC;exact rfl;exact rfl)|(apply yC;exact rfl;(focus first|exact ‹_›))|apply zA|apply zP|apply zN|((with_reducible apply Sd.mk);first|exact True.intro))
  all_goals first
   |(exfalso;omega)
   |(apply zL;(exact(show ResS _ _ _ _ [_] from⟨rfl,trivial⟩));(focus exact⟨rfl,rfl⟩);(focus repeat with_reducible first|exact Take.nil|apply Take.c|apply Take.drop))
 ·rw[show vnum n=b8 (vhd (vk n) (vbe (vk n) (n-vbnd (vk n)) []).2)::(vbe (vk n) (n-vbnd (vk n)) []).1 from if_neg h0]
  obtain⟨hk1,hk2⟩:=vk_ok (n:=n) (by omega)
  have hS:=fun h=>Size_any n h (by omega)
  have hB:=fun h=>bound_any (vk n) h hk2
  have hbd:=vbnd_in (vk n) hk2
  generalize vk n=K at *
  generalize vbnd K=w at *
  have hK1:IntKind.i64.wrap ((K:Int)+1-1)=K:=by rw[Int.add_sub_cancel];exact IntWalk.i64_in _ (by omega)
  have hzr:zrow (.int .u8 0) ((K+1)*1)=bytesV (List.replicate (K+1) 0):=map_zrow (f:=byteV) 0 rfl rfl (K+1)
  refine zR Tryz.func38 rfl rfl ?_
  repeat'(first|apply zF|apply zB|apply zE|(apply o_g zC;exact rfl;exact rfl)|(apply o_ar zC;exact rfl;exact rfl)|(apply o_makeSlice zC;(iterate 6 exact rfl);(focus decide);(focus first|omega);(focus first|exact hzr);exact rfl)|(apply zD;exact rfl;exact rfl;(focus first|exact rfl);exact rfl;(focus exact⟨_,hS _,by repeat with_reducible exact Take.nil⟩);rintro _ _ ⟨rfl,rfl⟩)|(apply zD;exact rfl;exact rfl;(focus first|exact rfl);exact rfl;(focus exact⟨_,hB _,by repeat with_reducible exact Take.nil⟩);rintro _ _ ⟨rfl,rfl⟩)|(apply yD;exact rfl;(focus first|omega))|apply zA|apply zI|apply zH|((with_reducible apply Sd.mk);first|exact True.intro)|((with_reducible apply Wr.mk);first|exact hK1|exact IntWalk.i64_in _ (by omega))|intro A)
  all_goals first|(exfalso;omega)|skip
  rename_i q0
  obtain⟨R,hR⟩:∃R,vbe K (n-w) []=R:=⟨_,rfl⟩
  rw[hR]
  refine zZ (S:=Nat × Int × List UInt8) (fun x=>[(3,I K),(4,I x.2.1),(5,gsl A 0 ((K+1)*1) (K+1) 1),(6,I x.1)]) (fun x=>(A,⟨bytesV (List.replicate (x.1+1) 0++x.2.2),false⟩)::q0)
   (fun x=>x.1+x.2.2.length=K∧(0≤x.2.1∧x.2.1≤9223372036854775807)∧vbe x.1 x.2.1 x.2.2=R) (fun x=>x.1) (K,n-w,[]) ⟨rfl,by dsimp only;omega,hR⟩ (by repeat'(first|exact trivial|refine⟨rfl,?_⟩|refine⟨congrArg some ?_,?_⟩)) (.consE .head (by rw[List.append_nil]) .nil) ?_
  rintro⟨i,m,T⟩ ⟨hi,hm,he⟩
  dsimp only at hi hm he ⊢
  cases i with
  |succ j =>
   have hset:=vset_last (j+1) (b8 (m%256)) T
   have hlen:(List.replicate (j+1+1) (0:UInt8)++T).length=K+1:=by simp;omega
   generalize List.replicate (j+1+1) (0:UInt8)++T=X at hset hlen ⊢
   repeat'(first|apply zF|apply zB|apply zE|(apply o_g zC;exact rfl;exact rfl)|(apply o_ar zC;exact rfl;exact rfl)|(apply o_ex;exact rfl;exact rfl)|(apply zX zC;(iterate 4 exact rfl);(focus exact up))|(apply yC;exact rfl;(focus first|omega))|apply zA|apply zG|apply zI|apply zH|((with_reducible apply Sd.mk);first|exact True.intro|omega)|((with_reducible apply Ln.mk);first|(simp ;first|done|omega))|((with_reducible apply Wr.mk);first|exact IntWalk.i64_in _ (by omega)|exact IntKind.wrap_u8 _)|((with_reducible apply Ex.mk);first|exact ex8i _)|((with_reducible apply Se.mk);first|exact setAt_bytes (by omega) (by omega))|exact True.intro)
   all_goals first
    |(exfalso;omega)
    |exact⟨(j,m/256,b8 (m%256)::T),⟨by show j+(T.length+1)=K;omega,by dsimp only;omega,he⟩,by show j<j+1;omega,⟨rfl,rfl,rfl,congrArg some (congrArg (Value.int .i64) (by show((j+1:Nat):Int)-1=(j:Int);omega)),trivial⟩,by rw[hset];exact(by repeat with_reducible first|exact Take.nil|apply Take.c|apply Take.drop)⟩
  |zero =>
   have he:(T,m)=R:=he
   rw[←he]
   dsimp only
   have hlen:(([0]:List UInt8)++T).length=K+1:=by simp;omega
   have hv:=vhd_in K m
   have hor:IntKind.u8.wrap ((BitVec.ofInt IntKind.u8.bits (65280/2^K%256) ||| BitVec.ofInt IntKind.u8.bits (m%256)).toNat:Int)=vhd K m:=by
    show IntKind.u8.wrap (vhd K m)=vhd K m
    exact IntWalk.u8_in _ (by omega)
   have hsh:(65280:Int)/2^(min ((K:Int)).toNat IntKind.u16.bits)=65280/2^K:=by rw[Int.toNat_natCast,show IntKind.u16.bits=16 from rfl,Nat.min_eq_left (by omega)]
   have hset:(([0]:List UInt8)++T).set (Int.toNat 0) (b8 (vhd K m))=b8 (vhd K m)::T:=rfl
   show SWp _ _ _ _ _ ((A,⟨bytesV ([0]++T),false⟩)::q0)
   generalize ([0]:List UInt8)++T=X at hset hlen ⊢
   repeat'(first|apply zF|apply zB|apply zE|(apply o_g zC;exact rfl;exact rfl)|(apply o_ar zC;exact rfl;exact rfl)|(apply o_ex;exact rfl;exact rfl)|(apply zX zC;(iterate 4 exact rfl);(focus exact up))|(apply o_toString zC;(iterate 6 exact rfl);(focus exact pk))|(apply zS;exact rfl)|apply zA|apply zK|apply zJ|apply zN|apply zV|((with_reducible apply Sd.mk);first|exact True.intro|omega)|((with_reducible apply Ln.mk);first|(simp ;first|done|omega))|((with_reducible apply Wr.mk);first|exact hor|exact IntKind.wrap_u8 _)|((with_reducible apply Ex.mk);first|exact hsh)|((with_reducible apply Se.mk);first|exact setAt_bytes (by omega) (by omega))|((with_reducible apply Su.mk);first|exact zQ)|exact True.intro|exact rfl)
   all_goals first
    |(exfalso;omega)
    |(apply zL;(exact(show ResS _ _ _ _ [_] from⟨rfl,trivial⟩));(focus rw[←hset];exact⟨rfl,rfl⟩);(focus repeat with_reducible first|exact Take.nil|apply Take.c|apply Take.drop))

theorem NewEncoderT (h:SH):SRun Tryz.prog 40 [] h fun r q=>∃n,r=gptr n 0 3∧q=(n,⟨encC (.slice none 0 0) 0 4294967295,false⟩)::h:=by
 refine w_body0 Tryz.func40 rfl rfl ?_
 repeat'(first|apply zF|apply zB|apply zE|(apply o_g zC;exact rfl;exact rfl)|(apply o_box (tt:=tyT);iterate 5 exact rfl)|(apply yT zC;exact rfl;exact rfl;(focus first|with_reducible exact pl140);exact rfl;(focus repeat(first|exact BuildR.nil|(apply BuildR.one;exact rfl;exact rfl;(first|(focus(repeat(first|exact SetAt.zero|apply SetAt.succ));done)))));exact rfl)|apply zA|apply zN|((with_reducible apply Sd.mk);first|exact True.intro)|intro A)
 (apply zL;(exact(show ResS _ _ _ _ [_] from⟨rfl,trivial⟩));(focus exact⟨A,rfl,rfl⟩);(focus repeat with_reducible first|exact Take.nil|apply Take.c|apply Take.drop))
theorem benc_ok {n:Nat}{P:List Int}{c v:Int}{e:Enc}(h:EncOk n e)(hP:P.length=2048)(hc:0≤c∧c≤255):EncOk (n+16) (benc P c e v).2∧(benc P c e v).1.length=2048:=by
 have hk:(c/32).toNat<8:=by omega
 have:=tenc_ok (v:=v) (k:=8) (t:=bsel P (c/32).toNat) (j:=1) h
 exact⟨this.1,bput_len hP hk (by rw[this.2];exact bsel_len hP hk)⟩
abbrev encZ :Enc:=⟨[],0,4294967295⟩
theorem encZ_ok :EncOk (16*0) encZ:=⟨Nat.le_refl _,by decide,by decide⟩
theorem bat_255 (l:List UInt8)(i:Int):0≤bat l i∧bat l i≤255:=by
 unfold bat
 have:=(l.getD i.toNat 0).toNat_lt
 omega
theorem vbe_len :∀(k:Nat) (m:Int) (T:List UInt8),(vbe k m T).1.length=k+T.length
 |0,m,T=>by show T.length=_;omega
 |k+1,m,T=>by
  show(vbe k (m/256) (b8 (m%256)::T)).1.length=_
  rw[vbe_len k];show k+(T.length+1)=_;omega
theorem vnum_len {n:Int}(h:0≤n):(vnum n).length=vk n+1:=by
 rw[show vnum n=b8 (vhd (vk n) (vbe (vk n) (n-vbnd (vk n)) []).2)::(vbe (vk n) (n-vbnd (vk n)) []).1 from if_neg (by omega),List.length_cons,vbe_len]
 rfl

abbrev rdB (n:Nat)(l:List UInt8)(e:Int):Nat × Blk:=(n,⟨[S l,I e],false⟩)
theorem yN (l:List UInt8)(h:SH):SRun Tryz.prog 46 [S l] h fun r q=>∃n,r=gptr n 0 2∧q=rdB n l 0::h:=by
 refine zR Tryz.func46 rfl rfl ?_
 repeat'(first|apply zF|apply zB|apply zE|(apply o_g zC;exact rfl;exact rfl)|(apply o_box (tt:=tyT);iterate 5 exact rfl)|(apply yT zC;exact rfl;exact rfl;(focus first|with_reducible exact pl152);exact rfl;(focus repeat(first|exact BuildR.nil|(apply BuildR.one;exact rfl;exact rfl;(first|(focus(repeat(first|exact SetAt.zero));done)))));exact rfl)|apply zA|apply zN|((with_reducible apply Sd.mk);first|exact True.intro)|intro A)
 all_goals first
  |(apply zL;(exact(show ResS _ _ _ _ [_] from⟨rfl,trivial⟩));(focus exact⟨A,rfl,rfl⟩);(focus repeat with_reducible first|exact Take.nil|apply Take.c|apply Take.drop))
theorem rfail_any (n:Nat)(l:List UInt8)(e c:Int)(h:SH):SRun Tryz.prog 85 [gptr n 0 2,I c] (rdB n l e::h) fun _ q=>q=rdB n l c::h:=by
 refine zY Tryz.func85 rfl rfl ?_
 repeat'(first|apply zB|apply zE|(apply o_g zC;exact rfl;exact rfl)|(apply zX zC;(iterate 4 exact rfl);(focus exact up))|((with_reducible apply Sd.mk);first|exact True.intro)|((with_reducible apply Ln.mk);first|rfl)|((with_reducible apply Se.mk);first|(focus(repeat(first|exact SetAt.zero|apply SetAt.succ));done))|exact True.intro)
 all_goals first
  |(apply s_finN;(exact(show ResS _ _ _ _ [] from trivial));(focus exact rfl);(focus repeat with_reducible first|exact Take.nil|apply Take.c|apply Take.drop))
theorem rErr_any (n:Nat)(l:List UInt8)(e:Int)(h:SH):SRun Tryz.prog 48 [gptr n 0 2] (rdB n l e::h) fun r q=>r=I e∧q=rdB n l e::h:=by
 refine zR Tryz.func48 rfl rfl ?_
 repeat'(first|apply zF|apply zB|apply zE|(apply o_g zC;exact rfl;exact rfl)|(apply zM zC;(iterate 3 exact rfl);(focus exact pk))|apply zA|apply zN|((with_reducible apply Sd.mk);first|exact True.intro)|((with_reducible apply Ln.mk);first|rfl)|((with_reducible apply Ce.mk);first|rfl)|exact True.intro|exact rfl)
 all_goals first
  |(apply zL;(exact(show ResS _ _ _ _ [_] from⟨rfl,trivial⟩));(focus exact⟨rfl,rfl⟩);(focus repeat with_reducible first|exact Take.nil|apply Take.c|apply Take.drop))
theorem rLeft_any (n:Nat)(l:List UInt8)(e:Int)(h:SH):SRun Tryz.prog 51 [gptr n 0 2] (rdB n l e::h) fun r q=>r=I l.length∧q=rdB n l e::h:=by
 refine zR Tryz.func51 rfl rfl ?_
 repeat'(first|apply zF|apply zB|apply zE|(apply o_g zC;exact rfl;exact rfl)|(apply zM zC;(iterate 3 exact rfl);(focus exact pk))|apply zA|apply zN|((with_reducible apply Sd.mk);first|exact True.intro)|((with_reducible apply Ln.mk);first|rfl)|((with_reducible apply Ce.mk);first|rfl)|exact True.intro|exact rfl)
 all_goals first
  |(apply zL;(exact(show ResS _ _ _ _ [_] from⟨rfl,trivial⟩));(focus exact⟨rfl,rfl⟩);(focus repeat with_reducible first|exact Take.nil|apply Take.c|apply Take.drop))
def rend (l:List UInt8)(e:Int):Int:=if e=0∧l≠[] then 12 else e
theorem vEnd_any (n:Nat)(l:List UInt8)(e:Int)(h:SH):SRun Tryz.prog 100 [gptr n 0 2] (rdB n l e::h) fun r q=>r=I (rend l e)∧q=rdB n l (rend l e)::h:=by
 by_cases h0:e=0∧l≠[]
 ·rw[show rend l e=12 from if_pos h0]
  obtain⟨rfl,hl⟩:=h0
  refine zR Tryz.func100 rfl rfl ?_
  repeat'(first|apply zF|apply zB|apply zE|(apply o_g zC;exact rfl;exact rfl)|(apply zM zC;(iterate 3 exact rfl);(focus exact pk))|(apply zD;exact rfl;exact rfl;(focus first|exact rfl);exact rfl;(focus exact⟨_,rfail_any _ _ _ _ _,by repeat with_reducible exact Take.nil⟩);rintro _ _ rfl)|(apply zU;exact rfl;exact rfl)|(apply yC;exact rfl;(focus first|exact ‹_›))|apply zA|apply zN|((with_reducible apply Sd.mk);first|exact True.intro)|((with_reducible apply Ln.mk);first|rfl)|((with_reducible apply Ce.mk);first|rfl)|exact True.intro|exact rfl)
  all_goals first
   |contradiction
   |(apply zL;(exact(show ResS _ _ _ _ [_] from⟨rfl,trivial⟩));(focus exact⟨rfl,rfl⟩);(focus repeat with_reducible first|exact Take.nil|apply Take.c|apply Take.drop))
 ·rw[show rend l e=e from if_neg h0]
  refine zR Tryz.func100 rfl rfl ?_
  repeat'(first|apply zF|apply zB|apply zE|(apply o_g zC;exact rfl;exact rfl)|(apply zM zC;(iterate 3 exact rfl);(focus exact pk))|(apply zD;exact rfl;exact rfl;(focus first|exact rfl);exact rfl;(focus exact⟨_,rfail_any _ _ _ _ _,by repeat with_reducible exact Take.nil⟩);rintro _ _ rfl)|(apply zU;exact rfl;exact rfl)|(apply yF;iterate 4 exact rfl)|(apply o_guardT;(iterate 3 exact rfl);all_goals intro hc)|(apply zS;exact rfl)|(apply w_ifN;exact rfl;all_goals intro hc)|apply zA|apply zI|apply zN|((with_reducible apply Sd.mk);first|exact True.intro)|((with_reducible apply Ln.mk);first|rfl)|((with_reducible apply Ce.mk);first|rfl)|exact True.intro|exact rfl)
  all_goals first
   |contradiction
   |(apply zL;(exact(show ResS _ _ _ _ [_] from⟨rfl,trivial⟩));(focus exact⟨rfl,rfl⟩);(focus repeat with_reducible first|exact Take.nil|apply Take.c|apply Take.drop))
   |(exfalso;exact h0 ⟨by assumption,by assumption⟩)
theorem rTake_any (n:Nat)(l:List UInt8)(x:Int)(h:SH)(hl:l.length≤9223372036854775807)(hx:0≤x∧x≤l.length):SRun Tryz.prog 50 [gptr n 0 2,I x] (rdB n l 0::h) fun r q=>r=S (l.take x.toNat)∧q=rdB n (l.drop x.toNat) 0::h:=by
 refine zY Tryz.func50 rfl rfl ?_
 repeat'(first|apply zF|apply zB|apply zE|(apply o_g zC;exact rfl;exact rfl)|(apply zM zC;(iterate 3 exact rfl);(focus exact pk))|(apply zX zC;(iterate 4 exact rfl);(focus exact up))|(apply zS;exact rfl)|(apply yD;exact rfl;(focus first|omega))|apply zA|apply zP|apply yP|apply zN|apply zH|((with_reducible apply Sd.mk);first|exact True.intro|omega)|((with_reducible apply Ln.mk);first|rfl)|((with_reducible apply Ce.mk);first|rfl)|((with_reducible apply Se.mk);first|(focus(repeat(first|exact SetAt.zero));done))|exact True.intro|exact rfl)
 all_goals first
  |(exfalso;omega)
  |(apply zL;(exact(show ResS _ _ _ _ [_] from⟨rfl,trivial⟩));(focus exact⟨rfl,rfl⟩);(focus repeat with_reducible first|exact Take.nil|apply Take.c|apply Take.drop))
  |contradiction

def nencN (L:List Int):Nat→Nat→List Int→Enc→Enc
 |0,_,_,e=>e
 |k+1,i,t,e=>nencN L k (i+1) (nenc t e L[i]!).1 (nenc t e L[i]!).2
theorem encodeI_any (M N:Nat)(t:List Int)(L:List Int)(v:Value)(h:SH)(hv:Has h (nodes L) 1 L.length v)(hl:L.length≤4096)(ht:t.length=64) :
  SRun Tryz.prog 120 [.iface 94 (gptr M 0 2),v] ((M,⟨numC N,false⟩)::(N,⟨nodes t,false⟩)::h) fun r q =>
   r=S (if L.length=0 then vnum 0 else vnum L.length++fin (nencN L L.length 0 t encZ))∧q=h:=by
 have hN:=fun h=>Number_any (L.length:Int) h (by omega)
 obtain⟨ad,fl,rfl,hh⟩:=hv
 by_cases h0:L.length=0
 ·rw[if_pos h0]
  rw[h0]at hN ⊢
  refine zY Tryz.func120 rfl rfl ?_
  repeat'(first|apply zF|apply zB|apply zE|(apply o_g zC;exact rfl;exact rfl)|(apply zD;exact rfl;exact rfl;(focus first|exact rfl);exact rfl;(focus exact⟨_,hN _,by repeat with_reducible exact Take.nil⟩);rintro _ _ ⟨rfl,rfl⟩)|(apply yB;exact rfl)|apply zA|apply zP|apply zN|((with_reducible apply Sd.mk);first|exact True.intro))
  all_goals first
   |(exfalso;omega)
   |(apply zL;(exact(show ResS _ _ _ _ [_] from⟨rfl,trivial⟩));(focus exact⟨rfl,rfl⟩);(focus repeat with_reducible first|exact Take.nil|apply Take.c|apply Take.drop))
 ·rw[if_neg h0]
  obtain⟨A,ro,h1,rfl,hp⟩:=hh h0
  obtain⟨R,hR⟩:∃R,nencN L L.length 0 t encZ=R:=⟨_,rfl⟩
  rw[hR]
  have hlb:(nodes L).length=L.length:=by simp
  refine zY Tryz.func120 rfl rfl ?_
  repeat'(first|apply zF|apply zB|apply zE|(apply o_g zC;exact rfl;exact rfl)|(apply zD;exact rfl;exact rfl;(focus first|exact rfl);exact rfl;(focus exact⟨_,hN _,by repeat with_reducible exact Take.nil⟩);rintro _ _ ⟨rfl,rfl⟩)|(apply zD;exact rfl;exact rfl;(focus first|exact rfl);exact rfl;(focus exact⟨_,NewEncoder_any _,by repeat with_reducible exact Take.nil⟩);rintro _ _ ⟨n,rfl,hb0⟩)|(apply yD;exact rfl;(focus first|omega))|apply zA|apply zI|apply zH|((with_reducible apply Sd.mk);first|exact True.intro))
  all_goals first|(exfalso;omega)|skip
  rename_i p0
  refine zZ (S:=Nat × List Int × Enc × SH) (fun x=>[(0,.iface 94 (gptr M 0 2)),(5,S (vnum L.length)),(6,gptr n 0 3),(17,.slice (some ⟨A,0,some (1*L.length)⟩) L.length fl),(18,I L.length),(19,I x.1)]) (fun x=>x.2.2.2)
   (fun x=>x.1≤L.length∧x.2.1.length=64∧EncB n ((M,⟨numC N,false⟩)::(N,⟨nodes x.2.1,false⟩)::h) x.2.2.1 x.2.2.2∧EncOk (136*x.1) x.2.2.1∧nencN L (L.length-x.1) x.1 x.2.1 x.2.2.1=R)
   (fun x=>L.length-x.1) (0,t,encZ,p0) ⟨Nat.zero_le _,ht,hb0,encZ_ok,hR⟩ (by repeat'(first|exact trivial|refine⟨rfl,?_⟩|refine⟨congrArg some ?_,?_⟩)) Take.nil ?_
  rintro⟨i,t,e,p⟩ ⟨hi,ht,hb,hok,he⟩
  dsimp only at hi ht hb hok he ⊢
  obtain⟨pA,hpA⟩:=hb.pick (.tail (.tail hp))
  by_cases hil:i<L.length
  ·obtain⟨z,hz⟩:∃z,z=L[i]!:=⟨_,rfl⟩
   have hcl:(nodes L)[0+((i:Int)).toNat*1]?=some (I z):=by rw[hz];exact yM hil
   have hok2:=nenc_ok (t:=t) hok z
   rw[show L.length-i=(L.length-(i+1))+1 by omega]at he
   have he:nencN L (L.length-(i+1)) (i+1) (nenc t e z).1 (nenc t e z).2=R:=by rw[hz];exact he
   have hE:=NumEncode_any n M N (136*i) t e z h p hb ht hok (by omega)
   repeat'(first|apply zF|apply zB|apply zE|(apply o_g zC;exact rfl;exact rfl)|(apply o_ar zC;exact rfl;exact rfl)|(apply zM zC;(iterate 3 exact rfl);(focus exact pk))|(apply o_invoke;(iterate 3 exact rfl);(focus exact⟨_,hE,by repeat with_reducible exact Take.nil⟩);(focus kernel_rfl);exact rfl;rintro _ _ hb2)|(apply yC;exact rfl;(focus first|omega))|apply zA|apply zG|apply zI|apply zH|((with_reducible apply Sd.mk);first|exact True.intro|omega)|((with_reducible apply Ln.mk);first|(simp[hlb];first|done|omega))|((with_reducible apply Wr.mk);first|exact IntWalk.i64_in _ (by omega))|((with_reducible apply Ce.mk);first|exact hcl)|exact True.intro|exact rfl)
   all_goals first
    |(exfalso;omega)
    |exact⟨(i+1,(nenc t e z).1,(nenc t e z).2,_),⟨hil,by rw[←ht];exact hok2.2,hb2,by rw[show 136*(i+1)=136*i+136 by omega];exact hok2.1,he⟩,by show L.length-(i+1)<L.length-i;omega,(by repeat'(first|exact trivial|refine⟨rfl,?_⟩|refine⟨congrArg some ?_,?_⟩)),Take.nil⟩
  ·obtain rfl:i=L.length:=by omega
   rw[Nat.sub_self]at he
   have he:e=R:=he
   rw[←he]
   have hs1:=vnum_len (n:=(L.length:Int)) (by omega)
   have hs2:=(vk_ok (n:=(L.length:Int)) (by omega)).2
   have hs3:(fin e).length=e.out.length+4:=by simp[fin,tail4]
   have hs4:=hok.out
   repeat'(first|apply zF|apply zB|apply zE|(apply o_g zC;exact rfl;exact rfl)|(apply zD;exact rfl;exact rfl;(focus first|exact rfl);exact rfl;(focus exact⟨_,Finish_any n e p hb.r (by omega) hok.low,by repeat with_reducible exact Take.nil⟩);rintro _ _ ⟨rfl,rfl⟩)|(apply yD;exact rfl;(focus first|omega))|apply zA|apply zK|apply zJ|apply zN|apply zV|((with_reducible apply Sd.mk);first|exact True.intro|omega))
   all_goals first
    |(exfalso;omega)
    |(apply zL;(exact(show ResS _ _ _ _ [_] from⟨rfl,trivial⟩));(focus exact⟨rfl,rfl⟩);(focus repeat(first|with_reducible exact Take.nil|exact hb.take.trans (.drop (.drop .nil))|with_reducible apply Take.c|with_reducible apply Take.drop)))

abbrev nOk (z:Int):Prop:=0≤z∧z≤4611686018427387903
instance (L:List Int):Decidable (∀z∈L,nOk z):=inferInstance
def mEncN (L:List Int):List UInt8 × Int:=if 4096<L.length then([],9)else if ∀z∈L,nOk z then(if L.length=0 then vnum 0 else vnum L.length++fin (nencN L L.length 0 (List.replicate 64 1024) encZ),0)else([],2)
theorem ibang_mem {L:List Int}{i:Nat}(h:i<L.length):L[i]!∈L:=by rw[getElem!_pos L i h];exact List.getElem_mem h
theorem all_bang {L:List Int}(h:∀j,j<L.length→nOk L[j]!):∀z∈L,nOk z:=by
 intro z hz
 obtain⟨i,hi,rfl⟩:=List.mem_iff_getElem.1 hz
 have:=h i hi
 rwa [getElem!_pos L i hi]at this
theorem EncodeNumbers_any (L:List Int)(v:Value)(h:SH)(hv:Has h (nodes L) 1 L.length v)(hl:L.length≤maxLen):SRun Tryz.prog 87 [v] h fun r q=>r=.tuple #[S (mEncN L).1,I (mEncN L).2]∧q=h:=by
 obtain⟨ad,fl,rfl,hh⟩:=id hv
 by_cases h0:4096<L.length
 ·rw[show mEncN L=([],9)from if_pos h0]
  refine zR Tryz.func87 rfl rfl ?_
  repeat'(first|apply zF|apply zB|apply zE|(apply o_g zC;exact rfl;exact rfl)|(apply yC;exact rfl;(focus first|omega))|apply zA|apply zP|apply zN|((with_reducible apply Sd.mk);first|exact True.intro))
  all_goals first
   |(exfalso;omega)
   |(apply zL;(exact(show ResS _ _ _ _ [_,_] from⟨rfl,⟨rfl,trivial⟩⟩));(focus exact⟨rfl,rfl⟩);(focus repeat with_reducible first|exact Take.nil|apply Take.c|apply Take.drop))
 ·have hE:=fun M N=>encodeI_any M N (List.replicate 64 1024) L (.slice ad L.length fl) h hv (by omega) List.length_replicate
  have hm:mEncN L=if ∀z∈L,nOk z then(if L.length=0 then vnum 0 else vnum L.length++fin (nencN L L.length 0 (List.replicate 64 1024) encZ),0)else([],2):=if_neg h0
  rw[hm]
  have hB:∀h,SRun Tryz.prog 75 [] h fun r q=>∃M N,r=gptr M 0 2∧q=(M,⟨numC N,false⟩)::(N,⟨nodes (List.replicate 64 1024),false⟩)::h:=NewNumbers_any
  generalize (if L.length=0 then vnum 0 else vnum L.length++fin (nencN L L.length 0 (List.replicate 64 1024) encZ))=R at *
  generalize (List.replicate 64 1024:List Int)=X at *
  have hlb:(nodes L).length=L.length:=by simp
  refine zR Tryz.func87 rfl rfl ?_
  repeat'(first|apply zF|apply zB|apply zE|(apply o_g zC;exact rfl;exact rfl)|(apply yD;exact rfl;(focus first|omega))|apply zA|apply zI|apply zH|((with_reducible apply Sd.mk);first|exact True.intro))
  all_goals first|(exfalso;omega)|skip
  refine zZ (S:=Nat) (fun i=>[(0,.slice ad L.length fl),(9,.slice ad L.length fl),(10,I L.length),(11,I i)]) (fun _=>h) (fun i=>i≤L.length∧∀j,j<i→nOk L[j]!) (fun i=>L.length-i) 0 ⟨Nat.zero_le _,fun j hj=>absurd hj (Nat.not_lt_zero _)⟩ (by repeat'(first|exact trivial|refine⟨rfl,?_⟩|refine⟨congrArg some ?_,?_⟩)) (by repeat with_reducible first|exact Take.nil|apply Take.c|apply Take.drop) ?_
  rintro i ⟨hi,hall⟩
  by_cases hil:i<L.length
  ·obtain⟨A,ro,h1,rfl,hp⟩:=hh (by omega)
   obtain⟨z,hz⟩:∃z,z=L[i]!:=⟨_,rfl⟩
   have hcl:(nodes L)[0+((i:Int)).toNat*1]?=some (I z):=by rw[hz];exact yM hil
   repeat'(first|apply zF|apply zB|apply zE|(apply o_g zC;exact rfl;exact rfl)|(apply o_ar zC;exact rfl;exact rfl)|(apply zM zC;(iterate 3 exact rfl);(focus exact pk))|(apply zU;exact rfl;exact rfl)|(apply yF;iterate 4 exact rfl)|(apply o_guardF;(iterate 3 exact rfl);all_goals intro hc)|(apply yB;exact rfl)|(apply yC;exact rfl;(focus first|omega))|(apply w_if;exact rfl;all_goals intro hc)|apply zA|apply zP|apply zG|apply yP|apply zI|apply zN|apply zH|((with_reducible apply Sd.mk);first|exact True.intro|omega)|((with_reducible apply Ln.mk);first|(simp[hlb];first|done|omega))|((with_reducible apply Wr.mk);first|exact IntWalk.i64_in _ (by omega))|((with_reducible apply Ce.mk);first|exact ‹_›)|exact True.intro|exact rfl)
   all_goals first
    |(exfalso;omega)
    |exact⟨i+1,⟨hil,fun j hj=>by
      by_cases e:j=i
      ·rw[e,←hz];omega
      ·exact hall j (by omega)⟩,by show L.length-(i+1)<L.length-i;omega,(by repeat'(first|exact trivial|refine⟨rfl,?_⟩|refine⟨congrArg some ?_,?_⟩)),(by repeat with_reducible first|exact Take.nil|apply Take.c|apply Take.drop)⟩
    |(rw[if_neg (fun g=>by have:=g z (by rw[hz];exact ibang_mem hil);omega)];(apply zL;(exact(show ResS _ _ _ _ [_,_] from⟨rfl,⟨rfl,trivial⟩⟩));(focus exact⟨rfl,rfl⟩);(focus repeat with_reducible first|exact Take.nil|apply Take.c|apply Take.drop)))
  ·obtain rfl:i=L.length:=by omega
   rw[if_pos (all_bang hall)]
   repeat'(first|apply zF|apply zB|apply zE|(apply o_g zC;exact rfl;exact rfl)|(apply zD;exact rfl;exact rfl;(focus first|exact rfl);exact rfl;(focus exact⟨_,hB _,by repeat with_reducible exact Take.nil⟩);rintro _ _ ⟨M,N,rfl,rfl⟩)|(apply yD;exact rfl;(focus first|omega))|apply zA|apply zK|apply zJ|apply zV|((with_reducible apply Sd.mk);first|exact True.intro))
   all_goals first|(exfalso;omega)|skip
   refine o_iface (d:=.pointer 149) rfl (by kernel_rfl) rfl rfl ?_
   repeat'(first|apply zE|(apply o_g zC;exact rfl;exact rfl)|(apply zD;exact rfl;exact rfl;(focus first|exact rfl);exact rfl;(focus exact⟨_,hE M N,by repeat with_reducible exact Take.nil⟩);rintro _ _ ⟨rfl,rfl⟩)|apply zA|apply zN|((with_reducible apply Sd.mk);first|exact True.intro))
   all_goals first
    |(exfalso;omega)
    |(apply zL;(exact(show ResS _ _ _ _ [_,_] from⟨rfl,⟨rfl,trivial⟩⟩));(focus exact⟨rfl,rfl⟩);(focus repeat with_reducible first|exact Take.nil|apply Take.c|apply Take.drop))

def vb1 (f:Int)(i:Nat):Int:=((BitVec.ofInt 8 f&&&BitVec.ofInt 8 (128/2^i)).toNat:Int)
def vlow (f:Int)(k:Nat):Int:=((BitVec.ofInt 8 f&&&BitVec.ofInt 8 (127/2^k)).toNat:Int)
def vlead (f:Int):Nat→Nat→Nat
 |0,i=>i
 |n+1,i=>if vb1 f i≠0 then vlead f n (i+1)else i
def vacc (l:List UInt8):Nat→Nat→Int→Int
 |0,_,v=>v
 |n+1,i,v=>vacc l n (i+1) (v*256+bat l (i:Int))
theorem vlow_in (f:Int){k:Nat}(hk:k≤8):0≤vlow f k∧vlow f k<2^(7-k):=by
 unfold vlow
 refine⟨Int.natCast_nonneg _,?_⟩
 have h1:(BitVec.ofInt 8 f&&&BitVec.ofInt 8 (127/2^k)).toNat≤(BitVec.ofInt 8 (127/2^k)).toNat:=by
  rw[BitVec.toNat_and];exact Nat.and_le_right
 have h2:((BitVec.ofInt 8 (127/2^k)).toNat:Int)<2^(7-k):=by
  have:k=0∨k=1∨k=2∨k=3∨k=4∨k=5∨k=6∨k=7∨k=8:=by omega
  rcases this with rfl|rfl|rfl|rfl|rfl|rfl|rfl|rfl|rfl <;> decide
 omega
theorem pow_cap {k:Nat}(hk:k≤8):(2:Int)^(7-k)*256^k≤18446744073709551616:=by
 have:k=0∨k=1∨k=2∨k=3∨k=4∨k=5∨k=6∨k=7∨k=8:=by omega
 rcases this with rfl|rfl|rfl|rfl|rfl|rfl|rfl|rfl|rfl <;> decide
theorem or256 {v b:Int}(hv:0≤v∧v*256<18446744073709551616)(hb:0≤b∧b<256):IntKind.u64.wrap ((BitVec.ofInt IntKind.u64.bits (v*256) ||| BitVec.ofInt IntKind.u64.bits b).toNat:Int)=v*256+b:=by
 obtain⟨x,rfl⟩:=Int.eq_ofNat_of_zero_le hv.1
 obtain⟨y,rfl⟩:=Int.eq_ofNat_of_zero_le hb.1
 have e:(BitVec.ofInt 64 ((x*256:Nat):Int) ||| BitVec.ofInt 64 (y:Int)).toNat=x*256+y:=by
  rw[BitVec.ofInt_natCast,BitVec.ofInt_natCast,BitVec.toNat_or,BitVec.toNat_ofNat,BitVec.toNat_ofNat,Nat.mod_eq_of_lt (by omega),Nat.mod_eq_of_lt (by omega),Nat.mul_comm x 256]
  have:=Nat.two_pow_add_eq_or_of_lt (i:=8) (b:=y) (by omega) x
  exact this.symm
 rw[show IntKind.u64.bits=64 from rfl,show((x:Int))*256=((x*256:Nat):Int)by omega,e,IntWalk.u64_in _ (by omega)]
 omega
def vpeek (l:List UInt8):Int × Int × Bool :=
 if l.length=0 then(0,0,false)else
 if l.length<vlead (bat l 0) 8 0+1 then(0,0,false)else
 if 9223372036854775807-vbnd (vlead (bat l 0) 8 0)<vacc l (vlead (bat l 0) 8 0) 1 (vlow (bat l 0) (vlead (bat l 0) 8 0))then(0,0,false)else
 (vacc l (vlead (bat l 0) 8 0) 1 (vlow (bat l 0) (vlead (bat l 0) 8 0))+vbnd (vlead (bat l 0) 8 0),(vlead (bat l 0) 8 0:Int)+1,true)

theorem one_le_256 (m:Nat):(1:Int)≤256^m:=by
 have h:0<256^m:=Nat.pow_pos (by decide:0<256)
 have e:((256:Int)^m)=((256^m:Nat):Int):=by rw[Int.natCast_pow];rfl
 rw[e];omega
theorem peek_any (n:Nat)(l:List UInt8)(e:Int)(h:SH)(hl:l.length≤1000000):SRun Tryz.prog 116 [gptr n 0 2] (rdB n l e::h) fun r q=>r=.tuple #[I (vpeek l).1,I (vpeek l).2.1,B (vpeek l).2.2]∧q=rdB n l e::h:=by
 by_cases h0:l.length=0
 ·obtain rfl:l=[]:=List.length_eq_zero_iff.1 h0
  rw[show vpeek []=(0,0,false)from rfl]
  refine zR Tryz.func116 rfl rfl ?_
  repeat'(first|apply zF|apply zB|apply zE|(apply o_g zC;exact rfl;exact rfl)|(apply zM zC;(iterate 3 exact rfl);(focus exact pk))|(apply yB;exact rfl)|apply zA|apply zP|apply zN|((with_reducible apply Sd.mk);first|exact True.intro)|((with_reducible apply Ln.mk);first|rfl)|((with_reducible apply Ce.mk);first|rfl)|exact True.intro|exact rfl)
  all_goals first
   |(exfalso;omega)
   |contradiction
   |(apply zL;(exact(show ResS _ _ _ _ [_,_,_] from⟨rfl,⟨rfl,⟨rfl,trivial⟩⟩⟩));(focus exact⟨rfl,rfl⟩);(focus repeat with_reducible first|exact Take.nil|apply Take.c|apply Take.drop))
 ·have hne:l≠[]:=fun g=>h0 (by rw[g];rfl)
  obtain⟨f,hf⟩:∃f,f=bat l 0:=⟨_,rfl⟩
  have hf2:=bat_255 l 0
  rw[←hf]at hf2
  obtain⟨K,hK⟩:∃K,vlead f 8 0=K:=⟨_,rfl⟩
  have hv:vpeek l=if l.length<K+1 then(0,0,false)else if 9223372036854775807-vbnd K<vacc l K 1 (vlow f K)then(0,0,false)else(vacc l K 1 (vlow f K)+vbnd K,(K:Int)+1,true):=by
   unfold vpeek;rw[if_neg h0,←hf,hK]
  rw[hv]
  refine zR Tryz.func116 rfl rfl ?_
  repeat'(first|apply zF|apply zB|apply zE|(apply o_g zC;exact rfl;exact rfl)|(apply zM zC;(iterate 3 exact rfl);(focus exact pk))|(apply yD;exact rfl;(focus first|omega))|apply zA|apply zI|apply zH|((with_reducible apply Sd.mk);first|exact True.intro|omega)|((with_reducible apply Ln.mk);first|rfl)|((with_reducible apply Ce.mk);first|rfl)|exact True.intro|exact rfl)
  all_goals first|contradiction|(exfalso;omega)|skip
  refine zZ (S:=Nat) (fun i=>[(0,gptr n 0 2),(5,Y f),(6,I i)]) (fun _=>rdB n l e::h) (fun i=>i≤8∧vlead f (8-i) i=K) (fun i=>8-i) 0 ⟨Nat.zero_le _,hK⟩ ⟨rfl,by rw[hf];rfl,rfl,trivial⟩ (by repeat with_reducible first|exact Take.nil|apply Take.c|apply Take.drop) ?_
  rintro i ⟨hi,he⟩
  have hsh:(128:Int)/2^(min ((i:Int)).toNat IntKind.u8.bits)=128/2^i:=by rw[Int.toNat_natCast,show IntKind.u8.bits=8 from rfl,Nat.min_eq_left hi]
  have hand:IntKind.u8.wrap ((BitVec.ofInt IntKind.u8.bits f&&&BitVec.ofInt IntKind.u8.bits (128/2^i)).toNat:Int)=vb1 f i:=by
   show IntKind.u8.wrap (vb1 f i)=vb1 f i
   have:0≤vb1 f i∧vb1 f i<256:=by
    unfold vb1
    have:=(BitVec.ofInt 8 f&&&BitVec.ofInt 8 (128/2^i)).isLt
    omega
   exact IntWalk.u8_in _ (by omega)
  by_cases hgo:i<8∧vb1 f i≠0
  ·obtain⟨hg1,hg2⟩:=hgo
   have hst:vlead f (8-i) i=vlead f (8-(i+1)) (i+1):=by rw[show 8-i=(8-(i+1))+1 by omega];exact if_pos hg2
   rw[hst]at he
   repeat'(first|apply zF|apply zB|apply zE|(apply o_g zC;exact rfl;exact rfl)|(apply o_ar zC;exact rfl;exact rfl)|(apply o_ex;exact rfl;exact rfl)|(apply zU;exact rfl;exact rfl)|(apply o_gT;(iterate 3 exact rfl);(focus first|omega))|(apply yC;exact rfl;(focus first|omega))|apply zA|apply zG|apply zI|apply zH|((with_reducible apply Sd.mk);first|exact True.intro|omega)|((with_reducible apply Wr.mk);first|exact hand|exact IntWalk.i64_in _ (by omega))|((with_reducible apply Ex.mk);first|exact hsh))
   all_goals first
    |(exfalso;omega)
    |exact⟨i+1,⟨hg1,he⟩,by show 8-(i+1)<8-i;omega,(by repeat'(first|exact trivial|refine⟨rfl,?_⟩|refine⟨congrArg some ?_,?_⟩)),(by repeat with_reducible first|exact Take.nil|apply Take.c|apply Take.drop)⟩
  ·have hKi:i=K:=by
    rw[←he]
    by_cases h8:i<8
    ·have hz:¬vb1 f i≠0:=fun g=>hgo ⟨h8,g⟩
     rw[show 8-i=(8-(i+1))+1 by omega]
     exact(if_neg hz).symm
    ·rw[show 8-i=0 by omega];rfl
   subst hKi
   by_cases hs:l.length<i+1
   ·rw[if_pos hs]
    repeat'(first|apply zF|apply zB|apply zE|(apply o_g zC;exact rfl;exact rfl)|(apply o_ar zC;exact rfl;exact rfl)|(apply o_ex;exact rfl;exact rfl)|(apply zM zC;(iterate 3 exact rfl);(focus exact pk))|(apply zU;exact rfl;exact rfl)|(apply yF;iterate 4 exact rfl)|(apply o_guardT;(iterate 3 exact rfl);all_goals intro hc)|(apply zS;exact rfl)|(apply yC;exact rfl;(focus first|omega))|(apply yD;exact rfl;(focus first|omega))|apply zA|apply zP|apply zK|apply zJ|apply zN|apply zV|((with_reducible apply Sd.mk);first|exact True.intro|omega)|((with_reducible apply Ln.mk);first|rfl)|((with_reducible apply Wr.mk);first|exact hand|exact IntWalk.i64_in _ (by omega))|((with_reducible apply Ex.mk);first|exact hsh)|((with_reducible apply Ce.mk);first|rfl)|exact True.intro|exact rfl)
    all_goals first
     |(exfalso;omega)
     |(exfalso;exact hgo ⟨by omega,by assumption⟩)
     |(apply zL;(exact(show ResS _ _ _ _ [_,_,_] from⟨rfl,⟨rfl,⟨rfl,trivial⟩⟩⟩));(focus exact⟨rfl,rfl⟩);(focus repeat with_reducible first|exact Take.nil|apply Take.c|apply Take.drop))
   ·rw[if_neg hs]
    have hsh2:(127:Int)/2^(min ((i:Int)).toNat IntKind.u8.bits)=127/2^i:=by rw[Int.toNat_natCast,show IntKind.u8.bits=8 from rfl,Nat.min_eq_left hi]
    have hlo:=vlow_in f hi
    have hlo2:vlow f i<256:=by
     unfold vlow
     have:=(BitVec.ofInt 8 f&&&BitVec.ofInt 8 (127/2^i)).isLt
     omega
    have hand2:IntKind.u8.wrap ((BitVec.ofInt IntKind.u8.bits f&&&BitVec.ofInt IntKind.u8.bits (127/2^i)).toNat:Int)=vlow f i:=by
     show IntKind.u8.wrap (vlow f i)=vlow f i
     exact IntWalk.u8_in _ (by omega)
    repeat'(first|apply zF|apply zB|apply zE|(apply o_g zC;exact rfl;exact rfl)|(apply o_ar zC;exact rfl;exact rfl)|(apply o_ex;exact rfl;exact rfl)|(apply zM zC;(iterate 3 exact rfl);(focus exact pk))|(apply zU;exact rfl;exact rfl)|(apply yF;iterate 4 exact rfl)|(apply o_guardT;(iterate 3 exact rfl);all_goals intro hc)|(apply zS;exact rfl)|(apply yD;exact rfl;(focus first|omega))|apply zA|apply zK|apply zJ|apply zI|apply zV|apply zH|((with_reducible apply Sd.mk);first|exact True.intro|omega)|((with_reducible apply Ln.mk);first|rfl)|((with_reducible apply Wr.mk);first|exact hand|exact hand2|exact IntWalk.i64_in _ (by omega)|exact IntWalk.u64_in _ (by omega))|((with_reducible apply Ex.mk);first|exact hsh|exact hsh2)|((with_reducible apply Ce.mk);first|rfl)|exact True.intro|exact rfl)
    all_goals first
     |(exfalso;omega)
     |(exfalso;exact hgo ⟨by omega,by assumption⟩)
     |skip
    ·have hcap:=pow_cap hi
     obtain⟨R,hR⟩:∃R,vacc l i 1 (vlow f i)=R:=⟨_,rfl⟩
     have hbd:=vbnd_in i hi
     have hBo:=fun h=>bound_any i h hi
     rw[hR]
     generalize hT:(2:Int)^(7-i)*256^i=T at hcap
     refine zZ (S:=Nat × Int × Int) (fun x=>[(0,gptr n 0 2),(6,I i),(7,.int .u64 x.2.1),(8,I ((x.1:Int)+1))]) (fun _=>rdB n l e::h) (fun x=>x.1≤i∧(0≤x.2.1∧x.2.1<x.2.2∧x.2.2*256^(i-x.1)=T)∧vacc l (i-x.1) (x.1+1) x.2.1=R) (fun x=>i-x.1) (0,vlow f i,2^(7-i)) ⟨Nat.zero_le _,⟨hlo.1,hlo.2,hT⟩,hR⟩ (by repeat'(first|exact trivial|refine⟨rfl,?_⟩|refine⟨congrArg some ?_,?_⟩)) (by repeat with_reducible first|exact Take.nil|apply Take.c|apply Take.drop) ?_
     rintro⟨j,v,W⟩ ⟨hj,⟨hv0,hvW,hWT⟩,he2⟩
     dsimp only at hj hv0 hvW hWT he2 ⊢
     by_cases hji:j<i
     ·rw[show i-j=(i-(j+1))+1 by omega]at hWT he2
      have he2:vacc l (i-(j+1)) (j+1+1) (v*256+bat l ((j:Int)+1))=R:=he2
      rw[Int.pow_succ,Int.mul_comm (256^(i-(j+1))) 256,←Int.mul_assoc]at hWT
      have hp1:(1:Int)≤256^(i-(j+1)):=one_le_256 _
      have hle:=Int.mul_le_mul_of_nonneg_left hp1 (show 0≤W*256 by omega)
      rw[hWT]at hle
      have hb:=bat_255 l ((j:Int)+1)
      have hshl:IntKind.u64.wrap (v*2^(min (Int.toNat 8) IntKind.u64.bits))=v*256:=by
       rw[show(2:Int)^(min (Int.toNat 8) IntKind.u64.bits)=256 from rfl]
       exact IntWalk.u64_in _ (by omega)
      have hor:=or256 (v:=v) (b:=bat l ((j:Int)+1)) (by omega) (by omega)
      repeat'(first|apply zF|apply zB|apply zE|(apply o_g zC;exact rfl;exact rfl)|(apply o_ar zC;exact rfl;exact rfl)|(apply zM zC;(iterate 3 exact rfl);(focus exact pk))|(apply yC;exact rfl;(focus first|omega))|apply zA|apply zG|apply zI|apply zH|((with_reducible apply Sd.mk);first|exact True.intro|omega)|((with_reducible apply Ln.mk);first|rfl)|((with_reducible apply Wr.mk);first|exact hshl|exact hor|exact IntWalk.i64_in _ (by omega)|exact IntWalk.u64_in _ (by omega))|((with_reducible apply Ce.mk);first|rfl)|exact True.intro|exact rfl)
      all_goals first
       |(exfalso;omega)
       |exact⟨(j+1,v*256+bat l ((j:Int)+1),W*256),⟨hji,⟨by dsimp only;omega,by dsimp only;omega,hWT⟩,he2⟩,by show i-(j+1)<i-j;omega,(by repeat'(first|exact trivial|refine⟨rfl,?_⟩|refine⟨congrArg some ?_,?_⟩)),(by repeat with_reducible first|exact Take.nil|apply Take.c|apply Take.drop)⟩
     ·obtain rfl:j=i:=by omega
      rw[Nat.sub_self]at hWT he2
      rw[Int.pow_zero,Int.mul_one]at hWT
      have he2:v=R:=he2
      rw[←he2]
      repeat'(first|apply zF|apply zB|apply zE|(apply o_g zC;exact rfl;exact rfl)|(apply o_ar zC;exact rfl;exact rfl)|(apply zD;exact rfl;exact rfl;(focus first|exact rfl);exact rfl;(focus exact⟨_,hBo _,by repeat with_reducible exact Take.nil⟩);rintro _ _ ⟨rfl,rfl⟩)|(apply yD;exact rfl;(focus first|omega))|(apply w_if;exact rfl;all_goals intro hc)|apply zA|apply zP|apply zK|apply zJ|apply zI|apply zN|apply zV|((with_reducible apply Sd.mk);first|exact True.intro)|((with_reducible apply Wr.mk);first|exact IntWalk.i64_in _ (by omega)|exact IntWalk.u64_in _ (by omega)))
      all_goals first
       |(exfalso;omega)
       |(rw[if_pos (by assumption)];(apply zL;(exact(show ResS _ _ _ _ [_,_,_] from⟨rfl,⟨rfl,⟨rfl,trivial⟩⟩⟩));(focus exact⟨rfl,rfl⟩);(focus repeat with_reducible first|exact Take.nil|apply Take.c|apply Take.drop)))
       |(rw[if_neg (by assumption)];(apply zL;(exact(show ResS _ _ _ _ [_,_,_] from⟨rfl,⟨rfl,⟨rfl,trivial⟩⟩⟩));(focus exact⟨rfl,rfl⟩);(focus repeat with_reducible first|exact Take.nil|apply Take.c|apply Take.drop)))
    ·have hcap:=pow_cap hi
     obtain⟨R,hR⟩:∃R,vacc l i 1 (vlow f i)=R:=⟨_,rfl⟩
     have hbd:=vbnd_in i hi
     have hBo:=fun h=>bound_any i h hi
     rw[hR]
     generalize hT:(2:Int)^(7-i)*256^i=T at hcap
     refine zZ (S:=Nat × Int × Int) (fun x=>[(0,gptr n 0 2),(6,I i),(7,.int .u64 x.2.1),(8,I ((x.1:Int)+1))]) (fun _=>rdB n l e::h) (fun x=>x.1≤i∧(0≤x.2.1∧x.2.1<x.2.2∧x.2.2*256^(i-x.1)=T)∧vacc l (i-x.1) (x.1+1) x.2.1=R) (fun x=>i-x.1) (0,vlow f i,2^(7-i)) ⟨Nat.zero_le _,⟨hlo.1,hlo.2,hT⟩,hR⟩ (by repeat'(first|exact trivial|refine⟨rfl,?_⟩|refine⟨congrArg some ?_,?_⟩)) (by repeat with_reducible first|exact Take.nil|apply Take.c|apply Take.drop) ?_
     rintro⟨j,v,W⟩ ⟨hj,⟨hv0,hvW,hWT⟩,he2⟩
     dsimp only at hj hv0 hvW hWT he2 ⊢
     by_cases hji:j<i
     ·rw[show i-j=(i-(j+1))+1 by omega]at hWT he2
      have he2:vacc l (i-(j+1)) (j+1+1) (v*256+bat l ((j:Int)+1))=R:=he2
      rw[Int.pow_succ,Int.mul_comm (256^(i-(j+1))) 256,←Int.mul_assoc]at hWT
      have hp1:(1:Int)≤256^(i-(j+1)):=one_le_256 _
      have hle:=Int.mul_le_mul_of_nonneg_left hp1 (show 0≤W*256 by omega)
      rw[hWT]at hle
      have hb:=bat_255 l ((j:Int)+1)
      have hshl:IntKind.u64.wrap (v*2^(min (Int.toNat 8) IntKind.u64.bits))=v*256:=by
       rw[show(2:Int)^(min (Int.toNat 8) IntKind.u64.bits)=256 from rfl]
       exact IntWalk.u64_in _ (by omega)
      have hor:=or256 (v:=v) (b:=bat l ((j:Int)+1)) (by omega) (by omega)
      repeat'(first|apply zF|apply zB|apply zE|(apply o_g zC;exact rfl;exact rfl)|(apply o_ar zC;exact rfl;exact rfl)|(apply zM zC;(iterate 3 exact rfl);(focus exact pk))|(apply yC;exact rfl;(focus first|omega))|apply zA|apply zG|apply zI|apply zH|((with_reducible apply Sd.mk);first|exact True.intro|omega)|((with_reducible apply Ln.mk);first|rfl)|((with_reducible apply Wr.mk);first|exact hshl|exact hor|exact IntWalk.i64_in _ (by omega)|exact IntWalk.u64_in _ (by omega))|((with_reducible apply Ce.mk);first|rfl)|exact True.intro|exact rfl)
      all_goals first
       |(exfalso;omega)
       |exact⟨(j+1,v*256+bat l ((j:Int)+1),W*256),⟨hji,⟨by dsimp only;omega,by dsimp only;omega,hWT⟩,he2⟩,by show i-(j+1)<i-j;omega,(by repeat'(first|exact trivial|refine⟨rfl,?_⟩|refine⟨congrArg some ?_,?_⟩)),(by repeat with_reducible first|exact Take.nil|apply Take.c|apply Take.drop)⟩
     ·obtain rfl:j=i:=by omega
      rw[Nat.sub_self]at hWT he2
      rw[Int.pow_zero,Int.mul_one]at hWT
      have he2:v=R:=he2
      rw[←he2]
      repeat'(first|apply zF|apply zB|apply zE|(apply o_g zC;exact rfl;exact rfl)|(apply o_ar zC;exact rfl;exact rfl)|(apply zD;exact rfl;exact rfl;(focus first|exact rfl);exact rfl;(focus exact⟨_,hBo _,by repeat with_reducible exact Take.nil⟩);rintro _ _ ⟨rfl,rfl⟩)|(apply yD;exact rfl;(focus first|omega))|(apply w_if;exact rfl;all_goals intro hc)|apply zA|apply zP|apply zK|apply zJ|apply zI|apply zN|apply zV|((with_reducible apply Sd.mk);first|exact True.intro)|((with_reducible apply Wr.mk);first|exact IntWalk.i64_in _ (by omega)|exact IntWalk.u64_in _ (by omega)))
      all_goals first
       |(exfalso;omega)
       |(rw[if_pos (by assumption)];(apply zL;(exact(show ResS _ _ _ _ [_,_,_] from⟨rfl,⟨rfl,⟨rfl,trivial⟩⟩⟩));(focus exact⟨rfl,rfl⟩);(focus repeat with_reducible first|exact Take.nil|apply Take.c|apply Take.drop)))
       |(rw[if_neg (by assumption)];(apply zL;(exact(show ResS _ _ _ _ [_,_,_] from⟨rfl,⟨rfl,⟨rfl,trivial⟩⟩⟩));(focus exact⟨rfl,rfl⟩);(focus repeat with_reducible first|exact Take.nil|apply Take.c|apply Take.drop)))

theorem same_any (x:Int)(h:SH):SRun Tryz.prog 80 [I x] h fun r q=>r=I x∧q=h:=by
 refine zR Tryz.func80 rfl rfl ?_
 repeat'(first|apply zF|apply zB|apply zE|(apply o_g zC;exact rfl;exact rfl)|apply zA|apply zN|((with_reducible apply Sd.mk);first|exact True.intro))
 all_goals first
  |(apply zL;(exact(show ResS _ _ _ _ [_] from⟨rfl,trivial⟩));(focus exact⟨rfl,rfl⟩);(focus repeat with_reducible first|exact Take.nil|apply Take.c|apply Take.drop))
def rdN (l:List UInt8)(m:Int):Int × List UInt8 × Int :=
 if(vpeek l).2.2=false then(0,l,12)else if(vpeek l).1<0∨m<(vpeek l).1 then(0,l,2)else((vpeek l).1,l.drop (vpeek l).2.1.toNat,0)
theorem vpeek_len (l:List UInt8):0≤(vpeek l).2.1∧(vpeek l).2.1≤l.length:=by
 unfold vpeek
 split
 ·simp
 ·split
  ·simp
  ·split
   ·simp
   ·dsimp only;omega
theorem read_any (n:Nat)(l:List UInt8)(m:Int)(h:SH)(hl:l.length≤1000000):SRun Tryz.prog 79 [gptr n 0 2,.func (.func 80) ⟨[]⟩ ⟨[]⟩,I 0,I m] (rdB n l 0::h) fun r q =>
  r=I (rdN l m).1∧q=rdB n (rdN l m).2.1 (rdN l m).2.2::h:=by
 have hP:=peek_any n l 0 h hl
 have hlen:=vpeek_len l
 unfold rdN
 generalize vpeek l=V at *
 obtain⟨a,s,ok⟩:=V
 dsimp only at *
 by_cases h0:ok=false
 ·subst h0
  rw[if_pos rfl]
  refine w_body4 Tryz.func79 rfl rfl ?_
  repeat'(first|apply zF|apply zB|apply zE|(apply o_g zC;exact rfl;exact rfl)|(apply yR;exact rfl;exact rfl)|(apply zM zC;(iterate 3 exact rfl);(focus exact pk))|(apply zD;exact rfl;exact rfl;(focus first|exact rfl);exact rfl;(focus exact⟨_,hP,by repeat with_reducible exact Take.nil⟩);rintro _ _ ⟨rfl,rfl⟩)|(apply zD;exact rfl;exact rfl;(focus first|exact rfl);exact rfl;(focus exact⟨_,same_any _ _,by repeat with_reducible exact Take.nil⟩);rintro _ _ ⟨rfl,rfl⟩)|(apply zD;exact rfl;exact rfl;(focus first|exact rfl);exact rfl;(focus exact⟨_,rfail_any _ _ _ _ _,by repeat with_reducible exact Take.nil⟩);rintro _ _ rfl)|(apply yB;exact rfl)|(apply zS;exact rfl)|apply zA|apply zG|apply zI|apply zN|apply zH|((with_reducible apply Sd.mk);first|exact True.intro)|((with_reducible apply Ln.mk);first|rfl)|((with_reducible apply Ce.mk);first|rfl)|exact True.intro|exact rfl)
  all_goals first
   |contradiction
   |(exfalso;omega)
   |(apply zL;(exact(show ResS _ _ _ _ [_] from⟨rfl,trivial⟩));(focus exact⟨rfl,rfl⟩);(focus repeat with_reducible first|exact Take.nil|apply Take.c|apply Take.drop))
 ·obtain rfl:ok=true:=by simpa using h0
  rw[if_neg (by decide)]
  by_cases h1:a<0∨m<a
  ·rw[if_pos h1]
   refine w_body4 Tryz.func79 rfl rfl ?_
   repeat'(first|apply zF|apply zB|apply zE|(apply o_g zC;exact rfl;exact rfl)|(apply yR;exact rfl;exact rfl)|(apply zM zC;(iterate 3 exact rfl);(focus exact pk))|(apply zD;exact rfl;exact rfl;(focus first|exact rfl);exact rfl;(focus exact⟨_,hP,by repeat with_reducible exact Take.nil⟩);rintro _ _ ⟨rfl,rfl⟩)|(apply zD;exact rfl;exact rfl;(focus first|exact rfl);exact rfl;(focus exact⟨_,same_any _ _,by repeat with_reducible exact Take.nil⟩);rintro _ _ ⟨rfl,rfl⟩)|(apply zD;exact rfl;exact rfl;(focus first|exact rfl);exact rfl;(focus exact⟨_,rfail_any _ _ _ _ _,by repeat with_reducible exact Take.nil⟩);rintro _ _ rfl)|(apply zU;exact rfl;exact rfl)|(apply yF;iterate 4 exact rfl)|(apply o_guardF;(iterate 3 exact rfl);all_goals intro hc)|(apply yB;exact rfl)|(apply zS;exact rfl)|(apply yC;exact rfl;(focus first|omega))|apply zA|apply zG|apply zI|apply zN|apply zH|((with_reducible apply Sd.mk);first|exact True.intro)|((with_reducible apply Ln.mk);first|rfl)|((with_reducible apply Ce.mk);first|rfl)|exact True.intro|exact rfl)
   all_goals first
    |contradiction
    |(exfalso;omega)
    |(apply zL;(exact(show ResS _ _ _ _ [_] from⟨rfl,trivial⟩));(focus exact⟨rfl,rfl⟩);(focus repeat with_reducible first|exact Take.nil|apply Take.c|apply Take.drop))
  ·rw[if_neg h1]
   refine w_body4 Tryz.func79 rfl rfl ?_
   repeat'(first|apply zF|apply zB|apply zE|(apply o_g zC;exact rfl;exact rfl)|(apply yR;exact rfl;exact rfl)|(apply zM zC;(iterate 3 exact rfl);(focus exact pk))|(apply zX zC;(iterate 4 exact rfl);(focus exact up))|(apply zD;exact rfl;exact rfl;(focus first|exact rfl);exact rfl;(focus exact⟨_,hP,by repeat with_reducible exact Take.nil⟩);rintro _ _ ⟨rfl,rfl⟩)|(apply zD;exact rfl;exact rfl;(focus first|exact rfl);exact rfl;(focus exact⟨_,same_any _ _,by repeat with_reducible exact Take.nil⟩);rintro _ _ ⟨rfl,rfl⟩)|(apply zU;exact rfl;exact rfl)|(apply o_gF;(iterate 3 exact rfl);(focus first|omega))|(apply zS;exact rfl)|(apply yD;exact rfl;(focus first|omega))|apply zA|apply zP|apply yP|apply zI|apply zN|apply zH|((with_reducible apply Sd.mk);first|exact True.intro|omega)|((with_reducible apply Ln.mk);first|rfl)|((with_reducible apply Ce.mk);first|rfl)|((with_reducible apply Se.mk);first|(focus(repeat(first|exact SetAt.zero));done))|exact True.intro|exact rfl)
   all_goals first
    |contradiction
    |(exfalso;omega)
    |(apply zL;(exact(show ResS _ _ _ _ [_] from⟨rfl,trivial⟩));(focus exact⟨rfl,rfl⟩);(focus repeat with_reducible first|exact Take.nil|apply Take.c|apply Take.drop))
theorem rNumber_any (n:Nat)(l:List UInt8)(m:Int)(h:SH)(hl:l.length≤1000000):SRun Tryz.prog 47 [gptr n 0 2,I m] (rdB n l 0::h) fun r q =>
  r=I (rdN l m).1∧q=rdB n (rdN l m).2.1 (rdN l m).2.2::h:=by
 have hR:=read_any n l m h hl
 generalize rdN l m=V at *
 refine zY Tryz.func47 rfl rfl ?_
 repeat'(first|apply zF|apply zB|apply zE|(apply o_g zC;exact rfl;exact rfl)|(apply zD;exact rfl;exact rfl;(focus first|exact rfl);exact rfl;(focus exact⟨_,hR,by repeat with_reducible exact Take.nil⟩);rintro _ _ ⟨rfl,rfl⟩)|apply zA|apply zN|((with_reducible apply Sd.mk);first|exact True.intro))
 all_goals first
  |(apply zL;(exact(show ResS _ _ _ _ [_] from⟨rfl,trivial⟩));(focus exact⟨rfl,rfl⟩);(focus repeat with_reducible first|exact Take.nil|apply Take.c|apply Take.drop))

theorem bdec_ok {P:List Int}{c:Int}{d:Dec}(h:DecOk d)(hP:P.length=2048)(hc:0≤c∧c≤255):DecOk (bdec P c d).2.1∧(bdec P c d).1.length=2048∧0≤(bdec P c d).2.2∧(bdec P c d).2.2≤255:=by
 have hk:(c/32).toNat<8:=by omega
 obtain⟨h1,h2,h3⟩:=tdec_ok (k:=8) (t:=bsel P (c/32).toNat) (j:=1) h
 have h28:(2^8:Nat)=256:=rfl
 rw[h28]at h3
 refine⟨h1,bput_len hP hk (by rw[h2];exact bsel_len hP hk),Int.natCast_nonneg _,?_⟩
 show(((tdec 8 (bsel P (c/32).toNat) d 1).2.2-256:Nat):Int)≤255
 omega

theorem srun_post {P:Program}{f:FuncId}{xs:List Value}{p:SH}{R:Value→SH→Prop}(k:SRun P f xs p fun r q=>∃q',R r q'∧Take q q'):SRun P f xs p R:=by
 unfold SRun at k ⊢
 intro H i
 exact(k H i).mono fun r H' ⟨q,⟨q',g1,g2⟩,g3⟩=>⟨q',g1,g3.le g2.le⟩
structure Ms where
 K:List Int
 P:List Int
 c:Int
 L:List Int
 D:List Int
structure MsOk (x:Ms):Prop where
 K:x.K.length=2
 P:x.P.length=2048
 c:0≤x.c∧x.c≤255
 L:x.L.length=64
 D:x.D.length=64
def nu0 :List Int:=List.replicate 64 1024
def by0 :List Int:=List.replicate 2048 1024
def ms0 :Ms:=⟨List.replicate 2 1024,by0,0,nu0,nu0⟩
theorem ms0_ok :MsOk ms0:=⟨rfl,List.length_replicate,⟨Int.le_refl _,by show(0:Int)≤255;decide⟩,List.length_replicate,List.length_replicate⟩
structure Mad where
 k:Nat
 kn:Nat
 b:Nat
 bn:Nat
 l:Nat
 ln:Nat
 d:Nat
 dn:Nat
abbrev kiC (N:Nat):List Value:=[I 1,gsl N 0 2 2 0]
abbrev msB (a:Mad)(x:Ms)(h:SH):SH:=(a.k,⟨kiC a.kn,false⟩)::(a.kn,⟨nodes x.K,false⟩)::(a.b,⟨byC a.bn x.c,false⟩)::(a.bn,⟨nodes x.P,false⟩) ::
 (a.l,⟨numC a.ln,false⟩)::(a.ln,⟨nodes x.L,false⟩)::(a.d,⟨numC a.dn,false⟩)::(a.dn,⟨nodes x.D,false⟩)::h
theorem Take.f2 {A B C D:Nat × Blk}{h:SH}:Take (A::B::C::D::h) (C::D::A::B::h):=.cons (.tail (.tail .head)) (.cons (.tail (.tail .head)) .nil)
theorem Take.f4 {A B C D E F:Nat × Blk}{h:SH}:Take (A::B::C::D::E::F::h) (E::F::A::B::C::D::h):=.cons (.tail (.tail (.tail (.tail .head)))) (.cons (.tail (.tail (.tail (.tail .head)))) .nil)
theorem Take.b4 {A B C D E F:Nat × Blk}{h:SH}:Take (E::F::A::B::C::D::h) (A::B::C::D::E::F::h):=.cons (.tail (.tail .head)) (.cons (.tail (.tail .head)) (.cons (.tail (.tail .head)) (.cons (.tail (.tail .head)) .nil)))
theorem Take.f6 {A B C D E F G H:Nat × Blk}{h:SH}:Take (A::B::C::D::E::F::G::H::h) (G::H::A::B::C::D::E::F::h):=.cons (.tail (.tail (.tail (.tail (.tail (.tail .head)))))) (.cons (.tail (.tail (.tail (.tail (.tail (.tail .head)))))) .nil)
theorem Take.b6 {A B C D E F G H:Nat × Blk}{h:SH}:Take (G::H::A::B::C::D::E::F::h) (A::B::C::D::E::F::G::H::h):=.cons (.tail (.tail .head)) (.cons (.tail (.tail .head)) (.cons (.tail (.tail .head)) (.cons (.tail (.tail .head)) (.cons (.tail (.tail .head)) (.cons (.tail (.tail .head)) .nil)))))
section
variable (a:Mad) (n m:Nat) (x:Ms) (e:Enc) (v:Int) (h p:SH) (hb:EncT n (msB a x h) none e p) (hx:MsOk x) (hok:EncOk m e) (hm:m+400≤999000)
 include hb hx hok hm
theorem kEncW :SRun Tryz.prog 42 [gptr a.k 0 2,gptr n 0 3,I v] p fun _ q=>EncT n (msB a { x with K:=(tenc v 1 x.K e 1).1 } h) none (tenc v 1 x.K e 1).2 q:=by
 have:=TreeEncodeT n a.k a.kn 0 2 2 1 m none (kiC a.kn) [] [] x.K e v ((a.b,⟨byC a.bn x.c,false⟩)::(a.bn,⟨nodes x.P,false⟩)::(a.l,⟨numC a.ln,false⟩)::(a.ln,⟨nodes x.L,false⟩)::(a.d,⟨numC a.dn,false⟩)::(a.dn,⟨nodes x.D,false⟩)::h) p
  (by rw[List.nil_append,List.append_nil];exact hb) rfl rfl rfl rfl hx.K (by decide) hok (by omega)
 rw[List.nil_append,List.append_nil]at this
 exact this.mono fun _ _ g=>g.2
theorem bEncW (hv:0≤v∧v≤255):SRun Tryz.prog 43 [gptr a.b 0 17,gptr n 0 3,Y v] p fun _ q=>EncT n (msB a { x with P:=(benc x.P x.c e v).1,c:=v } h) none (benc x.P x.c e v).2 q:=by
 obtain⟨p',hb',tp⟩:=hb.re Take.f2
 exact srun_post (((BytesEncode_any n a.b a.bn m x.P x.c v e _ p' ⟨none,hb'⟩ hx.P hx.c hv hok (by omega)).take tp).mono fun _ q ⟨a',hb2⟩=>hb2.none'.re Take.f2)
theorem lEncW :SRun Tryz.prog 44 [gptr a.l 0 2,gptr n 0 3,I v] p fun _ q=>EncT n (msB a { x with L:=(nenc x.L e v).1 } h) none (nenc x.L e v).2 q:=by
 obtain⟨p',hb',tp⟩:=hb.re Take.f4
 exact srun_post (((NumEncodeT_any n a.l a.ln m x.L e v _ p' hb' hx.L hok (by omega)).take tp).mono fun _ q hb2=>hb2.re Take.b4)
theorem dEncW :SRun Tryz.prog 44 [gptr a.d 0 2,gptr n 0 3,I v] p fun _ q=>EncT n (msB a { x with D:=(nenc x.D e v).1 } h) none (nenc x.D e v).2 q:=by
 obtain⟨p',hb',tp⟩:=hb.re Take.f6
 exact srun_post (((NumEncodeT_any n a.d a.dn m x.D e v _ p' hb' hx.D hok (by omega)).take tp).mono fun _ q hb2=>hb2.re Take.b6)
end
section
variable (a:Mad) (n:Nat) (x:Ms) (d:Dec) (h:SH) (hx:MsOk x) (hok:DecOk d)
 include hx hok
theorem kDecW :SRun Tryz.prog 82 [gptr a.k 0 2,gptr n 0 5] (decB n d::msB a x h) fun r q=>r=I (((tdec 1 x.K d 1).2.2:Int)-2)∧q=decB n (tdec 1 x.K d 1).2.1::msB a { x with K:=(tdec 1 x.K d 1).1 } h:=by
 have:=TreeDecode_any n a.k a.kn 0 2 2 1 (kiC a.kn) [] [] x.K d ((a.b,⟨byC a.bn x.c,false⟩)::(a.bn,⟨nodes x.P,false⟩)::(a.l,⟨numC a.ln,false⟩)::(a.ln,⟨nodes x.L,false⟩)::(a.d,⟨numC a.dn,false⟩)::(a.dn,⟨nodes x.D,false⟩)::h) rfl rfl rfl rfl hx.K (by decide) hok
 rw[List.nil_append,List.append_nil,List.nil_append,List.append_nil]at this
 exact this
theorem bDecW :SRun Tryz.prog 83 [gptr a.b 0 17,gptr n 0 5] (decB n d::msB a x h) fun r q=>r=Y (bdec x.P x.c d).2.2∧q=decB n (bdec x.P x.c d).2.1::msB a { x with P:=(bdec x.P x.c d).1,c:=(bdec x.P x.c d).2.2 } h :=
 srun_post (((BytesDecode_any n a.b a.bn x.P x.c d _ hx.P hx.c hok).take (.cons .head Take.f2)).mono fun _ q ⟨g1,g2⟩=>⟨_,⟨g1,rfl⟩,by rw[g2];exact .cons .head Take.f2⟩)
theorem lDecW :SRun Tryz.prog 84 [gptr a.l 0 2,gptr n 0 5] (decB n d::msB a x h) fun r q=>r=I (ndec x.L d).2.2∧q=decB n (ndec x.L d).2.1::msB a { x with L:=(ndec x.L d).1 } h :=
 srun_post (((NumDecode_any n a.l a.ln x.L d _ hx.L hok).take (.cons .head Take.f4)).mono fun _ q ⟨g1,g2⟩=>⟨_,⟨g1,rfl⟩,by rw[g2];exact .cons .head Take.b4⟩)
theorem dDecW :SRun Tryz.prog 84 [gptr a.d 0 2,gptr n 0 5] (decB n d::msB a x h) fun r q=>r=I (ndec x.D d).2.2∧q=decB n (ndec x.D d).2.1::msB a { x with D:=(ndec x.D d).1 } h :=
 srun_post (((NumDecode_any n a.d a.dn x.D d _ hx.D hok).take (.cons .head Take.f6)).mono fun _ q ⟨g1,g2⟩=>⟨_,⟨g1,rfl⟩,by rw[g2];exact .cons .head Take.b6⟩)
end
abbrev setC (a:Mad):List Value:=[gptr a.k 0 2,gptr a.b 0 17,gptr a.l 0 2,gptr a.d 0 2]
theorem mk_set (k kn b bn l ln d dn:Nat)(K P L D:List Int)(h:SH):∃a:Mad,Value.agg ⟨[gptr k 0 2,gptr b 0 17,gptr l 0 2,gptr d 0 2]⟩=.agg ⟨setC a⟩ ∧
  ((k,(⟨kiC kn,false⟩:Blk))::(kn,⟨nodes K,false⟩)::(b,⟨byC bn 0,false⟩)::(bn,⟨nodes P,false⟩)::(l,⟨numC ln,false⟩)::(ln,⟨nodes L,false⟩)::(d,⟨numC dn,false⟩)::(dn,⟨nodes D,false⟩)::h)=msB a ⟨K,P,0,L,D⟩ h :=
 ⟨⟨k,kn,b,bn,l,ln,d,dn⟩,rfl,rfl⟩
theorem newSet_any (h:SH):SRun Tryz.prog 39 [] h fun r q=>∃a:Mad,r=.agg ⟨setC a⟩∧q=msB a ms0 h:=by
 have hT:∀h,SRun Tryz.prog 73 [I 1] h fun r q=>∃T N,r=.tuple #[gptr T 0 2,I 0]∧q=(T,⟨[I 1,gsl N 0 2 2 0],false⟩)::(N,⟨nodes (List.replicate 2 1024),false⟩)::h:=fun h=>(NewTree_any 1 h).mono fun r q g=>by
  rcases g with⟨_,_,T,N,g1,g2⟩|⟨g,_⟩
  ·exact⟨T,N,g1,g2⟩
  ·exact absurd ⟨by decide,by decide⟩ g
 have hB:∀h,SRun Tryz.prog 74 [] h fun r q=>∃M N,r=gptr M 0 17∧q=(M,⟨byC N 0,false⟩)::(N,⟨nodes by0,false⟩)::h:=NewBytes_any
 have hI:∀h,SRun Tryz.prog 75 [] h fun r q=>∃M N,r=gptr M 0 2∧q=(M,⟨numC N,false⟩)::(N,⟨nodes nu0,false⟩)::h:=NewNumbers_any
 unfold ms0
 generalize by0=X at *
 generalize nu0=Z at *
 generalize List.replicate 2 (1024:Int)=Y at *
 refine w_body0 Tryz.func39 rfl rfl ?_
 repeat'(first|apply zF|apply zB|apply zE|(apply o_g zC;exact rfl;exact rfl)|(apply yE zC;(iterate 4 exact rfl);(focus exact⟨rfl⟩);(focus exact up))|(apply yG zC;iterate 5 exact rfl)|(apply yT zC;exact rfl;exact rfl;(focus first|with_reducible exact pl96);exact rfl;(focus repeat(first|exact BuildR.nil|(apply BuildR.one;exact rfl;exact rfl;(first|(focus(repeat(first|exact SetAt.zero|apply SetAt.succ));done)))));exact rfl)|(apply zD;exact rfl;exact rfl;(focus first|exact rfl);exact rfl;(focus exact⟨_,hT _,by repeat with_reducible exact Take.nil⟩);rintro _ _ ⟨T,N,rfl,rfl⟩)|(apply zD;exact rfl;exact rfl;(focus first|exact rfl);exact rfl;(focus exact⟨_,hB _,by repeat with_reducible exact Take.nil⟩);rintro _ _ ⟨M1,N1,rfl,rfl⟩)|(apply zD;exact rfl;exact rfl;(focus first|exact rfl);exact rfl;(focus exact⟨_,hI _,by repeat with_reducible exact Take.nil⟩);rintro _ _ ⟨M2,N2,rfl,rfl⟩)|apply zA|apply zN|((with_reducible apply Sd.mk);first|exact True.intro)|((with_reducible apply Ln.mk);first|rfl)|((with_reducible apply Pu.mk);first|exact yA rfl)|exact True.intro|intro A)
 rename_i M4 N4
 (apply zL;(exact(show ResS _ _ _ _ [_] from(res_cell zC rfl rfl rfl (by exact pk) (by first|rfl|exact ‹_›|omega|(simp ;first|done|omega)) (by first|rfl|exact ‹_›|omega|(simp ;first|done|omega)) trivial)));(focus exact mk_set T N M1 N1 M4 N4 M2 N2 Y X Z Z h);(focus repeat with_reducible first|exact Take.nil|apply Take.c|apply Take.drop))

theorem byt_bat {l:List UInt8}{i:Nat}(h:i<l.length):byt (bat l (i:Int))=l[i]:=by
 unfold byt bat
 rw[Int.toNat_natCast,Int.toNat_natCast,List.getD_eq_getElem?_getD,List.getElem?_eq_getElem h,Option.getD_some,UInt8.ofNat_toNat]
theorem bat_inj {l:List UInt8}{i j:Nat}(hi:i<l.length)(hj:j<l.length)(h:bat l (i:Int)=bat l (j:Int)):l[i]=l[j]:=by
 rw[←byt_bat hi,←byt_bat hj,h]
theorem copyN_take {l:List UInt8}{d:Nat}(hd:1≤d):∀(n i:Nat),d≤i→i+n≤l.length→same l i d n→copyN d n (l.take i)=l.take (i+n)
 |0,i,_,_,_=>rfl
 |n+1,i,h1,h2,h3=>by
  have hl:(l.take i).length=i:=by rw[List.length_take];omega
  have e:(l.take i)[(l.take i).length-d]! = l[i]'(by omega):=by
   rw[getElem!_pos _ _ (by omega),List.getElem_take]
   have:=h3 0 (by omega)
   simp only[Nat.add_zero]at this
   simp only[hl]
   exact bat_inj (by omega) (by omega) this
  rw[copyN,e,List.take_append_getElem (by omega),copyN_take hd n (i+1) (by omega) (by omega) (fun k hk=>by
   have:=h3 (k+1) (by omega)
   rwa [show i-d+(k+1)=i+1-d+k by omega,show i+(k+1)=i+1+k by omega]at this)]
  congr 1;omega
theorem cov_bytes {l:List UInt8}{w:Int}:∀{ps:List Pc} {i:Nat},Cov l w i ps→bytesOk ps
 |[],_,_=>fun t ht=>by cases ht
 |t::r,i,h=>fun u hu=>by
  rcases List.mem_cons.1 hu with rfl|hu
  ·rcases h.1 with⟨_,rfl⟩|⟨n,d,rfl,_⟩
   ·have:=bat_lo l i;have:=bat_hi l i;show 0≤bat l i∧bat l i≤255;omega
   ·exact⟨Int.le_refl _,by show(0:Int)≤255;omega⟩
  ·exact cov_bytes h.2 u hu

def wst (s:Ms × Enc)(t:Pc):Ms × Enc :=
 if t.2.1=0 then
  ({ s.1 with K:=(tenc 0 1 s.1.K s.2 1).1,P:=(benc s.1.P s.1.c (tenc 0 1 s.1.K s.2 1).2 t.2.2).1,c:=t.2.2 },(benc s.1.P s.1.c (tenc 0 1 s.1.K s.2 1).2 t.2.2).2)
 else
  ({ s.1 with K:=(tenc 1 1 s.1.K s.2 1).1,L:=(nenc s.1.L (tenc 1 1 s.1.K s.2 1).2 (t.1-2)).1,D:=(nenc s.1.D (nenc s.1.L (tenc 1 1 s.1.K s.2 1).2 (t.1-2)).2 (t.2.1-1)).1 },
   (nenc s.1.D (nenc s.1.L (tenc 1 1 s.1.K s.2 1).2 (t.1-2)).2 (t.2.1-1)).2)
def wrun (l:List Pc)(s:Ms × Enc):Ms × Enc:=l.foldl wst s
theorem wrun_cons (t:Pc)(l:List Pc)(s:Ms × Enc):wrun (t::l) s=wrun l (wst s t):=rfl
abbrev vPb (t:Pc):Prop:=vP t∧0≤t.2.2∧t.2.2≤255
def psum :List Pc→Nat
 |[]=>0
 |t::r=>t.1.toNat+psum r
theorem wst_ok {n:Nat}{s:Ms × Enc}{t:Pc}(hx:MsOk s.1)(hok:EncOk n s.2)(ht:vPb t):MsOk (wst s t).1∧EncOk (n+137*t.1.toNat) (wst s t).2:=by
 obtain⟨hv,hy⟩:=ht
 unfold wst
 split
 ·have h1:=tenc_ok (v:=0) (k:=1) (t:=s.1.K) (j:=1) hok
  have h2:=benc_ok (v:=t.2.2) h1.1 hx.P hx.c
  exact⟨⟨h1.2.trans hx.K,h2.2,hy,hx.L,hx.D⟩,h2.1.mono (by rcases hv with g|g <;> omega)⟩
 ·have h1:=tenc_ok (v:=1) (k:=1) (t:=s.1.K) (j:=1) hok
  have h2:=nenc_ok (t:=s.1.L) h1.1 (t.1-2)
  have h3:=nenc_ok (t:=s.1.D) h2.1 (t.2.1-1)
  exact⟨⟨h1.2.trans hx.K,hx.P,hx.c,h2.2.trans hx.L,h3.2.trans hx.D⟩,h3.1.mono (by rcases hv with g|g <;> omega)⟩
theorem wrun_ok :∀{l:List Pc} {n:Nat} {s:Ms × Enc},MsOk s.1→EncOk n s.2→(∀t∈l,vPb t)→MsOk (wrun l s).1∧EncOk (n+137*psum l) (wrun l s).2
 |[],n,s,hx,hok,_=>⟨hx,hok⟩
 |t::r,n,s,hx,hok,ht=>by
  have h1:=wst_ok hx hok (ht t (by simp))
  have h2:=wrun_ok (l:=r) h1.1 h1.2 (fun u hu=>ht u (by simp[hu]))
  rw[wrun_cons]
  exact⟨h2.1,h2.2.mono (by show _≤n+137*(t.1.toNat+psum r);omega)⟩
theorem EncT.add {n:Nat}{h p:SH}{a:Option Nat}{e:Enc}{x:Nat × Blk}(hb:EncT n h a e p):∃p',EncT n (x::h) a e p'∧Take (x::p) p':=by
 cases hb with
 |nil _ _ ha=>exact⟨_,.nil _ _ ha,.cons (.tail .head) .nil⟩
 |some _ _ _ _ ha ho=>exact⟨_,.some _ _ _ _ ha ho,.cons (.tail .head) (.cons (.tail .head) .nil)⟩
theorem Take.up8 {X A B C D E F G H:Nat × Blk}{h:SH}:Take (X::A::B::C::D::E::F::G::H::h) (A::B::C::D::E::F::G::H::X::h) :=
 .cons (.tail .head) (.cons (.tail .head) (.cons (.tail .head) (.cons (.tail .head) (.cons (.tail .head) (.cons (.tail .head) (.cons (.tail .head) (.cons (.tail .head) .nil)))))))
theorem Take.dn8 {X A B C D E F G H:Nat × Blk}{h:SH}:Take (A::B::C::D::E::F::G::H::X::h) (A::B::C::D::E::F::G::H::h) :=
 .cons .head (.cons .head (.cons .head (.cons .head (.cons .head (.cons .head (.cons .head (.cons .head (.drop .nil))))))))
theorem EncT.add8 {n:Nat}{a:Mad}{x:Ms}{h p:SH}{e:Enc}{y:Nat × Blk}(hb:EncT n (msB a x h) none e p):∃p',EncT n (msB a x (y::h)) none e p'∧Take (y::p) p':=by
 obtain⟨p1,h1,t1⟩:=hb.add (x:=y)
 obtain⟨p2,h2,t2⟩:=h1.re Take.up8
 exact⟨p2,h2,t1.trans t2⟩
theorem pk3 {a:Mad}{n A s c:Nat}{x:Ms}{bA bS bC:Blk}{h p:SH}{e:Enc}(hb:EncT n (msB a x ((A,bA)::(s,bS)::(c,bC)::h)) none e p):(∃p1,Pick p A bA p1)∧(∃p1,Pick p s bS p1)∧∃p1,Pick p c bC p1 :=
 ⟨hb.pick (.tail (.tail (.tail (.tail (.tail (.tail (.tail (.tail .head)))))))),hb.pick (.tail (.tail (.tail (.tail (.tail (.tail (.tail (.tail (.tail .head))))))))),hb.pick (.tail (.tail (.tail (.tail (.tail (.tail (.tail (.tail (.tail (.tail .head)))))))))) ⟩
theorem write_any (a:Mad)(n s c m:Nat)(x:Ms)(e:Enc)(t:Pc)(h p:SH)(hb:EncT n (msB a x ((s,⟨setC a,false⟩)::(c,⟨[gptr n 0 3],false⟩)::h)) none e p)(hx:MsOk x)(hok:EncOk m e)(hm:m+800≤999000)(ht:vPb t) :
  SRun Tryz.prog 41 [pcV t,gptr s 0 4,gptr c 0 1] p fun r q=>r=.tuple #[]∧EncT n (msB a (wst (x,e) t).1 ((s,⟨setC a,false⟩)::(c,⟨[gptr n 0 3],false⟩)::h)) none (wst (x,e) t).2 q:=by
 refine srun_post ?_
 obtain⟨hv,hy⟩:=ht
 obtain⟨l,d,y⟩:=t
 dsimp only at hv hy
 refine w_body3 Tryz.func41 rfl rfl ?_
 repeat'((fail_if_success (show SWp _ _ (Code.seq (Code.region 1 _ _) _) _ _ _));(fail_if_success (show SWp _ _ (Code.region 1 _ _) _ _ _));first|apply zF|apply zB|apply zE|(apply o_box (tt:=tyT);iterate 5 exact rfl)|apply zA|intro A)
 obtain⟨p1,hb1,t1⟩:=hb.add8 (y:=(A,(⟨pcC (l,d,y),false⟩:Blk)))
 obtain⟨⟨pA,hA⟩,⟨pS,hS⟩,⟨pC,hC⟩⟩:=pk3 hb1
 refine SWp.take (b:=[(1,gptr s 0 4),(2,gptr c 0 1),(3,gptr A 0 3)]) (by repeat'(first|exact trivial|refine⟨rfl,?_⟩|refine⟨congrArg some ?_,?_⟩)) t1 ?_
 unfold wst
 by_cases h0:d=0
 ·rw[if_pos h0]
  have hK:=(kEncW a n m x e 0 _ p1 hb1 hx hok (by omega)).mono fun _ q g=>And.intro g (pk3 g)
  have ok1:=tenc_ok (v:=0) (k:=1) (t:=x.K) (j:=1) hok
  have hB:=fun q g=>(bEncW a n (m+2) { x with K:=(tenc 0 1 x.K e 1).1 } (tenc 0 1 x.K e 1).2 y ((A,(⟨pcC (l,d,y),false⟩:Blk))::(s,⟨setC a,false⟩)::(c,⟨[gptr n 0 3],false⟩)::h) q g ⟨ok1.2.trans hx.K,hx.P,hx.c,hx.L,hx.D⟩ (ok1.1.mono (by omega)) (by omega) hy)
  generalize tenc 0 1 x.K e 1=T at *
  dsimp only at hB ⊢
  generalize benc x.P x.c T.2 y=W at *
  repeat'(first|apply zF|apply zB|apply zE|(apply o_g zC;exact rfl;exact rfl)|(apply zM zC;(iterate 3 exact rfl);(focus exact pk))|(apply zD;exact rfl;exact rfl;(focus first|exact rfl);exact rfl;(focus exact⟨_,hK,by repeat with_reducible exact Take.nil⟩);rintro _ _ ⟨hb2,⟨pA2,hA2⟩,⟨pS2,hS2⟩,⟨pC2,hC2⟩⟩)|(apply zD;exact rfl;exact rfl;(focus first|exact rfl);exact rfl;(focus exact⟨_,hB _ hb2,by repeat with_reducible exact Take.nil⟩);rintro _ _ hb3)|(apply yC;exact rfl;(focus first|omega))|apply zA|apply zP|apply zN|((with_reducible apply Sd.mk);first|exact True.intro)|((with_reducible apply Ln.mk);first|rfl)|((with_reducible apply Ce.mk);first|rfl)|exact True.intro|exact rfl)
  all_goals first
   |(exfalso;omega)
   |(apply zL;(exact(show ResS _ _ _ _ [] from trivial));(focus exact(hb3.re Take.dn8).imp fun _ g=>⟨⟨rfl,g.1⟩,g.2⟩);(focus repeat with_reducible first|exact Take.nil|apply Take.c|apply Take.drop))
 ·rw[if_neg h0]
  have hK:=(kEncW a n m x e 1 _ p1 hb1 hx hok (by omega)).mono fun _ q g=>And.intro g (pk3 g)
  have ok1:=tenc_ok (v:=1) (k:=1) (t:=x.K) (j:=1) hok
  have ok2:=nenc_ok (t:=x.L) ok1.1 (l-2)
  have hL:=fun q g=>(lEncW a n (m+2) { x with K:=(tenc 1 1 x.K e 1).1 } (tenc 1 1 x.K e 1).2 (l-2) ((A,(⟨pcC (l,d,y),false⟩:Blk))::(s,⟨setC a,false⟩)::(c,⟨[gptr n 0 3],false⟩)::h) q g ⟨ok1.2.trans hx.K,hx.P,hx.c,hx.L,hx.D⟩ (ok1.1.mono (by omega)) (by omega)).mono fun _ q g=>And.intro g (pk3 g)
  have hD:=fun q g=>(dEncW a n (m+138) { x with K:=(tenc 1 1 x.K e 1).1,L:=(nenc x.L (tenc 1 1 x.K e 1).2 (l-2)).1 } (nenc x.L (tenc 1 1 x.K e 1).2 (l-2)).2 (d-1) ((A,(⟨pcC (l,d,y),false⟩:Blk))::(s,⟨setC a,false⟩)::(c,⟨[gptr n 0 3],false⟩)::h) q g ⟨ok1.2.trans hx.K,hx.P,hx.c,ok2.2.trans hx.L,hx.D⟩ (ok2.1.mono (by omega)) (by omega))
  generalize tenc 1 1 x.K e 1=T at *
  dsimp only at hL hD ⊢
  generalize nenc x.L T.2 (l-2)=V at *
  generalize nenc x.D V.2 (d-1)=W at *
  have hdl:1≤d∧d≤4096∧2≤l∧l≤273:=by rcases hv with g|g <;> (dsimp only at g;omega)
  repeat'(first|apply zF|apply zB|apply zE|(apply o_g zC;exact rfl;exact rfl)|(apply o_ar zC;exact rfl;exact rfl)|(apply zM zC;(iterate 3 exact rfl);(focus exact pk))|(apply zD;exact rfl;exact rfl;(focus first|exact rfl);exact rfl;(focus exact⟨_,hK,by repeat with_reducible exact Take.nil⟩);rintro _ _ ⟨hb2,⟨pA2,hA2⟩,⟨pS2,hS2⟩,⟨pC2,hC2⟩⟩)|(apply zD;exact rfl;exact rfl;(focus first|exact rfl);exact rfl;(focus exact⟨_,hL _ hb2,by repeat with_reducible exact Take.nil⟩);rintro _ _ ⟨hb3,⟨pA3,hA3⟩,⟨pS3,hS3⟩,⟨pC3,hC3⟩⟩)|(apply zD;exact rfl;exact rfl;(focus first|exact rfl);exact rfl;(focus exact⟨_,hD _ hb3,by repeat with_reducible exact Take.nil⟩);rintro _ _ hb4)|(apply yD;exact rfl;(focus first|omega))|apply zA|apply zI|((with_reducible apply Sd.mk);first|exact True.intro)|((with_reducible apply Ln.mk);first|rfl)|((with_reducible apply Wr.mk);first|exact IntWalk.i64_in _ (by omega))|((with_reducible apply Ce.mk);first|rfl)|exact True.intro|exact rfl)
  all_goals first
   |(exfalso;omega)
   |(apply s_finN;(exact(show ResS _ _ _ _ [] from trivial));(focus exact(hb4.re Take.dn8).imp fun _ g=>⟨⟨rfl,g.1⟩,g.2⟩);(focus repeat with_reducible first|exact Take.nil|apply Take.c|apply Take.drop))
end Go.Proofs.YteddogfolceahaaGreat
end
