/- Part 4 of the proof of the law TopDamage: texts merged. No condition. -/
import Derived.Test.YteddogfolceahaaGreatZTopDamageC
import Derived.MapKept
set_option linter.unusedSimpArgs false
set_option linter.unusedVariables false
section
set_option maxRecDepth 4000
namespace Go.Proofs.YteddogfolceahaaGreat
open Go.Gh Go.RowKit

theorem ex8u (m:Int):m/2^(min (Int.toNat 8) IntKind.u32.bits)=m/256:=rfl
theorem ex16u (m:Int):m/2^(min (Int.toNat 16) IntKind.u32.bits)=m/65536:=rfl
theorem ex24u (m:Int):m/2^(min (Int.toNat 24) IntKind.u32.bits)=m/16777216:=rfl
theorem ex8i (m:Int):m/2^(min (Int.toNat 8) IntKind.i64.bits)=m/256:=rfl
theorem w_shl8u (m:Int):IntKind.u32.wrap (m*2^(min (Int.toNat 8) IntKind.u32.bits))=m*256%4294967296:=IntKind.wrap_u32 _
theorem w_quoU {m n:Int}(hm:0≤m)(h:0≤m/n∧m/n≤4294967295):IntKind.u32.wrap (m.tdiv n)=m/n:=by rw[Int.tdiv_eq_ediv_of_nonneg hm];exact IntWalk.u32_in _ h
theorem w_quoI {m n:Int}(hm:0≤m)(h:0≤m/n∧m/n≤9223372036854775807):IntKind.i64.wrap (m.tdiv n)=m/n:=by rw[Int.tdiv_eq_ediv_of_nonneg hm];exact IntWalk.i64_in _ (by omega)
abbrev U (n:Int):Value:=.int .u32 n
abbrev Y (n:Int):Value:=.int .u8 n

def clp (z:Int):Int:=min (max z 1) 2047
theorem clp_in (z:Int):1≤clp z∧clp z≤2047:=by unfold clp;omega
theorem clamp_any (z:Int)(h:SH):SRun Tryz.prog 113 [I z] h fun r q=>r=U (clp z)∧q=h:=by
 refine zR Tryz.func113 rfl rfl ?_
 repeat'(first|apply zF|apply zB|apply zE|(apply o_g zC;exact rfl;exact rfl)|(apply o_ar zC;exact rfl;exact rfl)|(apply o_min;iterate 3 exact rfl)|(apply o_max;iterate 3 exact rfl)|apply zA|apply zN|((with_reducible apply Sd.mk);first|exact True.intro)|((with_reducible apply Wr.mk);first|exact IntWalk.u32_in _ (by omega)))
 (apply zL;(exact(show ResS _ _ _ _ [_] from⟨rfl,trivial⟩));(focus exact⟨rfl,rfl⟩);(focus repeat with_reducible first|exact Take.nil|apply Take.c|apply Take.drop))
abbrev vldP (z:Int):Prop:=1≤z∧z≤2047
structure Enc where
 out:List UInt8
 low:Int
 size:Int
def carryAt (l:List UInt8):Nat→List UInt8
 |0=>l
 |k+1=>if(bat l k+1)%256≠0 then l.set k (b8 ((bat l k+1)%256))else carryAt (l.set k (b8 ((bat l k+1)%256))) k
@[simp] theorem carryAt_len (l:List UInt8):∀k,(carryAt l k).length=l.length:=by
 intro k
 induction k generalizing l with
 |zero=>rfl
 |succ k ih=>unfold carryAt;split <;> simp[ih]
def carry (l:List UInt8):List UInt8:=carryAt l l.length
@[simp] theorem carry_len (l:List UInt8):(carry l).length=l.length:=carryAt_len l _
def eshift (e:Enc):Enc:=⟨e.out++[b8 (e.low/16777216)],e.low*256%4294967296,e.size*256⟩
def norm :Nat→Enc→Enc
 |0,e=>e
 |k+1,e=>if e.size<16777216 then norm k (eshift e)else e
def bound (size z:Int):Int:=size/2048*clp z
def estep (e:Enc)(z b:Int):Enc:=if b=0 then⟨e.out,e.low,bound e.size z⟩else
 if 4294967296≤e.low+bound e.size z then⟨carry e.out,e.low+bound e.size z-4294967296,e.size-bound e.size z⟩else⟨e.out,e.low+bound e.size z,e.size-bound e.size z⟩
def ebit (e:Enc)(z b:Int):Enc:=norm 2 (estep e z b)
structure EncOk (n:Nat)(e:Enc):Prop where
 out:e.out.length≤n
 low:0≤e.low∧e.low≤4294967295
 size:16777216≤e.size∧e.size≤4294967295

abbrev encC (sl:Value)(low size:Int):List Value:=[sl,U low,U size]
inductive EncB (n:Nat)(h:SH):Enc→SH→Prop
 |nil (low size:Int):EncB n h ⟨[],low,size⟩ ((n,⟨encC (.slice none 0 0) low size,false⟩)::h)
 |some (o:List UInt8) (low size:Int) (A:Nat):EncB n h ⟨o,low,size⟩ ((n,⟨encC (gsl A 0 o.length o.length 1) low size,false⟩)::(A,⟨bytesV o,false⟩)::h)

theorem EncB.some' {n:Nat}{h:SH}{o:List UInt8}{m:Nat}(hm:o.length=m)(low size:Int)(A:Nat):EncB n h ⟨o,low,size⟩ ((n,⟨encC (gsl A 0 m m 1) low size,false⟩)::(A,⟨bytesV o,false⟩)::h):=by subst hm;exact .some _ _ _ _
theorem NewEncoder_any (h:SH):SRun Tryz.prog 40 [] h fun r q=>∃n,r=gptr n 0 3∧EncB n h ⟨[],0,4294967295⟩ q:=by
 refine w_body0 Tryz.func40 rfl rfl ?_
 repeat'(first|apply zF|apply zB|apply zE|(apply o_g zC;exact rfl;exact rfl)|(apply o_box (tt:=tyT);iterate 5 exact rfl)|(apply yT zC;exact rfl;exact rfl;(focus first|with_reducible exact pl140);exact rfl;(focus repeat(first|exact BuildR.nil|(apply BuildR.one;exact rfl;exact rfl;(first|(focus(repeat(first|exact SetAt.zero|apply SetAt.succ));done)))));exact rfl)|apply zA|apply zN|((with_reducible apply Sd.mk);first|exact True.intro)|intro A)
 (apply zL;(exact(show ResS _ _ _ _ [_] from⟨rfl,trivial⟩));(focus exact⟨A,rfl,.nil _ _⟩);(focus repeat with_reducible first|exact Take.nil|apply Take.c|apply Take.drop))

theorem cell_bytes_set {l:List UInt8}{i n:Int}(hi:0≤i∧i<l.length)(h:0≤n∧n<256):(bytesV (l.set i.toNat (b8 n)))[0+i.toNat*1]?=some (.int .u8 n):=by
 have h1:i.toNat<l.length:=by omega
 rw[Nat.zero_add,Nat.mul_one]
 unfold bytesV
 rw[List.getElem?_map,List.getElem?_set_self h1,Option.map_some]
 exact congrArg (fun x=>some (Value.int .u8 x)) (b8_val h)
theorem carry_any (n:Nat)(e:Enc)(h p:SH)(hb:EncB n h e p)(ho:e.out.length≤1000000) :
  SRun Tryz.prog 114 [gptr n 0 3] p fun _ q=>EncB n h ⟨carry e.out,e.low,e.size⟩ q:=by
 cases hb with
 |nil low size =>
  refine zR Tryz.func114 rfl rfl ?_
  repeat'(first|apply zF|apply zB|apply zE|(apply o_g zC;exact rfl;exact rfl)|(apply o_ar zC;exact rfl;exact rfl)|(apply zM zC;(iterate 3 exact rfl);(focus exact pk))|apply zA|apply zH|((with_reducible apply Sd.mk);first|exact True.intro)|((with_reducible apply Ln.mk);first|rfl)|((with_reducible apply Wr.mk);first|exact IntWalk.i64_in _ (by omega))|((with_reducible apply Ce.mk);first|rfl)|exact True.intro|exact rfl)
  refine zZ (S:=Unit) (fun x=>[(2,I (0-1))]) (fun x=>(n,⟨encC (.slice none 0 0) low size,false⟩)::h) (fun _=>True) (fun _=>0) () trivial (by repeat'(first|exact trivial|refine⟨rfl,?_⟩|refine⟨congrArg some ?_,?_⟩)) (by repeat with_reducible first|exact Take.nil|apply Take.c|apply Take.drop) ?_
  rintro - -
  repeat'(first|apply zF|apply zB|apply zE|(apply o_g zC;exact rfl;exact rfl)|(apply zS;exact rfl)|apply zA|apply zK|apply zJ|apply zV|((with_reducible apply Sd.mk);first|exact True.intro))
  (apply s_finN;(exact(show ResS _ _ _ _ [] from trivial));(focus exact .nil _ _);(focus repeat with_reducible first|exact Take.nil|apply Take.c|apply Take.drop))
 |some o low size A =>
  dsimp only at ho
  refine zR Tryz.func114 rfl rfl ?_
  repeat'(first|apply zF|apply zB|apply zE|(apply o_g zC;exact rfl;exact rfl)|(apply o_ar zC;exact rfl;exact rfl)|(apply zM zC;(iterate 3 exact rfl);(focus exact pk))|apply zA|apply zH|((with_reducible apply Sd.mk);first|exact True.intro)|((with_reducible apply Ln.mk);first|rfl)|((with_reducible apply Wr.mk);first|exact IntWalk.i64_in _ (by omega))|((with_reducible apply Ce.mk);first|rfl)|exact True.intro|exact rfl)
  refine zZ (S:=Nat × List UInt8) (fun x=>[(0,gptr n 0 3),(2,I (x.1-1))]) (fun x=>(n,⟨encC (gsl A 0 o.length o.length 1) low size,false⟩)::(A,⟨bytesV x.2,false⟩)::h)
   (fun x=>x.1≤o.length∧x.2.length=o.length∧carryAt x.2 x.1=carry o) (fun x=>x.1) (o.length,o) ⟨Nat.le_refl _,rfl,rfl⟩ (by repeat'(first|exact trivial|refine⟨rfl,?_⟩|refine⟨congrArg some ?_,?_⟩)) (by repeat with_reducible first|exact Take.nil|apply Take.c|apply Take.drop) ?_
  rintro⟨k,l⟩ ⟨hk,hl,he⟩
  dsimp only at hk hl he ⊢
  rw[←hl]
  cases k with
  |zero =>
   repeat'(first|apply zF|apply zB|apply zE|(apply o_g zC;exact rfl;exact rfl)|(apply zS;exact rfl)|apply zA|apply zK|apply zJ|apply zV|((with_reducible apply Sd.mk);first|exact True.intro))
   (apply s_finN;(exact(show ResS _ _ _ _ [] from trivial));(focus rw[←show l=carry o from he];exact .some _ _ _ A);(focus repeat with_reducible first|exact Take.nil|apply Take.c|apply Take.drop))
  |succ k =>
   rw[show((k+1:Nat):Int)-1=k by omega]
   repeat'(first|apply zF|apply zB|apply zE|(apply o_g zC;exact rfl;exact rfl)|(apply o_ar zC;exact rfl;exact rfl)|(apply zM zC;(iterate 3 exact rfl);(focus exact pk))|(apply zX zC;(iterate 4 exact rfl);(focus exact up))|(apply yB;exact rfl)|(apply w_ifN;exact rfl;all_goals intro hc)|apply zA|apply zP|apply zG|apply yP|apply zI|apply zN|apply zH|((with_reducible apply Sd.mk);first|exact True.intro|omega)|((with_reducible apply Ln.mk);first|rfl|(simp ;first|done|omega))|((with_reducible apply Wr.mk);first|exact IntWalk.i64_in _ (by omega)|exact IntKind.wrap_u8 _)|((with_reducible apply Ce.mk);first|rfl|exact cell_bytes_set (by omega) (by omega)|exact cell_bytes (by omega))|((with_reducible apply Se.mk);first|exact setAt_bytes (by omega) (by omega))|exact True.intro|exact rfl)
   ·(apply zL;(exact(show ResS _ _ _ _ [] from trivial));(focus rw[←he,carryAt,if_pos hc];exact .some' (m:=l.length) (by simp) _ _ A);(focus repeat with_reducible first|exact Take.nil|apply Take.c|apply Take.drop))
   ·refine⟨(k,l.set k (b8 ((bat l k+1)%256))),⟨by show k≤_;omega,by simp[hl],?_⟩,by show k<k+1;omega,(by repeat'(first|exact trivial|refine⟨rfl,?_⟩|refine⟨congrArg some ?_,?_⟩)),(by repeat with_reducible first|exact Take.nil|apply Take.c|apply Take.drop)⟩
    rw[←he,carryAt,if_neg (fun h=>h hc)]

theorem size_dvd {s:Int}(h:16777216≤s∧s≤4294967295)(z:Int):8192≤bound s z∧bound s z+8192≤s:=by
 have h1:=clp_in z
 unfold bound
 generalize clp z=c at *
 have h2:8192≤s/2048:=by omega
 have h3:s/2048*2048≤s:=by omega
 generalize s/2048=d at *
 have h4:d*c≤d*2047:=Int.mul_le_mul_of_nonneg_left h1.2 (by omega)
 have h5:d*1≤d*c:=Int.mul_le_mul_of_nonneg_left h1.1 (by omega)
 omega
theorem estep_ok {n:Nat}{e:Enc}(h:EncOk n e)(z b:Int):(estep e z b).out.length≤n∧(0≤(estep e z b).low∧(estep e z b).low≤4294967295)∧8192≤(estep e z b).size∧(estep e z b).size≤4294967295:=by
 have h1:=size_dvd h.size z
 have:=h.low;have:=h.size;have:=h.out
 unfold estep
 split
 ·dsimp only;omega
 ·split
  ·dsimp only;rw[carry_len];omega
  ·dsimp only;omega

theorem encB_shift_nil {n A:Nat}{h:SH}{low size:Int}(hl:0≤low∧low≤4294967295):EncB n h (eshift ⟨[],low,size⟩) ((n,⟨encC (gsl A 0 (1*1) 1 1) (low*256%4294967296) (size*256),false⟩)::(A,⟨[Y (low/16777216)],false⟩)::h):=by
 have:=EncB.some' (n:=n) (h:=h) (o:=[b8 (low/16777216)]) (m:=1) rfl (low*256%4294967296) (size*256) A
 rw[bytesV_one (by omega)]at this
 exact this
theorem encB_shift {n A:Nat}{h:SH}{o:List UInt8}{low size:Int}(hl:0≤low∧low≤4294967295):EncB n h (eshift ⟨o,low,size⟩) ((n,⟨encC (gsl A 0 (o.length+1*1) (o.length+1) 1) (low*256%4294967296) (size*256),false⟩)::(A,⟨bytesV o++[Y (low/16777216)],false⟩)::h):=by
 have:=EncB.some' (n:=n) (h:=h) (o:=o++[b8 (low/16777216)]) (m:=o.length+1) (by simp) (low*256%4294967296) (size*256) A
 rw[←bytesV_snoc (by omega)]at this
 exact this
theorem norm_go {k:Nat}{e:Enc}(h:e.size<16777216)(g:16777216≤e.size*256^k):∃k',k=k'+1∧norm k e=norm k' (eshift e)∧16777216≤(eshift e).size*256^k':=by
 cases k with
 |zero=>simp at g;omega
 |succ k =>
  refine⟨k,rfl,if_pos h,?_⟩
  show _≤e.size*256*256^k
  rw[Int.mul_assoc,←Int.pow_succ'];exact g
theorem norm_end {k:Nat}{e:Enc}(h:¬e.size<16777216):norm k e=e:=by
 cases k with
 |zero=>rfl
 |succ k=>exact if_neg h

theorem Bit_any (n:Nat)(z b:Int)(e:Enc)(h p:SH)(hb:EncB n h e p)(hok:EncOk 1000000 e) :
  SRun Tryz.prog 76 [gptr n 0 3,I z,I b] p fun _ q=>EncB n h (ebit e z b) q:=by
 have hd:=size_dvd hok.size z
 unfold bound at hd
 have hz:=clp_in z
 have h1:=hok.low;have h2:=hok.size;have h3:=hok.out
 unfold ebit
 have h4:=estep_ok hok z b
 generalize hs:estep e z b=s at h4
 obtain⟨p1,B',hp⟩:∃p1 sl,Pick p n ⟨encC sl e.low e.size,false⟩ p1:=by cases hb <;> exact⟨_,_,Pick.head⟩
 obtain⟨o,low,size⟩:=e
 dsimp only at *
 refine w_body3 Tryz.func76 rfl rfl ?_
 repeat'((fail_if_success (show SWp _ _ (Code.cond (Operand.tmp 17) _ _) _ _ _));first|apply zF|apply zB|apply zE|(apply yH;(focus kernel_rfl);(focus kernel_rfl))|(apply o_g zC;exact rfl;exact rfl)|(apply o_ar zC;exact rfl;exact rfl)|(apply zM zC;(iterate 3 exact rfl);(focus exact pk))|(apply yS;(iterate 4 exact rfl);(focus exact⟨_,clamp_any _ _,by repeat with_reducible exact Take.nil⟩);(focus exact fun _ _ h=>h.1);(focus(repeat(first|exact Flat.c rfl))))|apply zA|((with_reducible apply Sd.mk);first|exact True.intro|omega)|((with_reducible apply Ln.mk);first|rfl)|((with_reducible apply Wr.mk);first|exact w_quoU (by omega) (by omega)|exact IntWalk.u32_in _ (by omega))|((with_reducible apply Ce.mk);first|rfl)|exact True.intro|exact rfl)
 refine w_meet (S:=SH) (fun _=>[(0,gptr n 0 3)]) (fun q=>q) (fun q=>EncB n h s q) ?_ ?_
 ·unfold estep bound at hs
  dsimp only at hs
  cases hb with
  |nil low size =>
   repeat'(first|apply zF|apply zB|apply zE|(apply o_g zC;exact rfl;exact rfl)|(apply o_ar zC;exact rfl;exact rfl)|(apply zM zC;(iterate 3 exact rfl);(focus exact pk))|(apply zX zC;(iterate 4 exact rfl);(focus exact up))|(apply zD;exact rfl;exact rfl;(focus first|exact rfl);exact rfl;(focus exact⟨_,carry_any _ _ _ _ (.nil _ _) (by simp),by repeat with_reducible exact Take.nil⟩);rintro _ _ hb2)|(apply w_if;exact rfl;all_goals intro hc)|apply zA|apply zI|((with_reducible apply Sd.mk);first|exact True.intro)|((with_reducible apply Ln.mk);first|rfl)|((with_reducible apply Wr.mk);first|exact IntWalk.u32_in _ (by omega)|exact IntKind.wrap_u32 _)|((with_reducible apply Ce.mk);first|rfl)|((with_reducible apply Se.mk);first|(focus(repeat(first|exact SetAt.zero|apply SetAt.succ));done))|exact True.intro|exact rfl)
   ·rw[if_pos hc]at hs;subst hs
    exact⟨_,.nil _ _,(by repeat'(first|exact trivial|refine⟨rfl,?_⟩|refine⟨congrArg some ?_,?_⟩)),Take.nil⟩
   ·rw[if_neg (show ¬b=0 by assumption),if_pos (by omega),show(low+size/2048*clp z)-4294967296=(low+size/2048*clp z)%4294967296 by omega]at hs;subst hs
    generalize carry []=o2 at hb2
    dsimp only at hb2
    cases hb2 with
    |nil =>
     repeat'(first|apply zE|(apply o_g zC;exact rfl;exact rfl)|(apply o_ar zC;exact rfl;exact rfl)|(apply zM zC;(iterate 3 exact rfl);(focus exact pk))|(apply zX zC;(iterate 4 exact rfl);(focus exact up))|apply zA|((with_reducible apply Sd.mk);first|exact True.intro)|((with_reducible apply Ln.mk);first|rfl)|((with_reducible apply Wr.mk);first|exact IntWalk.u32_in _ (by omega))|((with_reducible apply Ce.mk);first|rfl)|((with_reducible apply Se.mk);first|(focus(repeat(first|exact SetAt.zero|apply SetAt.succ));done))|exact True.intro|exact rfl)
     exact⟨_,.nil _ _,(by repeat'(first|exact trivial|refine⟨rfl,?_⟩|refine⟨congrArg some ?_,?_⟩)),Take.nil⟩
    |some _ _ _ A =>
     repeat'(first|apply zE|(apply o_g zC;exact rfl;exact rfl)|(apply o_ar zC;exact rfl;exact rfl)|(apply zM zC;(iterate 3 exact rfl);(focus exact pk))|(apply zX zC;(iterate 4 exact rfl);(focus exact up))|apply zA|((with_reducible apply Sd.mk);first|exact True.intro)|((with_reducible apply Ln.mk);first|rfl)|((with_reducible apply Wr.mk);first|exact IntWalk.u32_in _ (by omega))|((with_reducible apply Ce.mk);first|rfl)|((with_reducible apply Se.mk);first|(focus(repeat(first|exact SetAt.zero|apply SetAt.succ));done))|exact True.intro|exact rfl)
     exact⟨_,.some _ _ _ A,(by repeat'(first|exact trivial|refine⟨rfl,?_⟩|refine⟨congrArg some ?_,?_⟩)),Take.nil⟩
   ·rw[if_neg (show ¬b=0 by assumption),if_neg (by omega),show(low+size/2048*clp z)=(low+size/2048*clp z)%4294967296 by omega]at hs;subst hs
    exact⟨_,.nil _ _,(by repeat'(first|exact trivial|refine⟨rfl,?_⟩|refine⟨congrArg some ?_,?_⟩)),Take.nil⟩
  |some o low size A =>
   repeat'(first|apply zF|apply zB|apply zE|(apply o_g zC;exact rfl;exact rfl)|(apply o_ar zC;exact rfl;exact rfl)|(apply zM zC;(iterate 3 exact rfl);(focus exact pk))|(apply zX zC;(iterate 4 exact rfl);(focus exact up))|(apply zD;exact rfl;exact rfl;(focus first|exact rfl);exact rfl;(focus exact⟨_,carry_any _ _ _ _ (.some _ _ _ _) h3,by repeat with_reducible exact Take.nil⟩);rintro _ _ hb2)|(apply w_if;exact rfl;all_goals intro hc)|apply zA|apply zI|((with_reducible apply Sd.mk);first|exact True.intro)|((with_reducible apply Ln.mk);first|rfl)|((with_reducible apply Wr.mk);first|exact IntWalk.u32_in _ (by omega)|exact IntKind.wrap_u32 _)|((with_reducible apply Ce.mk);first|rfl)|((with_reducible apply Se.mk);first|(focus(repeat(first|exact SetAt.zero|apply SetAt.succ));done))|exact True.intro|exact rfl)
   ·rw[if_pos hc]at hs;subst hs
    exact⟨_,.some _ _ _ A,(by repeat'(first|exact trivial|refine⟨rfl,?_⟩|refine⟨congrArg some ?_,?_⟩)),Take.nil⟩
   ·rw[if_neg (show ¬b=0 by assumption),if_pos (by omega),show(low+size/2048*clp z)-4294967296=(low+size/2048*clp z)%4294967296 by omega]at hs;subst hs
    generalize carry o=o2 at hb2
    dsimp only at hb2
    cases hb2 with
    |nil =>
     repeat'(first|apply zE|(apply o_g zC;exact rfl;exact rfl)|(apply o_ar zC;exact rfl;exact rfl)|(apply zM zC;(iterate 3 exact rfl);(focus exact pk))|(apply zX zC;(iterate 4 exact rfl);(focus exact up))|apply zA|((with_reducible apply Sd.mk);first|exact True.intro)|((with_reducible apply Ln.mk);first|rfl)|((with_reducible apply Wr.mk);first|exact IntWalk.u32_in _ (by omega))|((with_reducible apply Ce.mk);first|rfl)|((with_reducible apply Se.mk);first|(focus(repeat(first|exact SetAt.zero|apply SetAt.succ));done))|exact True.intro|exact rfl)
     exact⟨_,.nil _ _,(by repeat'(first|exact trivial|refine⟨rfl,?_⟩|refine⟨congrArg some ?_,?_⟩)),Take.nil⟩
    |some _ _ _ A =>
     repeat'(first|apply zE|(apply o_g zC;exact rfl;exact rfl)|(apply o_ar zC;exact rfl;exact rfl)|(apply zM zC;(iterate 3 exact rfl);(focus exact pk))|(apply zX zC;(iterate 4 exact rfl);(focus exact up))|apply zA|((with_reducible apply Sd.mk);first|exact True.intro)|((with_reducible apply Ln.mk);first|rfl)|((with_reducible apply Wr.mk);first|exact IntWalk.u32_in _ (by omega))|((with_reducible apply Ce.mk);first|rfl)|((with_reducible apply Se.mk);first|(focus(repeat(first|exact SetAt.zero|apply SetAt.succ));done))|exact True.intro|exact rfl)
     exact⟨_,.some _ _ _ A,(by repeat'(first|exact trivial|refine⟨rfl,?_⟩|refine⟨congrArg some ?_,?_⟩)),Take.nil⟩
   ·rw[if_neg (show ¬b=0 by assumption),if_neg (by omega),show(low+size/2048*clp z)=(low+size/2048*clp z)%4294967296 by omega]at hs;subst hs
    exact⟨_,.some _ _ _ A,(by repeat'(first|exact trivial|refine⟨rfl,?_⟩|refine⟨congrArg some ?_,?_⟩)),Take.nil⟩
 ·intro q0 hb
  repeat'(first|apply zH)
  refine zZ (S:=Nat × Enc × SH) (fun x=>[(0,gptr n 0 3)]) (fun x=>x.2.2) (fun x=>EncB n h x.2.1 x.2.2∧norm x.1 x.2.1=norm 2 s∧16777216≤x.2.1.size*256^x.1∧0<x.2.1.size∧x.2.1.size≤4294967295∧(0≤x.2.1.low∧x.2.1.low≤4294967295)∧x.2.1.out.length+x.1≤1000002)
   (fun x=>x.1) (2,s,q0) ⟨hb,rfl,by show _≤s.size*256^2;omega,by show 0<s.size;omega,by show s.size≤_;omega,h4.2.1,by show s.out.length+2≤_;omega⟩ (by repeat'(first|exact trivial|refine⟨rfl,?_⟩|refine⟨congrArg some ?_,?_⟩)) (by repeat with_reducible first|exact Take.nil|apply Take.c|apply Take.drop) ?_
  rintro⟨k,⟨o,low,size⟩,q⟩ ⟨hb,he,g1,g2,g3,g4,g5⟩
  dsimp only at *
  cases hb with
  |nil =>
   repeat'(first|apply zF|apply zB|apply zE|(apply yH;(focus kernel_rfl);(focus kernel_rfl))|(apply o_g zC;exact rfl;exact rfl)|(apply o_ar zC;exact rfl;exact rfl)|(apply o_ex;exact rfl;exact rfl)|(apply zM zC;(iterate 3 exact rfl);(focus exact pk))|(apply zX zC;(iterate 4 exact rfl);(focus exact up))|(apply zT zC;(iterate 5 exact rfl);(focus decide);exact rfl;(focus decide);(focus repeat(first|exact CatR.nil|(apply CatR.one;exact rfl;exact rfl)));exact rfl)|(apply o_append_nil zC;(iterate 5 exact rfl);(focus exact⟨by decide⟩);(focus exact pk))|(apply w_if;exact rfl;all_goals intro hc)|apply zA|apply zK|apply zG|apply zJ|apply zI|apply zV|apply zH|((with_reducible apply Sd.mk);first|exact True.intro|omega|(constructor <;> first|omega|(unfold maxLen;omega)))|((with_reducible apply Ln.mk);first|rfl)|((with_reducible apply Wr.mk);first|exact w_shl8u _|exact IntWalk.u8_in _ (by omega))|((with_reducible apply Ex.mk);first|exact ex24u _)|((with_reducible apply Ce.mk);first|rfl)|((with_reducible apply Se.mk);first|(focus(repeat(first|exact SetAt.zero|apply SetAt.succ));done))|((with_reducible apply Su.mk);first|exact zQ)|exact True.intro|refine Rc.mk ⟨_,_,pk,?_⟩|exact Or.inl rfl|apply And.intro|apply Or.inr|intro A|exact rfl)
   ·obtain⟨k',rfl,e1,e2⟩:=norm_go (e:=⟨[],low,size⟩) hc g1
    rw[show size*256%4294967296=size*256 by omega]
    refine⟨(k',eshift ⟨[],low,size⟩,_),⟨encB_shift_nil (A:=A) g4,by rw[←e1];exact he,e2,by show 0<size*256;omega,by show size*256≤_;omega,by show 0≤low*256%4294967296∧low*256%4294967296≤_;omega,by show 1+k'≤_;simp only[List.length_nil]at g5;omega⟩,by show k'<k'+1;omega,(by repeat'(first|exact trivial|refine⟨rfl,?_⟩|refine⟨congrArg some ?_,?_⟩)),(by repeat with_reducible first|exact Take.nil|apply Take.c|apply Take.drop)⟩
   ·rw[norm_end hc]at he
    (apply s_finN;(exact(show ResS _ _ _ _ [] from trivial));(focus rw[←he];exact .nil _ _);(focus repeat with_reducible first|exact Take.nil|apply Take.c|apply Take.drop))
  |some _ _ _ A =>
   repeat'(first|apply zF|apply zB|apply zE|(apply yH;(focus kernel_rfl);(focus kernel_rfl))|(apply o_g zC;exact rfl;exact rfl)|(apply o_ar zC;exact rfl;exact rfl)|(apply o_ex;exact rfl;exact rfl)|(apply zM zC;(iterate 3 exact rfl);(focus exact pk))|(apply zX zC;(iterate 4 exact rfl);(focus exact up))|(apply zT zC;(iterate 5 exact rfl);(focus decide);exact rfl;(focus decide);(focus repeat(first|exact CatR.nil|(apply CatR.one;exact rfl;exact rfl)));exact rfl)|(apply o_append zC;(iterate 5 exact rfl);(focus exact⟨by decide⟩);(focus exact up);(focus exact pk))|(apply w_if;exact rfl;all_goals intro hc)|apply zA|apply zK|apply zG|apply zJ|apply zI|apply zV|apply zH|((with_reducible apply Sd.mk);first|exact True.intro|omega|(constructor <;> first|omega|(unfold maxLen;omega)))|((with_reducible apply Ln.mk);first|rfl|omega|(simp ;first|done|omega))|((with_reducible apply Wr.mk);first|exact w_shl8u _|exact IntWalk.u8_in _ (by omega))|((with_reducible apply Ex.mk);first|exact ex24u _)|((with_reducible apply Ce.mk);first|rfl)|((with_reducible apply Se.mk);first|(focus(repeat(first|exact SetAt.zero|apply SetAt.succ));done))|((with_reducible apply Su.mk);first|exact zQ)|exact True.intro|refine Rc.mk ⟨_,_,pk,?_⟩|exact Or.inl rfl|apply And.intro|apply Or.inr|intro A|exact rfl)
   ·obtain⟨k',rfl,e1,e2⟩:=norm_go (e:=⟨o,low,size⟩) hc g1
    rw[show size*256%4294967296=size*256 by omega]
    refine⟨(k',eshift ⟨o,low,size⟩,_),⟨encB_shift g4,by rw[←e1];exact he,e2,by show 0<size*256;omega,by show size*256≤_;omega,by show 0≤low*256%4294967296∧low*256%4294967296≤_;omega,by show(o++[_]).length+k'≤_;simp only[List.length_append,List.length_singleton];omega⟩,by show k'<k'+1;omega,(by repeat'(first|exact trivial|refine⟨rfl,?_⟩|refine⟨congrArg some ?_,?_⟩)),Take.drop Take.nil⟩
   ·rw[norm_end hc]at he
    (apply s_finN;(exact(show ResS _ _ _ _ [] from trivial));(focus rw[←he];exact .some _ _ _ A);(focus repeat with_reducible first|exact Take.nil|apply Take.c|apply Take.drop))
theorem norm_ok {n:Nat}:∀{k:Nat} {e:Enc},e.out.length+k≤n→(0≤e.low∧e.low≤4294967295)→16777216≤e.size*256^k→e.size≤4294967295→EncOk n (norm k e)
 |0,e,h1,h2,h3,h4=>⟨by show e.out.length≤n;omega,h2,by show 16777216≤e.size∧e.size≤_;simp at h3;omega⟩
 |k+1,e,h1,h2,h3,h4=>by
  by_cases hc:e.size<16777216
  ·obtain⟨k',e0,e1,e2⟩:=norm_go hc h3
   obtain rfl:k=k':=by omega
   rw[e1]
   exact norm_ok (by show(e.out++[_]).length+k≤n;simp only[List.length_append,List.length_singleton];omega) (by show 0≤e.low*256%4294967296∧e.low*256%4294967296≤_;omega) e2 (by show e.size*256≤_;omega)
  ·rw[norm_end hc];exact⟨by omega,h2,by omega⟩
theorem ebit_ok {n:Nat}{e:Enc}(h:EncOk n e)(z b:Int):EncOk (n+2) (ebit e z b):=by
 have h4:=estep_ok h z b
 exact norm_ok (by omega) h4.2.1 (by omega) h4.2.2.2

theorem and1 (m:Int):((BitVec.ofInt 64 m&&&BitVec.ofInt 64 1).toNat:Int)=m%2:=by
 have h1:(BitVec.ofInt 64 m&&&BitVec.ofInt 64 1).toNat=(BitVec.ofInt 64 m).toNat%2:=by
  rw[BitVec.toNat_and,show(BitVec.ofInt 64 1).toNat=1 from rfl,Nat.and_one_is_mod]
 rw[h1,BitVec.toNat_ofInt]
 omega
theorem w_and1 (m:Int):IntKind.i64.wrap ((BitVec.ofInt IntKind.i64.bits m&&&BitVec.ofInt IntKind.i64.bits 1).toNat:Int)=m%2:=by
 rw[show(IntKind.i64.bits)=64 from rfl,and1]
 exact IntWalk.i64_in _ (by omega)
theorem ex_shrk {m:Int}{k:Nat}(h:k≤64):m/2^(min (Int.toNat (k:Int)) IntKind.i64.bits)=m/2^k:=by
 rw[Int.toNat_natCast,show(IntKind.i64.bits)=64 from rfl,Nat.min_eq_left h]

theorem EncB.pick {n:Nat}{h p:SH}{e:Enc}(hb:EncB n h e p){A:Nat}{b:Blk}{h1:SH}(hp:Pick h A b h1):∃p1,Pick p A b p1:=by
 cases hb with
 |nil=>exact⟨_,.tail hp⟩
 |some=>exact⟨_,.tail (.tail hp)⟩
inductive EncR (n:Nat)(p:SH):Enc→Prop
 |nil (low size:Int) (p1:SH) (hp:Pick p n ⟨encC (.slice none 0 0) low size,false⟩ p1):EncR n p ⟨[],low,size⟩
 |some (o:List UInt8) (low size:Int) (A:Nat) (p1 p2:SH) (hp:Pick p n ⟨encC (gsl A 0 o.length o.length 1) low size,false⟩ p1) (ha:Pick p A ⟨bytesV o,false⟩ p2):EncR n p ⟨o,low,size⟩
theorem EncB.r {n:Nat}{h p:SH}{e:Enc}(hb:EncB n h e p):EncR n p e:=by
 cases hb with
 |nil=>exact .nil _ _ _ .head
 |some=>exact .some _ _ _ _ _ _ .head (.tail .head)
theorem EncR.up {n m:Nat}{h p:SH}{e e2:Enc}(hr:EncR n h e)(hb:EncB m h e2 p):EncR n p e:=by
 cases hr with
 |nil _ _ _ hp=>obtain⟨p1,g⟩:=hb.pick hp;exact .nil _ _ _ g
 |some _ _ _ _ _ _ hp ha=>obtain⟨p1,g⟩:=hb.pick hp;obtain⟨p2,g2⟩:=hb.pick ha;exact .some _ _ _ _ _ _ g g2
theorem EncB.swap {n m:Nat}{h p1 p:SH}{e e2:Enc}(h1:EncB n h e p1)(h2:EncB m p1 e2 p):∃q1 q,EncB m h e2 q1∧EncB n q1 e q∧Take p q:=by
 cases h1 with
 |nil =>
  cases h2 with
  |nil=>exact⟨_,_,.nil _ _,.nil _ _,.cons (.tail .head) .nil⟩
  |some=>exact⟨_,_,.some _ _ _ _,.nil _ _,.cons (.tail (.tail .head)) .nil⟩
 |some =>
  cases h2 with
  |nil=>exact⟨_,_,.nil _ _,.some _ _ _ _,.cons (.tail .head) (.cons (.tail .head) .nil)⟩
  |some=>exact⟨_,_,.some _ _ _ _,.some _ _ _ _,.cons (.tail (.tail .head)) (.cons (.tail (.tail .head)) .nil)⟩
theorem EncB.take {n:Nat}{h p:SH}{e:Enc}(hb:EncB n h e p):Take p h:=by
 cases hb with
 |nil=>exact .drop .nil
 |some=>exact .drop (.drop .nil)
def ebits (v:Int):Nat→Enc→Enc
 |0,e=>e
 |k+1,e=>ebits v k (ebit e 1024 (v/2^k%2))
def edir (e:Enc)(n v:Int):Enc:=if n<0∨62<n then e else ebits v n.toNat e
theorem ebits_ok {v:Int}:∀{k n:Nat} {e:Enc},EncOk n e→EncOk (n+2*k) (ebits v k e)
 |0,n,e,h=>h
 |k+1,n,e,h=>by
  have:=ebits_ok (v:=v) (k:=k) (ebit_ok h 1024 (v/2^k%2))
  rw[show n+2*(k+1)=n+2+2*k by omega];exact this
theorem EncOk.mono {n m:Nat}{e:Enc}(h:EncOk n e)(hm:n≤m):EncOk m e:=⟨by have:=h.out;omega,h.low,h.size⟩
theorem edir_ok {n:Nat}{e:Enc}(h:EncOk n e)(x v:Int):EncOk (n+124) (edir e x v):=by
 unfold edir
 split
 ·exact h.mono (by omega)
 ·exact(ebits_ok h).mono (by omega)

theorem Direct_any (n:Nat)(x v:Int)(e:Enc)(h p:SH)(hb:EncB n h e p)(hok:EncOk 999000 e) :
  SRun Tryz.prog 78 [gptr n 0 3,I x,I v] p fun _ q=>EncB n h (edir e x v) q:=by
 refine w_body3 Tryz.func78 rfl rfl ?_
 repeat'(first|apply zF|apply zB|apply zE|(apply o_g zC;exact rfl;exact rfl)|(apply o_ar zC;exact rfl;exact rfl)|(apply zU;exact rfl;exact rfl)|(apply yF;iterate 4 exact rfl)|(apply o_guardF;(iterate 3 exact rfl);all_goals intro hc)|(apply yB;exact rfl)|(apply w_if;exact rfl;all_goals intro hc)|apply zA|apply zP|apply zI|apply zN|apply zH|((with_reducible apply Sd.mk);first|exact True.intro)|((with_reducible apply Wr.mk);first|exact IntWalk.i64_in _ (by omega)))
 all_goals first|(apply zL;(exact(show ResS _ _ _ _ [] from trivial));(focus rw[show edir e x v=e from if_pos (by omega)];exact hb);(focus repeat with_reducible first|exact Take.nil|apply Take.c|apply Take.drop))|skip
 obtain⟨m,rfl⟩:=Int.eq_ofNat_of_zero_le (show 0≤x by omega)
 have he:edir e m v=ebits v m e:=if_neg (by omega)
 refine zZ (S:=Nat × Enc × SH × Nat) (fun x=>[(0,gptr n 0 3),(2,I v),(6,I ((x.1:Int)-1))]) (fun x=>x.2.2.1) (fun x=>EncB n h x.2.1 x.2.2.1∧EncOk x.2.2.2 x.2.1∧x.2.2.2+2*x.1≤999200∧x.1≤m∧ebits v x.1 x.2.1=edir e m v)
  (fun x=>x.1) (m,e,p,999000) ⟨hb,hok,by show 999000+2*m≤_;omega,Nat.le_refl _,he.symm⟩ (by repeat'(first|exact trivial|refine⟨rfl,?_⟩|refine⟨congrArg some ?_,?_⟩)) (by repeat with_reducible first|exact Take.nil|apply Take.c|apply Take.drop) ?_
 rintro⟨k,e1,p1,c⟩ ⟨hb1,hok1,hc1,hkm,he1⟩
 dsimp only at *
 cases k with
 |zero =>
  repeat'(first|apply zF|apply zB|apply zE|(apply o_g zC;exact rfl;exact rfl)|(apply zS;exact rfl)|apply zA|apply zK|apply zJ|apply zV|((with_reducible apply Sd.mk);first|exact True.intro))
  (apply s_finN;(exact(show ResS _ _ _ _ [] from trivial));(focus rw[←he1];exact hb1);(focus repeat with_reducible first|exact Take.nil|apply Take.c|apply Take.drop))
 |succ k =>
  rw[show((k+1:Nat):Int)-1=k by omega]
  repeat'(first|apply zF|apply zB|apply zE|(apply o_g zC;exact rfl;exact rfl)|(apply o_ar zC;exact rfl;exact rfl)|(apply o_ex;exact rfl;exact rfl)|(apply zD;exact rfl;exact rfl;(focus first|exact rfl);exact rfl;(focus exact⟨_,Bit_any _ _ _ _ _ _ hb1 (hok1.mono (by omega)),by repeat with_reducible exact Take.nil⟩);rintro _ _ hb2)|(apply yB;exact rfl)|apply zA|apply zG|apply zI|apply zH|((with_reducible apply Sd.mk);first|exact True.intro|omega)|((with_reducible apply Wr.mk);first|exact w_and1 _|exact IntWalk.i64_in _ (by omega))|((with_reducible apply Ex.mk);first|exact ex_shrk (by omega)))
  exact⟨(k,_,_,c+2),⟨hb2,ebit_ok hok1 _ _,by show c+2+2*k≤_;omega,by show k≤m;omega,he1⟩,by show k<k+1;omega,(by repeat'(first|exact trivial|refine⟨rfl,?_⟩|refine⟨congrArg some ?_,?_⟩)),(by repeat with_reducible first|exact Take.nil|apply Take.c|apply Take.drop)⟩

def tail4 (low:Int):List UInt8:=[b8 (low/16777216),b8 (low/65536%256),b8 (low/256%256),b8 (low%256)]
def fin (e:Enc):List UInt8:=e.out++tail4 e.low
theorem subAt_tail {low:Int}(h:0≤low∧low≤4294967295):SubAt [Y (low/16777216),Y (low/65536%256),Y (low/256%256),Y (low%256)] 0 (bytesV (tail4 low)):=by
 have e:bytesV (tail4 low)=[Y (low/16777216),Y (low/65536%256),Y (low/256%256),Y (low%256)]:=by
  unfold tail4
  rw[show ∀a b c d:UInt8,[a,b,c,d]=[a]++([b]++([c]++[d]))from fun _ _ _ _=>rfl,bytesV_app,bytesV_app,bytesV_app,bytesV_one (by omega),bytesV_one (by omega),bytesV_one (by omega),bytesV_one (by omega)]
  rfl
 rw[e];exact zQ
theorem tail4_len (l:Int):(tail4 l).length=4:=rfl
theorem Finish_any (n:Nat)(e:Enc)(p:SH)(hb:EncR n p e)(ho:e.out.length≤1000000)(hl:0≤e.low∧e.low≤4294967295) :
  SRun Tryz.prog 45 [gptr n 0 3] p fun r q=>r=S (fin e)∧q=p:=by
 cases hb with
 |nil _ _ _ hp =>
  dsimp only at ho hl
  refine zR Tryz.func45 rfl rfl ?_
  repeat'(first|apply zF|apply zB|apply zE|(apply yH;(focus kernel_rfl);(focus kernel_rfl))|(apply o_g zC;exact rfl;exact rfl)|(apply o_ar zC;exact rfl;exact rfl)|(apply o_ex;exact rfl;exact rfl)|(apply zM zC;(iterate 3 exact rfl);(focus exact pk))|(apply yE zC;(iterate 4 exact rfl);(focus exact⟨rfl⟩);(focus exact up))|(apply yG zC;iterate 5 exact rfl)|(apply o_buildArr zC;(iterate 4 exact rfl);(focus repeat(first|exact BuildR.nil|(apply BuildR.one;exact rfl;exact rfl;(first|(focus(repeat(first|exact SetAt.zero|apply SetAt.succ));done)))));exact rfl)|(apply o_toString zC;(iterate 6 exact rfl);(focus exact pk))|(apply o_toString_nil zC;iterate 7 exact rfl)|apply zA|apply zN|((with_reducible apply Sd.mk);first|exact True.intro|omega|(unfold maxLen;omega)|(simp only[tail4_len,List.length_nil];omega))|((with_reducible apply Ln.mk);first|rfl)|((with_reducible apply Wr.mk);first|exact IntWalk.u8_in _ (by omega)|exact IntKind.wrap_u8 _)|((with_reducible apply Ex.mk);first|exact ex8u _|exact ex16u _|exact ex24u _)|((with_reducible apply Ce.mk);first|rfl)|((with_reducible apply Pu.mk);first|exact yA rfl)|((with_reducible apply Su.mk);first|exact subAt_tail (by omega))|exact True.intro|exact Or.inl rfl|apply And.intro|intro A|exact rfl)
  (apply zL;(exact(show ResS _ _ _ _ [_] from⟨rfl,trivial⟩));(focus exact⟨rfl,rfl⟩);(focus repeat with_reducible first|exact Take.nil|apply Take.c|apply Take.drop))
 |some _ _ _ _ _ _ hp ha =>
  dsimp only at ho hl
  refine zR Tryz.func45 rfl rfl ?_
  repeat'(first|apply zF|apply zB|apply zE|(apply yH;(focus kernel_rfl);(focus kernel_rfl))|(apply o_g zC;exact rfl;exact rfl)|(apply o_ar zC;exact rfl;exact rfl)|(apply o_ex;exact rfl;exact rfl)|(apply zM zC;(iterate 3 exact rfl);(focus exact pk))|(apply yE zC;(iterate 4 exact rfl);(focus exact⟨rfl⟩);(focus exact up))|(apply yG zC;iterate 5 exact rfl)|(apply o_buildArr zC;(iterate 4 exact rfl);(focus repeat(first|exact BuildR.nil|(apply BuildR.one;exact rfl;exact rfl;(first|(focus(repeat(first|exact SetAt.zero|apply SetAt.succ));done)))));exact rfl)|(apply o_toString zC;(iterate 6 exact rfl);(focus exact pk))|apply zA|apply zN|((with_reducible apply Sd.mk);first|exact True.intro|omega|(unfold maxLen;omega)|(simp only[tail4_len,List.length_nil];omega))|((with_reducible apply Ln.mk);first|rfl|(simp ;first|done|omega))|((with_reducible apply Wr.mk);first|exact IntWalk.u8_in _ (by omega)|exact IntKind.wrap_u8 _)|((with_reducible apply Ex.mk);first|exact ex8u _|exact ex16u _|exact ex24u _)|((with_reducible apply Ce.mk);first|rfl)|((with_reducible apply Pu.mk);first|exact yA rfl)|((with_reducible apply Su.mk);first|exact subAt_tail (by omega)|exact zQ)|exact True.intro|exact Or.inl rfl|apply And.intro|intro A|exact rfl)
  (apply zL;(exact(show ResS _ _ _ _ [_] from⟨rfl,trivial⟩));(focus exact⟨rfl,rfl⟩);(focus repeat with_reducible first|exact Take.nil|apply Take.c|apply Take.drop))

abbrev stF (s:Int × Int):List Value:=[I s.1,I s.2]
theorem stW (s:Int × Int):(stF s).length=2:=rfl
@[simp] theorem len_sts (l:List (Int × Int)):(recs stF l).length=2*l.length:=by rw[recs_len stW];omega
abbrev vldS (s:Int × Int):Prop:=vldP s.1∧(s.2=0∨s.2=1)
def erun :List (Int × Int)→Enc→Option Enc
 |[],e=>some e
 |s::r,e=>if vldS s then erun r (ebit e s.1 s.2)else none
def enc (l:List (Int × Int)):List UInt8 × Int:=match erun l ⟨[],0,4294967295⟩with
 |some e=>(fin e,0)
 |none=>([],1)
abbrev Er (n:Int):Value:=.int .i64 n


theorem or_low {a b:Nat}(n:Nat)(h:b<2^n):2^n*a ||| b=2^n*a+b:=(Nat.two_pow_add_eq_or_of_lt h a).symm
theorem or8n (q c:Nat)(hq:q<16777216)(hc:c<256):(BitVec.ofInt 32 ((q*256:Nat):Int) ||| BitVec.ofInt 32 (c:Int)).toNat=q*256+c:=by
 rw[BitVec.ofInt_natCast,BitVec.ofInt_natCast,BitVec.toNat_or,BitVec.toNat_ofNat,BitVec.toNat_ofNat,Nat.mod_eq_of_lt (by omega),Nat.mod_eq_of_lt (by omega),Nat.mul_comm q 256]
 exact or_low 8 hc
theorem w_or8 (m c:Int)(h:0≤c∧c<256):IntKind.u32.wrap ((BitVec.ofInt IntKind.u32.bits (m*256%4294967296) ||| BitVec.ofInt IntKind.u32.bits c).toNat:Int)=m*256%4294967296+c:=by
 obtain⟨c,rfl⟩:=Int.eq_ofNat_of_zero_le h.1
 obtain⟨q,hq,hq2⟩:∃q:Nat,m*256%4294967296=((q*256:Nat):Int)∧q<16777216:=⟨(m%16777216).toNat,by omega,by omega⟩
 rw[hq,show(IntKind.u32.bits)=32 from rfl,or8n q c hq2 (by omega),IntWalk.u32_in _ (by omega)]
 omega

structure Dec where
 rest:List UInt8
 code:Int
 size:Int
 missing:Bool
 full:Bool
structure DecOk (d:Dec):Prop where
 rest:d.rest.length≤1000000
 code:0≤d.code∧d.code≤4294967295
 size:16777216≤d.size∧d.size≤4294967295
def dnext (d:Dec):Dec:=match d.rest with
 |[]=>{ d with missing:=true,code:=d.code*256%4294967296+0 }
 |c::r=>{ d with rest:=r,code:=d.code*256%4294967296+c.toNat }
abbrev decC (d:Dec):List Value:=[S d.rest,U d.code,U d.size,B d.missing,B d.full]
abbrev decB (n:Nat)(d:Dec):Nat × Blk:=(n,⟨decC d,false⟩)

theorem next_any (n:Nat)(d:Dec)(h:SH)(hr:d.rest.length≤9223372036854775807):SRun Tryz.prog 117 [gptr n 0 5] (decB n d::h) fun _ q=>q=decB n (dnext d)::h:=by
 obtain⟨rest,code,size,missing,full⟩:=d
 dsimp only at hr
 cases rest with
 |nil =>
  show SRun _ _ _ ((n,⟨[S [],U code,U size,B missing,B full],false⟩)::h) _
  refine zR Tryz.func117 rfl rfl ?_
  repeat'(first|apply zF|apply zB|apply zE|(apply o_g zC;exact rfl;exact rfl)|(apply o_ar zC;exact rfl;exact rfl)|(apply zM zC;(iterate 3 exact rfl);(focus exact pk))|(apply zX zC;(iterate 4 exact rfl);(focus exact up))|(apply yB;exact rfl)|apply zA|((with_reducible apply Sd.mk);first|exact True.intro|omega)|((with_reducible apply Ln.mk);first|rfl)|((with_reducible apply Wr.mk);first|exact w_shl8u _|exact w_or8 _ _ (by omega)|exact IntWalk.u32_in _ (by omega))|((with_reducible apply Ce.mk);first|rfl)|((with_reducible apply Se.mk);first|(focus(repeat(first|exact SetAt.zero|apply SetAt.succ));done))|exact True.intro|exact rfl)
  (apply s_finN;(exact(show ResS _ _ _ _ [] from trivial));(focus rfl);(focus repeat(first|with_reducible exact Take.nil|with_reducible apply Take.c|((with_reducible apply Take.cE);first|exact rfl|(apply blkE;(focus first|exact rfl|exact yI rfl|exact yO rfl|exact congrArg (fun v=>[v]) (gslE rfl rfl (by first|rfl|exact ‹_›|omega|(simp ;first|done|omega)) (by first|rfl|exact ‹_›|omega|(simp ;first|done|omega)) rfl))))|with_reducible apply Take.drop)))
 |cons c r =>
  have hc1:0≤bat (c::r) 0∧bat (c::r) 0<256:=by
   have:=c.toNat_lt
   show(0:Int)≤(c.toNat:Int)∧(c.toNat:Int)<256;omega
  rw[List.length_cons]at hr
  show SRun _ _ _ ((n,⟨[S (c::r),U code,U size,B missing,B full],false⟩)::h) _
  refine zR Tryz.func117 rfl rfl ?_
  repeat'(first|apply zF|apply zB|apply zE|(apply yH;(focus kernel_rfl);(focus kernel_rfl))|(apply o_g zC;exact rfl;exact rfl)|(apply o_ar zC;exact rfl;exact rfl)|(apply zM zC;(iterate 3 exact rfl);(focus exact pk))|(apply zX zC;(iterate 4 exact rfl);(focus exact up))|(apply zS;exact rfl)|apply zA|((with_reducible apply Sd.mk);first|exact True.intro|omega|(simp only[List.length_cons];omega))|((with_reducible apply Ln.mk);first|rfl)|((with_reducible apply Wr.mk);first|exact w_shl8u _|exact w_or8 _ _ (by omega)|exact IntWalk.u32_in _ (by omega))|((with_reducible apply Ce.mk);first|rfl)|((with_reducible apply Se.mk);first|(focus(repeat(first|exact SetAt.zero|apply SetAt.succ));done))|exact True.intro|exact Or.inl rfl|apply And.intro|exact rfl)
  (apply s_finN;(exact(show ResS _ _ _ _ [] from trivial));(focus rfl);(focus repeat(first|with_reducible exact Take.nil|with_reducible apply Take.c|((with_reducible apply Take.cE);first|exact rfl|(apply blkE;(focus first|exact rfl|exact yI rfl|exact yO rfl|exact congrArg (fun v=>[v]) (gslE rfl rfl (by first|rfl|exact ‹_›|omega|(simp ;first|done|omega)) (by first|rfl|exact ‹_›|omega|(simp ;first|done|omega)) rfl))))|with_reducible apply Take.drop)))
theorem dnext_ok (d:Dec):0≤(dnext d).code∧(dnext d).code≤4294967295∧(dnext d).size=d.size∧(dnext d).rest.length≤d.rest.length:=by
 obtain⟨rest,code,size,missing,full⟩:=d
 cases rest with
 |nil=>simp only[dnext];refine⟨?_,?_,trivial,Nat.le_refl _⟩ <;> omega
 |cons c r =>
  have:=c.toNat_lt
  simp only[dnext,List.length_cons];refine⟨?_,?_,trivial,?_⟩ <;> omega

def dnew (l:List UInt8):Dec :=
 let d:=dnext (dnext (dnext (dnext ⟨l,0,4294967295,false,false⟩)))
 { d with full:=decide (d.code=d.size) }
def dnexts :Nat→Dec→Dec
 |0,d=>d
 |k+1,d=>dnexts k (dnext d)
theorem NewDecoder_any (l:List UInt8)(h:SH)(hl:l.length≤1000000):SRun Tryz.prog 81 [S l] h fun r q=>∃n,r=gptr n 0 5∧q=decB n (dnew l)::h:=by
 refine zR Tryz.func81 rfl rfl ?_
 repeat'(first|apply zF|apply zB|apply zE|(apply o_g zC;exact rfl;exact rfl)|(apply o_box (tt:=tyT);iterate 5 exact rfl)|(apply yT zC;exact rfl;exact rfl;(focus first|with_reducible exact pl186);exact rfl;(focus repeat(first|exact BuildR.nil|(apply BuildR.one;exact rfl;exact rfl;(first|(focus(repeat(first|exact SetAt.zero|apply SetAt.succ));done)))));exact rfl)|apply zA|apply zH|((with_reducible apply Sd.mk);first|exact True.intro)|intro A)
 refine zZ (S:=Nat × Dec) (fun x=>[(3,gptr A 0 5),(7,I x.1)]) (fun x=>decB A x.2::h) (fun x=>x.1≤4∧x.2.rest.length≤1000000∧dnexts (4-x.1) x.2=dnexts 4 ⟨l,0,4294967295,false,false⟩) (fun x=>4-x.1)
  (0,⟨l,0,4294967295,false,false⟩) ⟨by omega,hl,rfl⟩ (by repeat'(first|exact trivial|refine⟨rfl,?_⟩|refine⟨congrArg some ?_,?_⟩)) (by repeat with_reducible first|exact Take.nil|apply Take.c|apply Take.drop) ?_
 rintro⟨k,d⟩ ⟨hk,hd,he⟩
 dsimp only at *
 by_cases hkl:k<4
 ·repeat'(first|apply zF|apply zB|apply zE|(apply o_g zC;exact rfl;exact rfl)|(apply o_ar zC;exact rfl;exact rfl)|(apply zD;exact rfl;exact rfl;(focus first|exact rfl);exact rfl;(focus exact⟨_,next_any _ d _ (by omega),by repeat with_reducible exact Take.nil⟩);rintro _ _ rfl)|(apply yC;exact rfl;(focus first|omega))|apply zA|apply zG|apply zI|apply zH|((with_reducible apply Sd.mk);first|exact True.intro)|((with_reducible apply Wr.mk);first|exact IntWalk.i64_in _ (by omega)))
  exact⟨(k+1,dnext d),⟨hkl,by have:=(dnext_ok d).2.2.2;show(dnext d).rest.length≤_;omega,by rw[←he,show 4-k=(4-(k+1))+1 by omega];rfl⟩,by show 4-(k+1)<4-k;omega,(by repeat'(first|exact trivial|refine⟨rfl,?_⟩|refine⟨congrArg some ?_,?_⟩)),(by repeat with_reducible first|exact Take.nil|apply Take.c|apply Take.drop)⟩
 ·rw[show 4-k=0 by omega]at he
  obtain rfl:d=dnexts 4 ⟨l,0,4294967295,false,false⟩:=he
  repeat'(first|apply zF|apply zB|apply zE|(apply yH;(focus kernel_rfl);(focus kernel_rfl))|(apply o_g zC;exact rfl;exact rfl)|(apply zM zC;(iterate 3 exact rfl);(focus exact pk))|(apply zX zC;(iterate 4 exact rfl);(focus exact up))|(apply yD;exact rfl;(focus first|omega))|apply zA|apply zK|apply zJ|apply zN|apply zV|((with_reducible apply Sd.mk);first|exact True.intro)|((with_reducible apply Ln.mk);first|rfl)|((with_reducible apply Ce.mk);first|rfl)|((with_reducible apply Se.mk);first|(focus(repeat(first|exact SetAt.zero|apply SetAt.succ));done))|exact True.intro|exact Or.inl rfl|apply And.intro|exact rfl)
  (apply zL;(exact(show ResS _ _ _ _ [_] from⟨rfl,trivial⟩));(focus exact⟨A,rfl,rfl⟩);(focus repeat(first|with_reducible exact Take.nil|with_reducible apply Take.c|((with_reducible apply Take.cE);first|exact rfl|(apply blkE;(focus first|exact rfl|exact yI rfl|exact yO rfl|exact congrArg (fun v=>[v]) (gslE rfl rfl (by first|rfl|exact ‹_›|omega|(simp ;first|done|omega)) (by first|rfl|exact ‹_›|omega|(simp ;first|done|omega)) rfl))))|with_reducible apply Take.drop)))

def dnorm :Nat→Dec→Dec
 |0,d=>d
 |k+1,d=>if d.size<16777216 then dnorm k { dnext d with size:=(dnext d).size*256 } else d
def dstep (d:Dec)(z:Int):Dec × Int:=if d.code<bound d.size z then({ d with size:=bound d.size z },0)else({ d with code:=d.code-bound d.size z,size:=d.size-bound d.size z },1)
def dbit (d:Dec)(z:Int):Dec × Int:=(dnorm 2 (dstep d z).1,(dstep d z).2)
theorem dstep_ok {d:Dec}(h:DecOk d)(z:Int):(dstep d z).1.rest.length≤1000000∧(0≤(dstep d z).1.code∧(dstep d z).1.code≤4294967295)∧8192≤(dstep d z).1.size∧(dstep d z).1.size≤4294967295:=by
 have h1:=size_dvd h.size z
 have:=h.rest;have:=h.code;have:=h.size
 unfold dstep
 split <;> (dsimp only;omega)
theorem dnorm_go {k:Nat}{d:Dec}(h:d.size<16777216)(g:16777216≤d.size*256^k):∃k',k=k'+1∧dnorm k d=dnorm k' { dnext d with size:=(dnext d).size*256 }∧16777216≤(dnext d).size*256*256^k':=by
 cases k with
 |zero=>simp at g;omega
 |succ k =>
  refine⟨k,rfl,if_pos h,?_⟩
  rw[(dnext_ok d).2.2.1,Int.mul_assoc,←Int.pow_succ'];exact g
theorem dnorm_end {k:Nat}{d:Dec}(h:¬d.size<16777216):dnorm k d=d:=by
 cases k with
 |zero=>rfl
 |succ k=>exact if_neg h
theorem dnorm_ok :∀{k:Nat} {d:Dec},d.rest.length≤1000000→(0≤d.code∧d.code≤4294967295)→16777216≤d.size*256^k→d.size≤4294967295→DecOk (dnorm k d)
 |0,d,h1,h2,h3,h4=>⟨h1,h2,by show 16777216≤d.size∧d.size≤_;simp at h3;omega⟩
 |k+1,d,h1,h2,h3,h4=>by
  by_cases hc:d.size<16777216
  ·obtain⟨k',e0,e1,e2⟩:=dnorm_go hc h3
   obtain rfl:k=k':=by omega
   obtain⟨g1,g2,g3,g4⟩:=dnext_ok d
   rw[e1]
   exact dnorm_ok (by show(dnext d).rest.length≤_;omega) ⟨g1,g2⟩ e2 (by show(dnext d).size*256≤_;omega)
  ·rw[dnorm_end hc];exact⟨h1,h2,by omega⟩
theorem dbit_ok {d:Dec}(h:DecOk d)(z:Int):DecOk (dbit d z).1:=by
 have h4:=dstep_ok h z
 exact dnorm_ok h4.1 h4.2.1 (by omega) h4.2.2.2
theorem dnew_ok {l:List UInt8}(hl:l.length≤1000000):DecOk (dnew l):=by
 have h1:=dnext_ok ⟨l,0,4294967295,false,false⟩
 have h2:=dnext_ok (dnext ⟨l,0,4294967295,false,false⟩)
 have h3:=dnext_ok (dnext (dnext ⟨l,0,4294967295,false,false⟩))
 have h4:=dnext_ok (dnext (dnext (dnext ⟨l,0,4294967295,false,false⟩)))
 refine⟨?_,⟨h4.1,h4.2.1⟩,?_⟩
 ·have:∀d:Dec,d.rest.length=d.rest.length:=fun _=>rfl
  show(dnext (dnext (dnext (dnext ⟨l,0,4294967295,false,false⟩)))).rest.length≤_
  dsimp only at h1;omega
 ·show 16777216≤(dnext (dnext (dnext (dnext ⟨l,0,4294967295,false,false⟩)))).size∧(dnext (dnext (dnext (dnext ⟨l,0,4294967295,false,false⟩)))).size≤_
  dsimp only at h1;omega

theorem dBit_any (n:Nat)(z:Int)(d:Dec)(h:SH)(hok:DecOk d) :
  SRun Tryz.prog 118 [gptr n 0 5,I z] (decB n d::h) fun r q=>r=I (dbit d z).2∧q=decB n (dbit d z).1::h:=by
 have hd:=size_dvd hok.size z
 unfold bound at hd
 have hz:=clp_in z
 have h1:=hok.code;have h2:=hok.size;have h3:=hok.rest
 unfold dbit
 have h4:=dstep_ok hok z
 generalize hs:dstep d z=s at h4
 refine zY Tryz.func118 rfl rfl ?_
 repeat'((fail_if_success (show SWp _ _ (Code.cond (Operand.tmp 20) _ _) _ _ _));first|apply zF|apply zB|apply zE|(apply yH;(focus kernel_rfl);(focus kernel_rfl))|(apply o_g zC;exact rfl;exact rfl)|(apply o_ar zC;exact rfl;exact rfl)|(apply zM zC;(iterate 3 exact rfl);(focus exact pk))|(apply yS;(iterate 4 exact rfl);(focus exact⟨_,clamp_any _ _,by repeat with_reducible exact Take.nil⟩);(focus exact fun _ _ h=>h.1);(focus(repeat(first|exact Flat.c rfl))))|apply zA|((with_reducible apply Sd.mk);first|exact True.intro|omega)|((with_reducible apply Ln.mk);first|rfl)|((with_reducible apply Wr.mk);first|exact w_quoU (by omega) (by omega)|exact IntWalk.u32_in _ (by omega))|((with_reducible apply Ce.mk);first|rfl)|exact True.intro|exact rfl)
 refine w_meet (S:=Unit) (fun _=>[(0,gptr n 0 5),(6,I s.2)]) (fun _=>decB n s.1::h) (fun q=>True) ?_ ?_
 ·unfold dstep bound at hs
  repeat'(first|apply zB|apply zE|(apply yH;(focus kernel_rfl);(focus kernel_rfl))|(apply o_g zC;exact rfl;exact rfl)|(apply o_ar zC;exact rfl;exact rfl)|(apply zM zC;(iterate 3 exact rfl);(focus exact pk))|(apply zX zC;(iterate 4 exact rfl);(focus exact up))|(apply w_if;exact rfl;all_goals intro hc)|apply zA|((with_reducible apply Sd.mk);first|exact True.intro)|((with_reducible apply Ln.mk);first|rfl)|((with_reducible apply Wr.mk);first|exact IntWalk.u32_in _ (by omega))|((with_reducible apply Ce.mk);first|rfl)|((with_reducible apply Se.mk);first|(focus(repeat(first|exact SetAt.zero|apply SetAt.succ));done))|exact True.intro|exact Or.inl rfl|apply And.intro|exact rfl)
  ·rw[if_pos hc]at hs;subst hs
   exact⟨(),trivial,(by repeat'(first|exact trivial|refine⟨rfl,?_⟩|refine⟨congrArg some ?_,?_⟩)),(by repeat with_reducible first|exact Take.nil|apply Take.c|apply Take.drop)⟩
  ·rw[if_neg hc]at hs;subst hs
   exact⟨(),trivial,(by repeat'(first|exact trivial|refine⟨rfl,?_⟩|refine⟨congrArg some ?_,?_⟩)),(by repeat with_reducible first|exact Take.nil|apply Take.c|apply Take.drop)⟩
 ·rintro - -
  repeat'(first|apply zF|apply zH)
  refine zZ (S:=Nat × Dec) (fun x=>[(0,gptr n 0 5),(6,I s.2)]) (fun x=>decB n x.2::h) (fun x=>dnorm x.1 x.2=dnorm 2 s.1∧16777216≤x.2.size*256^x.1∧0<x.2.size∧x.2.size≤4294967295∧(0≤x.2.code∧x.2.code≤4294967295)∧x.2.rest.length≤1000000)
   (fun x=>x.1) (2,s.1) ⟨rfl,by show _≤s.1.size*256^2;omega,by show 0<s.1.size;omega,by show s.1.size≤_;omega,h4.2.1,h4.1⟩ (by repeat'(first|exact trivial|refine⟨rfl,?_⟩|refine⟨congrArg some ?_,?_⟩)) (by repeat with_reducible first|exact Take.nil|apply Take.c|apply Take.drop) ?_
  rintro⟨k,d⟩ ⟨he,g1,g2,g3,g4,g5⟩
  dsimp only at he g1 g2 g3 g4 g5 ⊢
  obtain⟨q1,q2,q3,q4⟩:=dnext_ok d
  repeat'(first|apply zF|apply zB|apply zE|(apply o_g zC;exact rfl;exact rfl)|(apply o_ar zC;exact rfl;exact rfl)|(apply zM zC;(iterate 3 exact rfl);(focus exact pk))|(apply zX zC;(iterate 4 exact rfl);(focus exact up))|(apply zD;exact rfl;exact rfl;(focus first|exact rfl);exact rfl;(focus exact⟨_,next_any _ d _ (by omega),by repeat with_reducible exact Take.nil⟩);rintro _ _ rfl)|(apply w_if;exact rfl;all_goals intro hc)|apply zA|apply zK|apply zG|apply zJ|apply zI|apply zN|apply zV|apply zH|((with_reducible apply Sd.mk);first|exact True.intro|omega)|((with_reducible apply Ln.mk);first|rfl)|((with_reducible apply Wr.mk);first|exact w_shl8u _)|((with_reducible apply Ce.mk);first|rfl)|((with_reducible apply Se.mk);first|(focus(repeat(first|exact SetAt.zero|apply SetAt.succ));done))|exact True.intro|exact rfl)
  ·obtain⟨k',rfl,e1,e2⟩:=dnorm_go hc g1
   rw[show(dnext d).size*256%4294967296=(dnext d).size*256 by omega]
   exact⟨(k',{ dnext d with size:=(dnext d).size*256 }),⟨by rw[←e1];exact he,e2,by show 0<(dnext d).size*256;omega,by show(dnext d).size*256≤_;omega,⟨q1,q2⟩,by show(dnext d).rest.length≤_;omega⟩,by show k'<k'+1;omega,(by repeat'(first|exact trivial|refine⟨rfl,?_⟩|refine⟨congrArg some ?_,?_⟩)),(by repeat with_reducible first|exact Take.nil|apply Take.c|apply Take.drop)⟩
  ·rw[dnorm_end hc]at he
   (apply zL;(exact(show ResS _ _ _ _ [_] from⟨rfl,trivial⟩));(focus rw[←he];exact⟨rfl,rfl⟩);(focus repeat with_reducible first|exact Take.nil|apply Take.c|apply Take.drop))

theorem w_shl1 {v:Int}(h:0≤v∧v<4611686018427387904):IntKind.i64.wrap (v*2^(min (Int.toNat 1) IntKind.i64.bits))=v*2:=by
 rw[show(2:Int)^(min (Int.toNat 1) IntKind.i64.bits)=2 from rfl]
 exact IntWalk.i64_in _ (by omega)
theorem or1n (q c:Nat)(hq:q<4611686018427387904)(hc:c<2):(BitVec.ofInt 64 ((q*2:Nat):Int) ||| BitVec.ofInt 64 (c:Int)).toNat=q*2+c:=by
 rw[BitVec.ofInt_natCast,BitVec.ofInt_natCast,BitVec.toNat_or,BitVec.toNat_ofNat,BitVec.toNat_ofNat,Nat.mod_eq_of_lt (by omega),Nat.mod_eq_of_lt (by omega),Nat.mul_comm q 2]
 exact or_low 1 hc
theorem w_or1 {v c:Int}(h:0≤v∧v<4611686018427387904)(hc:0≤c∧c<2):IntKind.i64.wrap ((BitVec.ofInt IntKind.i64.bits (v*2) ||| BitVec.ofInt IntKind.i64.bits c).toNat:Int)=v*2+c:=by
 obtain⟨q,rfl⟩:=Int.eq_ofNat_of_zero_le h.1
 obtain⟨c,rfl⟩:=Int.eq_ofNat_of_zero_le hc.1
 rw[show(IntKind.i64.bits)=64 from rfl,show((q:Int))*2=((q*2:Nat):Int)by omega,or1n q c (by omega) (by omega),IntWalk.i64_in _ (by omega)]
 omega

theorem dbit_bit (d:Dec)(z:Int):0≤(dbit d z).2∧(dbit d z).2<2:=by
 show 0≤(dstep d z).2∧(dstep d z).2<2
 unfold dstep;split <;> (dsimp only;omega)
def dbits :Nat→Dec→Int→Dec × Int
 |0,d,v=>(d,v)
 |k+1,d,v=>dbits k (dbit d 1024).1 (v*2+(dbit d 1024).2)
def ddir (d:Dec)(n:Int):Dec × Int:=if n<0∨62<n then(d,0)else dbits n.toNat d 0
theorem dbits_ok :∀{k:Nat} {d:Dec} {v:Int},DecOk d→DecOk (dbits k d v).1
 |0,_,_,h=>h
 |k+1,d,v,h=>by unfold dbits;exact dbits_ok (dbit_ok h _)
theorem ddir_ok {d:Dec}(h:DecOk d)(n:Int):DecOk (ddir d n).1:=by
 unfold ddir
 split
 ·exact h
 ·exact dbits_ok h
theorem two_le {j n:Nat}(h:j≤n):(2:Int)^j≤2^n:=by
 have:=Nat.pow_le_pow_right (n:=2) (by decide) h
 exact_mod_cast this

theorem dDirect_any (n:Nat)(x:Int)(d:Dec)(h:SH)(hok:DecOk d) :
  SRun Tryz.prog 119 [gptr n 0 5,I x] (decB n d::h) fun r q=>r=I (ddir d x).2∧q=decB n (ddir d x).1::h:=by
 refine zY Tryz.func119 rfl rfl ?_
 repeat'(first|apply zF|apply zB|apply zE|(apply o_g zC;exact rfl;exact rfl)|(apply zU;exact rfl;exact rfl)|(apply yF;iterate 4 exact rfl)|(apply o_guardF;(iterate 3 exact rfl);all_goals intro hc)|(apply yB;exact rfl)|(apply w_if;exact rfl;all_goals intro hc)|apply zA|apply zP|apply zI|apply zN|apply zH|((with_reducible apply Sd.mk);first|exact True.intro))
 all_goals first|(apply zL;(exact(show ResS _ _ _ _ [_] from⟨rfl,trivial⟩));(focus rw[show ddir d x=(d,0)from if_pos (by omega)];exact⟨rfl,rfl⟩);(focus repeat with_reducible first|exact Take.nil|apply Take.c|apply Take.drop))|skip
 obtain⟨m,rfl⟩:=Int.eq_ofNat_of_zero_le (show 0≤x by omega)
 have he:ddir d m=dbits m d 0:=if_neg (by omega)
 refine zZ (S:=Nat × Dec × Int) (fun x=>[(0,gptr n 0 5),(5,I x.2.2),(12,I m),(13,I x.1)]) (fun x=>decB n x.2.1::h) (fun x=>DecOk x.2.1∧x.1≤m∧dbits (m-x.1) x.2.1 x.2.2=ddir d m∧0≤x.2.2∧x.2.2<2^x.1)
  (fun x=>m-x.1) (0,d,0) ⟨hok,by omega,he.symm,Int.le_refl 0,by show(0:Int)<2^0;decide⟩ (by repeat'(first|exact trivial|refine⟨rfl,?_⟩|refine⟨congrArg some ?_,?_⟩)) (by repeat with_reducible first|exact Take.nil|apply Take.c|apply Take.drop) ?_
 rintro⟨k,d1,v⟩ ⟨hok1,hk,he1,hv1,hv2⟩
 dsimp only at *
 by_cases hkm:k<m
 ·have h61:=two_le (show k≤61 by omega)
  rw[show(2:Int)^61=2305843009213693952 from rfl]at h61
  have hb:=dbit_bit d1 1024
  repeat'(first|apply zF|apply zB|apply zE|(apply o_g zC;exact rfl;exact rfl)|(apply o_ar zC;exact rfl;exact rfl)|(apply zD;exact rfl;exact rfl;(focus first|exact rfl);exact rfl;(focus exact⟨_,dBit_any _ _ _ _ hok1,by repeat with_reducible exact Take.nil⟩);rintro _ _ ⟨rfl,rfl⟩)|(apply yC;exact rfl;(focus first|omega))|apply zA|apply zG|apply zI|apply zH|((with_reducible apply Sd.mk);first|exact True.intro|omega)|((with_reducible apply Wr.mk);first|exact w_shl1 (by omega)|exact w_or1 (by omega) (by omega)|exact IntWalk.i64_in _ (by omega)))
  refine⟨(k+1,(dbit d1 1024).1,v*2+(dbit d1 1024).2),⟨dbit_ok hok1 _,hkm,?_,by show 0≤v*2+_;omega,?_⟩,by show m-(k+1)<_;omega,(by repeat'(first|exact trivial|refine⟨rfl,?_⟩|refine⟨congrArg some ?_,?_⟩)),(by repeat with_reducible first|exact Take.nil|apply Take.c|apply Take.drop)⟩
  ·rw[←he1,show m-k=(m-(k+1))+1 by omega];rfl
  ·show v*2+_<(2:Int)^(k+1)
   rw[Int.pow_succ];omega
 ·obtain rfl:k=m:=by omega
  rw[Nat.sub_self]at he1
  repeat'(first|apply zF|apply zB|apply zE|(apply o_g zC;exact rfl;exact rfl)|(apply yD;exact rfl;(focus first|omega))|apply zA|apply zK|apply zJ|apply zN|apply zV|((with_reducible apply Sd.mk);first|exact True.intro))
  (apply zL;(exact(show ResS _ _ _ _ [_] from⟨rfl,trivial⟩));(focus rw[←he1];exact⟨rfl,rfl⟩);(focus repeat(first|with_reducible exact Take.nil|with_reducible apply Take.c|((with_reducible apply Take.cE);first|exact rfl|(apply blkE;(focus first|exact rfl|exact yI rfl|exact yO rfl|exact congrArg (fun v=>[v]) (gslE rfl rfl (by first|rfl|exact ‹_›|omega|(simp ;first|done|omega)) (by first|rfl|exact ‹_›|omega|(simp ;first|done|omega)) rfl))))|with_reducible apply Take.drop)))

def dend (d:Dec):Int:=if d.missing=true∨d.full=true∨d.rest≠[]∨d.code≠0 then 12 else 0
theorem End_any (n:Nat)(d:Dec)(h:SH):SRun Tryz.prog 158 [gptr n 0 5] (decB n d::h) fun r q=>r=Er (dend d)∧q=decB n d::h:=by
 obtain⟨rest,code,size,missing,full⟩:=d
 show SRun _ _ _ ((n,⟨[S rest,U code,U size,B missing,B full],false⟩)::h) _
 refine zR Tryz.func158 rfl rfl ?_
 cases missing <;> cases full
 all_goals repeat'(first|apply zF|apply zB|apply zE|(apply o_g zC;exact rfl;exact rfl)|(apply zM zC;(iterate 3 exact rfl);(focus exact pk))|(apply zU;exact rfl;exact rfl)|(apply yF;iterate 4 exact rfl)|(apply o_guardFN;(iterate 3 exact rfl);all_goals intro hc)|(apply yB;exact rfl)|(apply w_ifN;exact rfl;all_goals intro hc)|apply zA|apply zP|apply zI|apply zN|((with_reducible apply Sd.mk);first|exact True.intro)|((with_reducible apply Ln.mk);first|rfl)|((with_reducible apply Ce.mk);first|rfl)|exact True.intro|exact rfl)
 all_goals (apply zL;(exact(show ResS _ _ _ _ [_] from⟨rfl,trivial⟩));(focus refine⟨?_,rfl⟩;show Er _=Er _;first|rfl|(unfold dend;dsimp only;first|(rw[if_pos];(simp_all;done))|(rw[if_neg];(simp_all;done))));(focus repeat with_reducible first|exact Take.nil|apply Take.c|apply Take.drop))

theorem take_set {α:Type}{b:α}:∀{l:List α} {k:Nat},k<l.length→(l.set k b).take (k+1)=l.take k++[b]
 |[],k,h=>by simp at h
 |x::r,0,h=>by simp
 |x::r,k+1,h=>by simp only[List.set_cons_succ,List.take_succ_cons,List.cons_append];rw[take_set (by simpa using h)]
end Go.Proofs.YteddogfolceahaaGreat
end
section
set_option maxRecDepth 4000
namespace Go.Gh
open Go.RowKit

def pmeth (P:Program)(T:TypeId)(name:String)(f:FuncId):Bool :=
 match P.info? T with
 |some i=>match i.methods.find? (·.name == name)with
  |some m=>m.path.toList.isEmpty && (match m.func with|some (g,b)=>g == f && b|none=>false) && (match P.underlying T with|some (.pointer _)=>true|_=>false)
  |none=>false
 |none=>false
theorem run_pmeth {P:Program}{T:TypeId}{name:String}{f:FuncId}(h:pmeth P T name f=true){n:Nat}(hn:0<n)(v:Value)(w:World):(Go.method n T v name).run P w=.ok (f,v) w:=by
 obtain⟨k,rfl⟩:∃k,n=k+1:=⟨n-1,by omega⟩
 unfold pmeth at h
 cases hi:P.info? T with
 |none=>rw[hi]at h;cases h
 |some i =>
  rw[hi]at h
  dsimp only at h
  cases hm:i.methods.find? (·.name == name)with
  |none=>rw[hm]at h;cases h
  |some m =>
   rw[hm]at h
   dsimp only at h
   simp only[Bool.and_eq_true]at h
   obtain⟨⟨h1,h2⟩,h3⟩:=h
   have hp:m.path.toList=[]:=by simpa using h1
   cases hf:m.func with
   |none=>rw[hf]at h2;cases h2
   |some gb =>
    obtain⟨g,b⟩:=gb
    rw[hf]at h2
    simp only[Bool.and_eq_true,beq_iff_eq]at h2
    obtain⟨rfl,rfl⟩:=h2
    cases hu:P.underlying T with
    |none=>rw[hu]at h3;cases h3
    |some d =>
     rw[hu]at h3
     cases d <;> first|cases h3|skip
     simp[Go.method,typeInfo,hi,hm,hp,hf,Go.follow,Go.receiverAt,run_underlying hu,Go.Place.get]
theorem VRel.one {φ:Nat→Loc}{L:Lens}{v u:Value}(h:Val φ L v u):VRel φ L [v] #[u] :=
 ⟨rfl,fun i w hi=>by
  cases i with
  |zero=>simp only[List.getElem?_cons_zero,Option.some.injEq]at hi;subst hi;exact⟨u,rfl,h⟩
  |succ i=>simp at hi⟩
section
variable {P:Program} {N:Fr} {ops:Array Oper} {Q:Post} {rest:List Oper} {o:Oper} {a:AF} {H:Heap}
theorem a_invoke (x:Operand)(name:String)(xs:List Operand)(ts:Array TypeId){T:TypeId}{v:Value}{f:FuncId}{as0:List Value}{R:Value→Heap→Prop}
  (ho:o.op=.call { callee:=.invoke x name,args:=xs.toArray,argTypes:=ts }) (hx:ev a x=some (.iface T v)) (hxs:evs a xs=some as0)
  (hm:pmeth P T name f=true) (hf:enters P f=true) (hN:dstLt o N=true) (hr:Run P f ([v]++as0) H R)
  (k:∀r H',R r H'→AOps P N ops Q rest (put a o.dst r) H'):AOp P N o ops rest Q a H:=by
 refine aop_enter hN ?_ hr k
 intro φ ac hfr
 have h1:=zW hfr hx
 have h2:=evs_rel hfr hxs
 generalize hu:ac.eval x=u at h1
 cases h1 with
 |iface _ _ v' hv =>
  refine⟨_,(VRel.one hv).append h2,fun w=>?_⟩
  unfold execOp
  have hz:(#[Value.iface T v']++(List.map ac.eval xs).toArray).extract 1 (#[Value.iface T v']++(List.map ac.eval xs).toArray).size=(List.map ac.eval xs).toArray:=by
   apply Array.ext'
   simp[List.take_of_length_le]
  have h0:(#[Value.iface T v']++(List.map ac.eval xs).toArray)[0]?=some (Value.iface T v'):=by simp
  simp only[ho,resolve,List.map_toArray,hu,Sem.run_bind,Sem.run_pure,Result.andThen_ok,invoke,hz]
  rw[h0]
  simp only[callMethod,Sem.run_bind,program,Sem.run,Sem.run_pure,Result.andThen_ok,run_pmeth hm (Nat.lt_of_lt_of_le (by decide:0<Made.depth) (Nat.le_add_left _ _))]
  exact run_callFunc_enters hf _ w
theorem a_s2a (T:TypeId)(x:Operand){A off v len fl n E:Nat}(ho:o.op=.sliceToArrayPointer T x)(hx:ev a x=some (.slice (some ⟨A,off,some v⟩) len fl))(hT:P.underlying T=some (.array n E))(hn:n≤len):APure P N o a H (.pointer (some ⟨A,off,some v⟩)):=by
 refine⟨fun _ _ φ w ac _ hf=>?_⟩
 have h1:=zW hf hx
 generalize hu:ac.eval x=u at h1
 cases h1 with
 |slc _ _ _ m _ _ cap c hL hv hc hm h =>
  refine⟨.pointer (some c),.ptr _ _ _ m _ hL hv (fun e=>⟨(h e).1,(h e).2.2⟩),fun w _=>?_⟩
  unfold execOp
  simp[ho,hu,Instr.arrayAt,run_underlying hT,Nat.not_lt.2 hn]
end
section
variable {P:Program} {sz:Nat} {ops:Array Oper} {Q:SPost} {rest:List Oper} {a:AF} {h:SH} {m:Mode} {t:Nat} {ty:TypeId} {pos:String} {aft:Array Edge}
theorem o_invoke {x:Operand}{name:String}{xs:List Operand}{ts:Array TypeId}{T:TypeId}{v:Value}{f:FuncId}{as0:List Value}{R:Value→SH→Prop}(hx:ev a x=some (.iface T v))(hxs:evs a xs=some as0)
  (hN:Nat.blt t sz=true) (hrt:∃h1,SRun P f ([v]++as0) h1 R∧Take h h1) (hm:pmeth P T name f=true) (hf:enters P f=true) (k:∀r q,R r q→GO .seq P sz ops Q rest ((t,r)::a) q) :
  GO .seq P sz ops Q (⟨some t,.call { callee:=.invoke x name,args:=xs.toArray,argTypes:=ts },ty,pos,aft,none⟩::rest) a h:=by
 obtain⟨_,hr,ht⟩:=hrt
 unfold SRun at hr
 unfold GO at k ⊢
 exact fun E H n0 i=>aops_plain rfl (a_invoke x name xs ts rfl hx hxs hm hf hN (hr H (i.le ht.le).refl) fun r H' ⟨q,hq,i'⟩=>k r q hq E H' n0 ((i.le ht.le).comp i'))
theorem o_s2a {T:Nat}{x:Operand}{A off v len fl n E:Nat}(hx:ev a x=some (.slice (some ⟨A,off,some v⟩) len fl))(hT:P.underlying T=some (.array n E))(hn:Sd (n≤len))(hN:Nat.blt t sz=true)(k:GO m.next P sz ops Q rest ((t,.pointer (some ⟨A,off,some v⟩))::a) h) :
  GO m P sz ops Q (⟨some t,.sliceToArrayPointer T x,ty,pos,aft,none⟩::rest) a h:=o_pure (fun _ _ _ hag=>a_s2a T x rfl ((hag.ev (by simp[Op.operands,Call.operands])).trans hx) hT hn.h) hN k
end
end Go.Gh
end
section
set_option maxRecDepth 4000
namespace Go.Proofs.YteddogfolceahaaGreat
open Go.Gh Go.RowKit

theorem mclamp_any (z:Int)(h:SH):SRun Tryz.prog 115 [I z] h fun r q=>r=I (clp z)∧q=h:=by
 refine zR Tryz.func115 rfl rfl ?_
 repeat'(first|apply zF|apply zB|apply zE|(apply o_g zC;exact rfl;exact rfl)|(apply o_min;iterate 3 exact rfl)|(apply o_max;iterate 3 exact rfl)|apply zA|apply zN|((with_reducible apply Sd.mk);first|exact True.intro))
 (apply zL;(exact(show ResS _ _ _ _ [_] from⟨rfl,trivial⟩));(focus exact⟨rfl,rfl⟩);(focus repeat with_reducible first|exact Take.nil|apply Take.c|apply Take.drop))
def adp (z b:Int):Int:=if b=0 then clp z+(2048-clp z)/32 else clp z-clp z/32
theorem Adapt_any (z b:Int)(h:SH):SRun Tryz.prog 77 [I z,I b] h fun r q=>r=I (adp z b)∧q=h:=by
 have hz:=clp_in z
 unfold adp
 refine zY Tryz.func77 rfl rfl ?_
 repeat'(first|apply zF|apply zB|apply zE|(apply o_g zC;exact rfl;exact rfl)|(apply o_ar zC;exact rfl;exact rfl)|(apply zD;exact rfl;exact rfl;(focus first|exact rfl);exact rfl;(focus exact⟨_,mclamp_any _ _,by repeat with_reducible exact Take.nil⟩);rintro _ _ ⟨rfl,rfl⟩)|(apply w_if;exact rfl;all_goals intro hc)|apply zA|apply zP|apply zI|apply zN|((with_reducible apply Sd.mk);first|exact True.intro|omega)|((with_reducible apply Wr.mk);first|exact w_quoI (by omega) (by omega)|exact IntWalk.i64_in _ (by omega)))
 all_goals first
  |(rw[if_pos (by assumption)];(apply zL;(exact(show ResS _ _ _ _ [_] from⟨rfl,trivial⟩));(focus exact⟨rfl,rfl⟩);(focus repeat with_reducible first|exact Take.nil|apply Take.c|apply Take.drop)))
  |(rw[if_neg (by assumption)];(apply zL;(exact(show ResS _ _ _ _ [_] from⟨rfl,trivial⟩));(focus exact⟨rfl,rfl⟩);(focus repeat with_reducible first|exact Take.nil|apply Take.c|apply Take.drop)))
end Go.Proofs.YteddogfolceahaaGreat
end
section
set_option maxRecDepth 4000
namespace Go.Gh
open Go.RowKit

inductive VR (ρ:Nat→Nat)(D:Nat→Prop):Value→Value→Prop
 |const {v} (h:yJ v=true):VR ρ D v v
 |ptr {A o n} (h:D A):VR ρ D (.pointer (some ⟨A,o,some n⟩)) (.pointer (some ⟨ρ A,o,some n⟩))
 |slc {A o n len fl} (h:D A):VR ρ D (.slice (some ⟨A,o,some n⟩) len fl) (.slice (some ⟨ρ A,o,some n⟩) len fl)
 |sdead:VR ρ D (.slice (some ⟨0,0,none⟩) 0 0) (.slice (some ⟨0,0,none⟩) 0 0)
 |agg {a b:Array Value} (h1:a.size=b.size) (h2:∀i (h:i<a.size) (h':i<b.size),VR ρ D a[i] b[i]):VR ρ D (.agg a) (.agg b)
 |tuple {a b:Array Value} (h1:a.size=b.size) (h2:∀i (h:i<a.size) (h':i<b.size),VR ρ D a[i] b[i]):VR ρ D (.tuple a) (.tuple b)
 |func {f:Fn} {a b c d:Array Value} (h1:a.size=b.size) (h2:∀i (h:i<a.size) (h':i<b.size),VR ρ D a[i] b[i])
   (h3:c.size=d.size) (h4:∀i (h:i<c.size) (h':i<d.size),VR ρ D c[i] d[i]):VR ρ D (.func f a c) (.func f b d)
inductive VRs (ρ:Nat→Nat)(D:Nat→Prop):List Value→List Value→Prop
 |nil:VRs ρ D [] []
 |cons {u v l m} (h:VR ρ D u v) (k:VRs ρ D l m):VRs ρ D (u::l) (v::m)
theorem VRs.len {ρ:Nat→Nat}{D:Nat→Prop}{l m:List Value}(h:VRs ρ D l m):l.length=m.length:=by
 induction h with
 |nil=>rfl
 |cons _ _ ih=>simp[ih]
theorem VRs.get {ρ:Nat→Nat}{D:Nat→Prop}{l m:List Value}(h:VRs ρ D l m):∀{i:Nat} {u:Value},l[i]?=some u→∃v,m[i]?=some v∧VR ρ D u v:=by
 induction h with
 |nil=>intro i u h;simp at h
 |@cons u v l m h _ ih =>
  intro i w hw
  cases i with
  |zero=>simp only[List.getElem?_cons_zero,Option.some.injEq]at hw;subst hw;exact⟨v,rfl,h⟩
  |succ i=>exact ih (by simpa using hw)
theorem VRs.at {ρ:Nat→Nat}{D:Nat→Prop}{l m:List Value}(h:VRs ρ D l m)(i:Nat)(h1:i<(Array.mk l).size)(h2:i<(Array.mk m).size):VR ρ D (Array.mk l)[i] (Array.mk m)[i]:=by
 obtain⟨v,g1,g2⟩:=h.get (i:=i) (u:=l[i]'(by simpa using h1)) (List.getElem?_eq_getElem _)
 have:(Array.mk m)[i]=v:=by
  have h2':i<m.length:=by simpa using h2
  rw[List.getElem?_eq_getElem h2']at g1
  simpa using g1
 rw[this];exact g2
theorem VRs.agg {ρ:Nat→Nat}{D:Nat→Prop}{l m:List Value}(h:VRs ρ D l m):VR ρ D (.agg ⟨l⟩) (.agg ⟨m⟩):=.agg (by simpa using h.len) h.at
theorem VRs.tuple {ρ:Nat→Nat}{D:Nat→Prop}{l m:List Value}(h:VRs ρ D l m):VR ρ D (.tuple ⟨l⟩) (.tuple ⟨m⟩):=.tuple (by simpa using h.len) h.at
theorem VRs.const {ρ:Nat→Nat}{D:Nat→Prop}:∀{l:List Value},(∀v∈l,yJ v=true)→VRs ρ D l l
 |[],_=>.nil
 |_::_,h=>.cons (.const (h _ List.mem_cons_self)) (VRs.const fun v hv=>h v (List.mem_cons_of_mem _ hv))
theorem VRs.app {ρ:Nat→Nat}{D:Nat→Prop}{l m l' m':List Value}(h:VRs ρ D l m)(k:VRs ρ D l' m'):VRs ρ D (l++l') (m++m'):=by
 induction h with
 |nil=>exact k
 |cons h _ ih=>exact .cons h ih
theorem VR.val {ρ:Nat→Nat}{D:Nat→Prop}{φ:Nat→Loc}{L L':Lens}{u v:Value}(h:VR ρ D u v)(hD:∀A,D A→L' A=L (ρ A)):∀{v':Value},Val φ L v v'→Val (fun A=>φ (ρ A)) L' u v':=by
 induction h with
 |const hc=>intro v' hv;rw[Val.det hc hv];exact Val.const hc
 |@ptr A o n h =>
  intro v' hv
  generalize hq:Value.pointer (some ⟨ρ A,o,some n⟩)=q at hv
  cases hv with
  |ptr A' o' v' n' c hL hv h'=>cases hq;exact .ptr _ _ _ _ _ (by rw[hD _ h];exact hL) hv h'
  |_=>cases hq
 |@slc A o n len fl h =>
  intro v' hv
  generalize hq:Value.slice (some ⟨ρ A,o,some n⟩) len fl=q at hv
  cases hv with
  |slc A' o' v' n' len' fl' cap c hL hv hc hm h'=>cases hq;exact .slc _ _ _ _ _ _ _ _ (by rw[hD _ h];exact hL) hv hc hm h'
  |sdead=>simp at hq
  |_=>cases hq
 |sdead=>intro v' hv;cases hv with|sdead c cap hm=>exact .sdead c cap hm
 |agg h1 _ ih=>intro v' hv;cases hv with|agg a b g1 g2=>exact .agg _ _ (h1.trans g1) fun i hi hi'=>ih i hi (by omega) (g2 i (by omega) hi')
 |tuple h1 _ ih=>intro v' hv;cases hv with|tuple a b g1 g2=>exact .tuple _ _ (h1.trans g1) fun i hi hi'=>ih i hi (by omega) (g2 i (by omega) hi')
 |func h1 _ h3 _ ih1 ih2 =>
  intro v' hv
  cases hv with
  |func f a b c d g1 g2 g3 g4=>exact .func _ _ _ _ _ (h1.trans g1) (fun i hi hi'=>ih1 i hi (by omega) (g2 i (by omega) hi')) (h3.trans g3) fun i hi hi'=>ih2 i hi (by omega) (g4 i (by omega) hi')
theorem old_val {D:Nat→Prop}{φ φ1 φ2:Nat→Loc}{L L1 L2:Lens}(hL:∀A m,L A=some m→D A)(h12:∀A,D A→φ2 A=φ1 A∧L2 A=L1 A){v v':Value}(h:Val φ1 L1 v v'):∀{v0:Value},Val φ L v v0→Val φ2 L2 v v':=by
 induction h with
 |bool b=>intro v0 _;exact .bool b
 |int k n=>intro v0 _;exact .int k n
 |str s=>intro v0 _;exact .str s
 |pnil=>intro v0 _;exact .pnil
 |ptr A o v n c h1 h2 h3 =>
  intro v0 h0
  generalize hq:Value.pointer (some ⟨A,o,some v⟩)=q at h0
  cases h0 with
  |ptr A' o' v' n' c' hL' hv' h' =>
   cases hq
   obtain⟨e1,e2⟩:=h12 _ (hL _ _ hL')
   exact .ptr _ _ _ _ _ (by rw[e2];exact h1) h2 (by rw[e1];exact h3)
  |_=>cases hq
 |snil=>intro v0 _;exact .snil
 |slc A o v n len fl cap c h1 h2 hc hm h3 =>
  intro v0 h0
  generalize hq:Value.slice (some ⟨A,o,some v⟩) len fl=q at h0
  cases h0 with
  |slc A' o' v' n' len' fl' cap' c' hL' hv' hc' hm' h' =>
   cases hq
   obtain⟨e1,e2⟩:=h12 _ (hL _ _ hL')
   exact .slc _ _ _ _ _ _ _ _ (by rw[e2];exact h1) h2 hc hm (by rw[e1];exact h3)
  |_=>cases hq
 |full A o v n len c h1 h2 hm h3 =>
  intro v0 h0
  generalize hq:Value.slice (some ⟨A,o,none⟩) len (v+1)=q at h0
  cases h0 with
  |full A' o' v' n' len' c' hL' hv' hm' h' =>
   cases hq
   obtain⟨e1,e2⟩:=h12 _ (hL _ _ hL')
   exact .full _ _ _ _ _ _ (by rw[e2];exact h1) h2 hm (by rw[e1];exact h3)
  |sdead=>simp at hq
  |_=>cases hq
 |map A n r h1 h3 =>
  intro v0 h0
  generalize hq:Value.map (some A)=q at h0
  cases h0 with
  |map A' n' r' hL' h' =>
   cases hq
   obtain⟨e1,e2⟩:=h12 _ (hL _ _ hL')
   exact .map _ n _ (by rw[e2];exact h1) (by rw[e1];exact h3)
  |_=>cases hq
 |sdead c cap hm=>intro v0 _;exact .sdead c cap hm
 |mnil=>intro v0 _;exact .mnil
 |func f a b c d h1 _ h3 _ ih1 ih2 =>
  intro v0 h0
  cases h0 with
  |func _ _ b' _ d' g1 g2 g3 g4=>exact .func f a b c d h1 (fun i hi hi'=>ih1 i hi hi' (g2 i hi (by omega))) h3 (fun i hi hi'=>ih2 i hi hi' (g4 i hi (by omega)))
 |fnil=>intro v0 _;exact .fnil
 |inil=>intro v0 _;exact .inil
 |iface t v v' _ ih=>intro v0 h0;cases h0 with|iface _ _ _ h=>exact .iface t v v' (ih h)
 |agg a b h1 _ ih=>intro v0 h0;cases h0 with|agg _ b' g1 g2=>exact .agg a b h1 fun i hi hi'=>ih i hi hi' (g2 i hi (by omega))
 |tuple a b h1 _ ih=>intro v0 h0;cases h0 with|tuple _ b' g1 g2=>exact .tuple a b h1 fun i hi hi'=>ih i hi hi' (g2 i hi (by omega))

inductive SHR (ρ:Nat→Nat)(D:Nat→Prop)(p:SH):SH→SH→Prop
 |nil:SHR ρ D p [] []
 |same {h} (k:∀x∈h,x∈p):SHR ρ D p h h
 |cons {A A' c c' ro h h'} (e:ρ A=A') (h1:VRs ρ D c c') (k:SHR ρ D p h h'):SHR ρ D p ((A,⟨c,ro⟩)::h) ((A',⟨c',ro⟩)::h')
 |keep {x h h'} (e:x∈p) (k:SHR ρ D p h h'):SHR ρ D p (x::h) (x::h')
theorem SHR.get {ρ:Nat→Nat}{D:Nat→Prop}{p h h':SH}(k:SHR ρ D p h h')(hp:∀y∈p,ρ y.1=y.1):∀x∈h,(x∈p∧x∈h')∨∃c',(ρ x.1,⟨c',x.2.ro⟩)∈h'∧VRs ρ D x.2.cells c':=by
 induction k with
 |nil=>intro x hx;cases hx
 |same k=>intro x hx;exact .inl ⟨k x hx,hx⟩
 |cons e h1 _ ih =>
  intro x hx
  rcases List.mem_cons.1 hx with rfl|hx
  ·exact .inr ⟨_,by rw[e];exact List.mem_cons_self,h1⟩
  ·rcases ih x hx with⟨g1,g2⟩|⟨c',g1,g2⟩
   ·exact .inl ⟨g1,List.mem_cons_of_mem _ g2⟩
   ·exact .inr ⟨c',List.mem_cons_of_mem _ g1,g2⟩
 |keep e _ ih =>
  intro x hx
  rcases List.mem_cons.1 hx with rfl|hx
  ·exact .inl ⟨e,List.mem_cons_self⟩
  ·rcases ih x hx with⟨g1,g2⟩|⟨c',g1,g2⟩
   ·exact .inl ⟨g1,List.mem_cons_of_mem _ g2⟩
   ·exact .inr ⟨c',List.mem_cons_of_mem _ g1,g2⟩

def look (g:SH)(A:Nat):Option Blk:=(g.find? fun x=>Nat.beq x.1 A).map (·.2)
theorem look_mem {g:SH}{A:Nat}{b:Blk}(h:look g A=some b):(A,b)∈g:=by
 unfold look at h
 cases hf:g.find? fun x=>Nat.beq x.1 A with
 |none=>rw[hf]at h;cases h
 |some x =>
  rw[hf]at h
  simp only[Option.map_some,Option.some.injEq]at h
  have h1:=List.mem_of_find?_eq_some hf
  have h2:=Nat.eq_of_beq_eq_true (List.find?_some (p:=fun x:Nat × Blk=>Nat.beq x.1 A) hf)
  rw[←h2,←h];exact h1
theorem look_of {g:SH}(hn:(g.map (·.1)).Nodup){A:Nat}{b:Blk}(h:(A,b)∈g):look g A=some b:=by
 induction g with
 |nil=>cases h
 |cons x g ih =>
  simp only[List.map_cons,List.nodup_cons]at hn
  unfold look
  rw[List.find?_cons]
  rcases List.mem_cons.1 h with rfl|h
  ·simp[Nat.beq_refl]
  ·have hne:x.1≠A:=fun e=>hn.1 (List.mem_map.2 ⟨_,h,e.symm⟩)
   rw[show Nat.beq x.1 A=false from by
    cases hb:Nat.beq x.1 A with
    |true=>exact absurd (Nat.eq_of_beq_eq_true hb) hne
    |false=>rfl]
   exact ih hn.2 h
def canon (H:Heap)(g:SH)(k:Nat):Heap:=(List.range (H.length+k)).map fun A=>match look g A with|some b=>some b|none=>H.getD A none
theorem canon_len {H:Heap}{g:SH}{k:Nat}:(canon H g k).length=H.length+k:=by simp[canon]
theorem canon_get {H:Heap}{g:SH}{k A:Nat}(h:A<H.length+k):(canon H g k)[A]?=some (match look g A with|some b=>some b|none=>H.getD A none):=by
 unfold canon;rw[List.getElem?_map,List.getElem?_range h];rfl

theorem perm_disj {l m:List Nat}{g:List Nat}(hp:g.Perm (l++m))(hn:g.Nodup):(∀x∈l,x ∉ m)∧l.Nodup:=by
 have:=hp.nodup_iff.1 hn
 rw[List.nodup_append]at this
 exact⟨fun x hx hm=>this.2.2 x hx x hm rfl,this.1⟩

theorem call_at {P:Program}{f:FuncId}{as0:List Value}{p:SH}{R:Value→SH→Prop}(hr:SRun P f as0 p R){H H':Heap}{n:Nat}(i:Inv ⟨H,p⟩ p H){k:Nat}{V:List Nat→Value}{G:List Nat→SH}
  (hfun:∀r q,R r q→∃ns,ns.length=k∧r=V ns∧Take q (G ns)) (hkeys:∀ns,ns.length=k→((G ns).map (·.1)).Perm (ns++p.map (·.1)))
  (hpar:∀(ns ms:List Nat) (ρ:Nat→Nat) (D:Nat→Prop),ns.length=k→ms.length=k→ms.map ρ=ns→(∀y∈p,ρ y.1=y.1)→(∀A∈ms,D A)→(∀y∈p,D y.1)→VR ρ D (V ms) (V ns)∧SHR ρ D p (G ms) (G ns))
  (hfree:∀A,n≤A→A<n+k→∀g,H[A]?≠some (some g)) (hin:∀x∈G (List.range' n k),H'[x.1]?=some (some x.2)) (hoth:∀A,(∀x∈G (List.range' n k),x.1≠A)→∀g,H'[A]?=some (some g)↔H[A]?=some (some g))
  {B0:Nat} {w0 w:World} {φ:Nat→Loc} {vs:Array Value} (hrel:Rel B0 w0 φ H w) (hvs:VRel φ (lens H) as0 vs) :
  Calls P f vs w fun e w'=>∃φ' v',Ext φ (lens H) φ' (lens H')∧Rel B0 w0 φ' H' w'∧e=.returned v'∧Val φ' (lens H') (V (List.range' n k)) v':=by
 unfold SRun at hr
 have h1:=hr H i
 unfold Run at h1
 refine(h1 B0 w0 φ (lens H) φ w vs (.refl _ _) hrel hvs).mono ?_
 rintro e w' ⟨φ2,r,H2,v,hext,hrel2,rfl,hv,q,hR,i2⟩
 obtain⟨ns,hk,rfl,ht⟩:=hfun r q hR
 have i3:=i2.le ht.le
 generalize hms:List.range' n k=ms at hin hoth ⊢
 have hmk:ms.length=k:=by rw[←hms,List.length_range']
 have hmem:∀A,A∈ms↔n≤A∧A<n+k:=fun A=>by rw[←hms,List.mem_range'_1]
 
 have hpk:=hkeys ns hk
 have hpm:=hkeys ms hmk
 obtain⟨hdis,hnd⟩:=perm_disj hpk i3.nd
 have hpold:∀y∈p,y.1<H.length:=fun y hy=>(List.getElem?_eq_some_iff.1 (i.sat y hy)).1
 have hpms:∀y∈p,y.1 ∉ ms:=fun y hy h=>hfree y.1 ((hmem _).1 h).1 ((hmem _).1 h).2 y.2 (i.sat y hy)
 have hns:∀x∈ns,H.length≤x:=by
  intro x hx
  rcases Nat.lt_or_ge x H.length with hlt|hge
  ·obtain⟨b,hb,e⟩:=List.mem_map.1 (hpk.mem_iff.2 (List.mem_append_left _ hx))
   obtain⟨y,hy,e2⟩:=i3.own b hb (by simp only;omega)
   exact absurd (List.mem_map.2 ⟨y,hy,by omega⟩) (hdis x hx)
  ·exact hge
 let ρ:Nat→Nat:=fun A=>if n≤A∧A<n+k then ns.getD (A-n) 0 else A
 have hρo:∀A,A ∉ ms→ρ A=A:=fun A h=>if_neg (fun k=>h ((hmem A).2 k))
 have hρe:∀A,A∈ms→ρ A=ns.getD (A-n) 0:=fun A h=>if_pos ((hmem A).1 h)
 have hρn:∀A,A∈ms→ρ A∈ns:=fun A h=>by
  obtain⟨g1,g2⟩:=(hmem A).1 h
  rw[hρe A h,List.getD_eq_getElem?_getD,List.getElem?_eq_getElem (by omega)]
  exact List.getElem_mem _
 have hmap:ms.map ρ=ns:=by
  apply List.ext_getElem?
  intro j
  rw[List.getElem?_map]
  rcases Nat.lt_or_ge j k with hj|hj
  ·have e1:ms[j]?=some (n+j):=by rw[←hms,List.getElem?_range' hj,Nat.one_mul]
   rw[e1,Option.map_some,hρe _ ((hmem _).2 ⟨by omega,by omega⟩),Nat.add_sub_cancel_left,List.getD_eq_getElem?_getD,List.getElem?_eq_getElem (by omega)];rfl
  ·rw[List.getElem?_eq_none (by omega),List.getElem?_eq_none (by omega)];rfl
 have hρinj:∀A A',(A∈ms∨A<H.length)→(A'∈ms∨A'<H.length)→ρ A=ρ A'→A=A':=by
  intro A A' hA hA' he
  by_cases h1:A∈ms <;> by_cases h2:A'∈ms
  ·rw[hρe A h1,hρe A' h2]at he
   obtain⟨a1,a2⟩:=(hmem A).1 h1
   obtain⟨b1,b2⟩:=(hmem A').1 h2
   rw[List.getD_eq_getElem?_getD,List.getD_eq_getElem?_getD,List.getElem?_eq_getElem (by omega),List.getElem?_eq_getElem (by omega)]at he
   have he':ns[A-n]'(by omega)=ns[A'-n]'(by omega):=he
   have hpw:=List.pairwise_iff_getElem.1 hnd
   rcases Nat.lt_trichotomy (A-n) (A'-n)with h|h|h
   ·exact absurd he' (hpw _ _ (by omega) (by omega) h)
   ·omega
   ·exact absurd he'.symm (hpw _ _ (by omega) (by omega) h)
  ·rw[hρo A' h2]at he
   have:=hns _ (hρn A h1)
   rcases hA' with h|h
   ·exact absurd h h2
   ·omega
  ·rw[hρo A h1]at he
   have:=hns _ (hρn A' h2)
   rcases hA with h|h
   ·exact absurd h h1
   ·omega
  ·rw[hρo A h1,hρo A' h2]at he;exact he
 obtain⟨hV,hG⟩:=hpar ns ms ρ (fun A=>A∈ms∨A∈p.map (·.1)) hk hmk hmap (fun y hy=>hρo _ (hpms y hy)) (fun A h=>.inl h) (fun y hy=>.inr (List.mem_map.2 ⟨y,hy,rfl⟩))
 
 have hkeyG:∀A,(A∈ms∨A∈p.map (·.1))→∃b,(A,b)∈G ms:=by
  intro A hA
  obtain⟨b,hb,e⟩:=List.mem_map.1 (hpm.mem_iff.2 (by rcases hA with h|h;exact List.mem_append_left _ h;exact List.mem_append_right _ h))
  exact⟨b.2,by rw[←e];exact hb⟩
 have hget:∀A g,H'[A]?=some (some g)→(A∈ms∨A<H.length)∧((H2[ρ A]?=some (some g)∧H[A]?=some (some g)∧A ∉ ms)∨∃c',H2[ρ A]?=some (some ⟨c',g.ro⟩)∧VRs ρ (fun A=>A∈ms∨A∈p.map (·.1)) g.cells c'):=by
  intro A g hA
  by_cases hx:∃b,(A,b)∈G ms
  ·obtain⟨b,hb⟩:=hx
   have:=hin _ hb
   rw[hA]at this
   simp only[Option.some.injEq]at this
   subst this
   have hdom:A∈ms∨A<H.length:=by
    rcases List.mem_append.1 (hpm.mem_iff.1 (List.mem_map.2 ⟨_,hb,rfl⟩))with h|h
    ·exact .inl h
    ·obtain⟨y,hy,e⟩:=List.mem_map.1 h
     have:=hpold y hy
     exact .inr (by simp only at e;omega)
   refine⟨hdom,?_⟩
   rcases hG.get (fun y hy=>hρo _ (hpms y hy)) _ hb with⟨g1,g2⟩|⟨c',g1,g2⟩
   ·exact .inl ⟨by rw[hρo A (hpms _ g1)];exact i3.sat _ g2,i.sat _ g1,hpms _ g1⟩
   ·exact .inr ⟨c',i3.sat _ g1,g2⟩
  ·have hno:∀x∈G ms,x.1≠A:=fun x hxm e=>hx ⟨x.2,by rw[←e];exact hxm⟩
   have hA2:=(hoth A hno g).1 hA
   have hl:=(List.getElem?_eq_some_iff.1 hA2).1
   have hnm:A ∉ ms:=fun h=>hx (hkeyG A (.inl h))
   refine⟨.inr hl,.inl ⟨?_,hA2,hnm⟩⟩
   rw[hρo A hnm,i3.keep A hl fun y hy e=>hx (hkeyG A (.inr (List.mem_map.2 ⟨y,hy,e⟩)))]
   exact hA2
 have hlen:∀A g,H'[A]?=some (some g)→lens H' A=lens H2 (ρ A):=by
  intro A g hA
  rw[lens_of hA]
  rcases(hget A g hA).2 with⟨g1,_⟩|⟨c',g1,g2⟩
  ·rw[lens_of g1]
  ·rw[lens_of g1,g2.len]
 have hlenD:∀A,(A∈ms∨A∈p.map (·.1))→lens H' A=lens H2 (ρ A):=fun A h=>by
  obtain⟨b,hb⟩:=hkeyG A h
  exact hlen A b (hin _ hb)
 
 have hlive:∀A m,lens H A=some m→A ∉ ms∧∃g,H'[A]?=some (some g):=by
  intro A m hA
  obtain⟨g,h1,_⟩:=lens_live hA
  have hnm:A ∉ ms:=fun h=>hfree A ((hmem _).1 h).1 ((hmem _).1 h).2 g h1
  refine⟨hnm,?_⟩
  by_cases hx:∃b,(A,b)∈G ms
  ·obtain⟨b,hb⟩:=hx;exact⟨b,hin _ hb⟩
  ·exact⟨g,(hoth A (fun x hxm e=>hx ⟨x.2,by rw[←e];exact hxm⟩) g).2 h1⟩
 have hold:∀A,(∃m,lens H A=some m)→φ2 (ρ A)=φ2 A∧lens H' A=lens H2 A:=by
  rintro A ⟨m,hA⟩
  obtain⟨h1,g,h2⟩:=hlive A m hA
  exact⟨by rw[hρo A h1],by rw[hlen A g h2,hρo A h1]⟩
 refine⟨fun A=>φ2 (ρ A),v,fun A n hA=>?_,⟨hrel2.below,hrel2.b0,fun A g hA=>?_,fun A g hA hro=>?_,fun A A' g g' hA hro hA' he=>?_⟩,rfl,hV.val hlenD hv⟩
 ·obtain⟨n',g1,g2⟩:=hext A n hA
  obtain⟨q1,q2⟩:=hold A ⟨n,hA⟩
  refine⟨n',by rw[q2];exact g1,?_⟩
  show(n'=n∧φ2 (ρ A)=φ A)∨(n<n'∧((φ A).mp=true→φ2 (ρ A)=φ A))
  rw[q1];exact g2
 ·obtain⟨hlt,hc⟩:=hget A g hA
  rcases hc with⟨g1,g2,g3⟩|⟨c',g1,g2⟩
  ·obtain⟨o,c,k1,k2,k3,k5⟩:=(hrel2.blk _ _ g1).any
   obtain⟨o0,c0,_,_,_,j5⟩:=(hrel.blk _ _ g2).any
   refine⟨o,c,k1,k2,k3,fun j x hx=>?_⟩
   obtain⟨x',m1,m2⟩:=k5 j x hx
   obtain⟨x0,_,m3⟩:=j5 j x hx
   exact⟨x',m1,old_val (D:=fun B=>∃m,lens H B=some m) (fun B m h=>⟨m,h⟩) hold m2 m3⟩
  ·obtain⟨o,c,k1,k2,k3,k5⟩:=(hrel2.blk _ _ g1).any
   refine⟨o,c,k1,?_,by rw[g2.len];exact k3,fun j x hx=>?_⟩
   ·cases k2 with
    |cells hm hs hf=>exact .cells hm hs hf
    |map hm hb hl=>exact .map hm hb (by rw[g2.len];exact hl)
   obtain⟨y,m1,m2⟩:=g2.get hx
   obtain⟨x',m3,m4⟩:=k5 j y m1
   exact⟨x',m3,m2.val hlenD m4⟩
 ·rcases(hget A g hA).2 with⟨g1,_⟩|⟨c',g1,_⟩
  ·exact hrel2.own _ _ g1 hro
  ·exact hrel2.own _ _ g1 hro
 ·obtain⟨d1,hc⟩:=hget A g hA
  obtain⟨d2,hc'⟩:=hget A' g' hA'
  obtain⟨y,hy⟩:∃y,H2[ρ A']?=some (some y):=by rcases hc' with⟨g1,_⟩|⟨c',g1,_⟩ <;> exact⟨_,g1⟩
  refine hρinj A' A d2 d1 ?_
  rcases hc with⟨g1,_⟩|⟨c',g1,_⟩
  ·exact hrel2.inj _ _ _ _ g1 hro hy he
  ·exact hrel2.inj _ _ _ _ g1 hro hy he
theorem canon_in {p:SH}{H:Heap}(i:Inv ⟨H,p⟩ p H){k:Nat}{G:List Nat→SH}(hkeys:∀ns,ns.length=k→((G ns).map (·.1)).Perm (ns++p.map (·.1))) :
  (∀x∈G (List.range' H.length k),(canon H (G (List.range' H.length k)) k)[x.1]?=some (some x.2))∧((G (List.range' H.length k)).map (·.1)).Nodup∧(∀x∈G (List.range' H.length k),x.1<H.length+k)∧∀x∈G (List.range' H.length k),x.1<H.length→∃y∈p,y.1=x.1:=by
 generalize hms:List.range' H.length k=ms
 have hmk:ms.length=k:=by rw[←hms,List.length_range']
 have hmem:∀A,A∈ms↔H.length≤A∧A<H.length+k:=fun A=>by rw[←hms,List.mem_range'_1]
 have hpm:=hkeys ms hmk
 have hpold:∀y∈p,y.1<H.length:=fun y hy=>(List.getElem?_eq_some_iff.1 (i.sat y hy)).1
 have hmnd:((G ms).map (·.1)).Nodup:=by
  refine hpm.nodup_iff.2 (List.nodup_append.2 ⟨by rw[←hms];exact List.nodup_range',i.nd,?_⟩)
  rintro a ha b hb rfl
  obtain⟨y,hy,rfl⟩:=List.mem_map.1 hb
  have:=hpold y hy
  have:=(hmem _).1 ha
  omega
 have hall:∀x∈G ms,x.1<H.length+k:=by
  intro x hx
  rcases List.mem_append.1 (hpm.mem_iff.1 (List.mem_map.2 ⟨x,hx,rfl⟩))with h|h
  ·exact((hmem _).1 h).2
  ·obtain⟨y,hy,e⟩:=List.mem_map.1 h;have:=hpold y hy;omega
 refine⟨fun x hx=>?_,hmnd,hall,fun x hx hlt=>?_⟩
 ·rw[canon_get (hall x hx),look_of hmnd (show(x.1,x.2)∈G ms from hx)]
 ·rcases List.mem_append.1 (hpm.mem_iff.1 (List.mem_map.2 ⟨x,hx,rfl⟩))with h|h
  ·have:=((hmem _).1 h).1;omega
  ·obtain⟨y,hy,e⟩:=List.mem_map.1 h;exact⟨y,hy,e⟩
theorem canon_inv {E:Ent}{h p:SH}{H:Heap}(i0:Inv E h H)(ht:Take h p){k:Nat}{G:List Nat→SH}(hkeys:∀ns,ns.length=k→((G ns).map (·.1)).Perm (ns++p.map (·.1))) :
  Inv E (G (List.range' H.length k)) (canon H (G (List.range' H.length k)) k):=by
 have i:=i0.le ht.le
 obtain⟨h1,h2,h3,h4⟩:=canon_in i.refl hkeys
 refine⟨h1,h2,fun x hx hlt=>?_,by rw[canon_len];have:=i.len;omega,fun A hA hne=>?_⟩
 ·obtain⟨y,hy,e⟩:=h4 x hx (by have:=i.len;omega)
  obtain⟨z,hz,e2⟩:=i.own y hy (by omega)
  exact⟨z,hz,by omega⟩
 ·have hAl:A<H.length:=by have:=i.len;omega
  rw[canon_get (by omega)]
  cases hl:look (G (List.range' H.length k)) A with
  |some b =>
   obtain⟨y,hy,e⟩:=h4 _ (look_mem hl) hAl
   obtain⟨z,hz,e2⟩:=i.own y hy (by simp only at e;omega)
   exact absurd (by simp only at e;omega) (hne z hz)
  |none =>
   show some (H.getD A none)=_
   rw[List.getD_eq_getElem?_getD,List.getElem?_eq_getElem hAl,Option.getD_some,←List.getElem?_eq_getElem hAl]
   exact i.keep A hA hne
theorem rho_pick {p p1:SH}{ρ:Nat→Nat}{A:Nat}{b:Blk}(hρ:∀y∈p,ρ y.1=y.1)(h:Pick p A b p1):ρ A=A:=hρ _ h.mem
theorem dom_pick {p p1:SH}{D:Nat→Prop}{A:Nat}{b:Blk}(hD:∀y∈p,D y.1)(h:Pick p A b p1):D A:=hD _ h.mem
theorem VR.slc' {ρ:Nat→Nat}{D:Nat→Prop}{A A' o n len fl:Nat}(e:ρ A=A')(h:D A):VR ρ D (gsl A o n len fl) (gsl A' o n len fl):=by subst e;exact .slc h
theorem bytesV_const (l:List UInt8):∀v∈bytesV l,yJ v=true:=by
 intro v hv;unfold bytesV at hv;obtain⟨_,_,rfl⟩:=List.mem_map.1 hv;rfl
theorem map_const {α:Type}{f:α→Value}{l:List α}(h:∀x,yJ (f x)=true):∀v∈l.map f,yJ v=true:=by
 intro v hv;obtain⟨_,_,rfl⟩:=List.mem_map.1 hv;exact h _
section
variable {P:Program} {sz:Nat} {ops:Array Oper} {Q:SPost} {rest:List Oper} {a:AF} {h:SH} {t:Nat} {ty:TypeId} {pos:String} {aft:Array Edge}
theorem yW {x:Operand}{xs:List Operand}{ts:Array TypeId}{f:FuncId}{first captured:Array Value}{as0:List Value}{R:Value→SH→Prop}{i0:Nat}{last:SPast}{cl:SCl}{k:Nat}{V:List Nat→Value}{G:List Nat→SH}{p:SH}
  (hx:ev a x=some (.func (.func f) first captured)) (hxs:evs a xs=some as0) (hf:enters P f=true) (hN:Nat.blt t sz=true) (hr:SRun P f (first.toList++as0++captured.toList) p R) (ht:Take h p)
  (hfun:∀r q,R r q→∃ns,ns.length=k∧r=V ns∧Take q (G ns)) (hkeys:∀ns,ns.length=k→((G ns).map (·.1)).Perm (ns++p.map (·.1)))
  (hpar:∀(ns ms:List Nat) (ρ:Nat→Nat) (D:Nat→Prop),ns.length=k→ms.length=k→ms.map ρ=ns→(∀y∈p,ρ y.1=y.1)→(∀A∈ms,D A)→(∀y∈p,D y.1)→VR ρ D (V ms) (V ns)∧SHR ρ D p (G ms) (G ns))
  (hok:∀ms,ms.length=k→(Mode.draw i0 last cl).efOk ops (G ms)) (kk:∀ms,ms.length=k→GO ((Mode.draw i0 last cl).ef h) P sz ops Q rest ((t,V ms)::a) (G ms)) :
  GO (.draw i0 last cl) P sz ops Q (⟨some t,.call { callee:=.value x,args:=xs.toArray,argTypes:=ts },ty,pos,aft,none⟩::rest) a h:=by
 unfold GO
 intro E H n0 pH i ip
 have hk:(List.range' H.length k).length=k:=List.length_range'
 have kk':=kk _ hk
 unfold GO at kk'
 obtain⟨_,g⟩:=kk' E _ n0 ((true,i0,H,canon H (G (List.range' H.length k)) k)::pH) (canon_inv i ht hkeys) ⟨⟨rfl,rfl,i,fun h=>by cases h⟩,ip⟩
 refine⟨_,.eff k hN trivial canon_len (fun X a' hag hX=>⟨fun B0 w0 φ w ac hrel hfr=>?_⟩) (efOk_l ip (hok _ hk)) (efOk_cl (canon_inv i ht hkeys) (hok _ hk)) g⟩
 have hx':ev a' x=some (.func (.func f) first captured):=(hag.ev (by simp[Op.operands,Call.operands])).trans hx
 have hxs':evs a' xs=some as0:=(evs_congr fun y hy=>hag.ev (by simp[Op.operands,Call.operands,hy])).trans hxs
 have e1:=zW hfr hx'
 have e2:=evs_rel hfr hxs'
 refine .inr ?_
 generalize hu:ac.eval x=u at e1
 cases e1 with
 |func _ _ b _ d q1 q2 q3 q4 =>
  have hvr:=((VRel.of_arrays q1 q2).append e2).append (VRel.of_arrays q3 q4)
  obtain⟨c1,c2,c3,c4⟩:=canon_in (i.le ht.le).refl hkeys
  refine⟨f,b++(xs.map ac.eval).toArray++d,?_,call_at hr ((i.app X).le ht.le).refl hfun hkeys hpar (fun A h1 h2 g hg=>?_) (fun x hx=>?_) (fun A hA g=>?_) hrel hvr⟩
  rotate_left
  ·have:=hX (A-H.length) (by omega)
   rw[List.getElem?_append_right h1,this]at hg;cases hg
  ·rw[List.getElem?_append_left (by rw[canon_len];exact c3 x hx)];exact c1 x hx
  ·rcases Nat.lt_or_ge A (H.length+k)with hl|hl
   ·rw[List.getElem?_append_left (by rw[canon_len];exact hl),canon_get hl]
    have hlk:look (G (List.range' H.length k)) A=none:=by
     cases hq:look (G (List.range' H.length k)) A with
     |none=>rfl
     |some b=>exact absurd rfl (hA _ (look_mem hq))
    rw[hlk]
    rcases Nat.lt_or_ge A H.length with hl2|hl2
    ·rw[List.getElem?_append_left hl2]
     show some (H.getD A none)=_↔_
     rw[List.getD_eq_getElem?_getD,List.getElem?_eq_getElem hl2];rfl
    ·rw[List.getElem?_append_right hl2,hX (A-H.length) (by omega)]
     show some (H.getD A none)=_↔_
     rw[List.getD_eq_getElem?_getD,List.getElem?_eq_none hl2];rfl
   ·rw[List.getElem?_append_right (by rw[canon_len];exact hl),canon_len,List.getElem?_drop,List.getElem?_append_right (by omega),show k+(A-(H.length+k))=A-H.length by omega]
  unfold execOp
  simp only[resolve,List.map_toArray,hu,Deferred.ofValue,Sem.run_bind,Sem.run_pure,Result.andThen_ok,invoke]
  exact run_callFunc_enters hf _ w
theorem o_callE0 {x:Operand}{xs:List Operand}{ts:Array TypeId}{f:FuncId}{first captured:Array Value}{as0:List Value}{v:Value}{g:SH}{i0:Nat}{last:SPast}{cl:SCl}{p:SH}
  (hx:ev a x=some (.func (.func f) first captured)) (hxs:evs a xs=some as0) (hf:enters P f=true) (hN:Nat.blt t sz=true) (hr:SRun P f (first.toList++as0++captured.toList) p (fun r q=>r=v∧q=g)∧Take h p)
  (hkeys:(g.map (·.1)).Perm (p.map (·.1))) (hpar:∀(ρ:Nat→Nat) (D:Nat→Prop),(∀y∈p,ρ y.1=y.1)→(∀y∈p,D y.1)→VR ρ D v v∧SHR ρ D p g g)
  (hok:(Mode.draw i0 last cl).efOk ops g) (kk:GO ((Mode.draw i0 last cl).ef h) P sz ops Q rest ((t,v)::a) g) :
  GO (.draw i0 last cl) P sz ops Q (⟨some t,.call { callee:=.value x,args:=xs.toArray,argTypes:=ts },ty,pos,aft,none⟩::rest) a h :=
 yW (k:=0) (V:=fun _=>v) (G:=fun _=>g) hx hxs hf hN hr.1 hr.2 (fun r q ⟨h1,h2⟩=>⟨[],rfl,h1,h2▸.nil⟩) (fun ns h=>by rw[List.length_eq_zero_iff.1 h];exact hkeys)
  (fun _ _ ρ D _ _ _ h1 _ h2=>hpar ρ D h1 h2) (fun _ _=>hok) (fun _ _=>kk)
theorem yV {x:Operand}{xs:List Operand}{ts:Array TypeId}{f:FuncId}{first captured:Array Value}{as0:List Value}{v:Nat→Value}{g:Nat→SH}{i0:Nat}{last:SPast}{cl:SCl}{p:SH}
  (hx:ev a x=some (.func (.func f) first captured)) (hxs:evs a xs=some as0) (hf:enters P f=true) (hN:Nat.blt t sz=true) (hr:SRun P f (first.toList++as0++captured.toList) p (fun r q=>∃A,r=v A∧q=g A)∧Take h p)
  (hkeys:∀A,((g A).map (·.1)).Perm (A::p.map (·.1))) (hpar:∀(A A':Nat) (ρ:Nat→Nat) (D:Nat→Prop),ρ A=A'→D A→(∀y∈p,ρ y.1=y.1)→(∀y∈p,D y.1)→VR ρ D (v A) (v A')∧SHR ρ D p (g A) (g A'))
  (hok:∀A,(Mode.draw i0 last cl).efOk ops (g A)) (kk:∀A,GO ((Mode.draw i0 last cl).ef h) P sz ops Q rest ((t,v A)::a) (g A)) :
  GO (.draw i0 last cl) P sz ops Q (⟨some t,.call { callee:=.value x,args:=xs.toArray,argTypes:=ts },ty,pos,aft,none⟩::rest) a h:=by
 have one:∀{ns:List Nat},ns.length=1→∃A,ns=[A]:=fun {ns} h=>by
  match ns,h with
  |[A],_=>exact⟨A,rfl⟩
 refine yW (k:=1) (V:=fun ns=>v ns.head!) (G:=fun ns=>g ns.head!) hx hxs hf hN hr.1 hr.2 (fun r q ⟨A,h1,h2⟩=>⟨[A],rfl,h1,h2▸.nil⟩) (fun ns h=>?_) (fun ns ms ρ D h1 h2 h3 h4 h5 h6=>?_) (fun ms h=>?_) (fun ms h=>?_)
 ·obtain⟨A,rfl⟩:=one h;exact hkeys A
 ·obtain⟨A,rfl⟩:=one h1;obtain⟨B,rfl⟩:=one h2
  simp only[List.map_cons,List.map_nil,List.cons.injEq,and_true]at h3
  exact hpar B A ρ D h3 (h5 B (by simp)) h4 h6
 ·obtain⟨A,rfl⟩:=one h;exact hok A
 ·obtain⟨A,rfl⟩:=one h;exact kk A
end
end Go.Gh
end
section
set_option maxRecDepth 4000
namespace Go.Gh
open Go.RowKit Go.MapKept

section
variable {α:Type}
def mapC (kf:α→Value)(l:List (α × Value)):List Value:=l.flatMap fun e=>[kf e.1,e.2]
def mget [DecidableEq α]:List (α × Value)→α→Option Value
 |[],_=>none
 |e::r,a=>if e.1=a then some e.2 else mget r a
def mput [DecidableEq α]:List (α × Value)→α→Value→List (α × Value)
 |[],a,x=>[(a,x)]
 |e::r,a,x=>if e.1=a then(a,x)::r else e::mput r a x
theorem mput_len [DecidableEq α]:∀(l:List (α × Value)) (a:α) (x:Value),(mput l a x).length=l.length+(if mget l a=none then 1 else 0)
 |[],_,_=>rfl
 |e::r,a,x=>by
  unfold mput mget
  split
  ·simp
  ·have:=mput_len r a x;simp only[List.length_cons];omega
theorem mapC_len (kf:α→Value):∀l:List (α × Value),(mapC kf l).length=2*l.length
 |[]=>rfl
 |e::r=>by have:=mapC_len kf r;simp only[mapC,List.flatMap_cons,List.length_append,List.length_cons,List.length_nil]at this ⊢;omega
structure KeyF (d:TypeDesc)(kf:α→Value):Prop where
 is:∀a,IsKey d (kf a)
 inj:∀a b,kf a=kf b→a=b
 sc:∀a,scalar (kf a)=true
theorem keyS :KeyF .string (fun l:List UInt8=>S l):=⟨fun _=>trivial,fun a b h=>by injection h with h;injection h with h;injection h,fun _=>rfl⟩
theorem keyI :KeyF (.int .i64) (fun n:Int=>I n):=⟨fun _=>rfl,fun a b h=>by injection h,fun _=>rfl⟩
inductive EntR (φ:Nat→Loc)(L:Lens)(kf:α→Value):List (α × Value)→List MapEntry→Prop
 |nil:EntR φ L kf [] []
 |cons {a:α} {v:Value} {e:MapEntry} {l es} (hk:e.key=kf a) (hv:Val φ L v e.val) (r:EntR φ L kf l es):EntR φ L kf ((a,v)::l) (e::es)
theorem EntR.len {φ:Nat→Loc}{L:Lens}{kf:α→Value}{l:List (α × Value)}{es:List MapEntry}(h:EntR φ L kf l es):es.length=l.length:=by
 induction h with
 |nil=>rfl
 |cons _ _ _ ih=>simp[ih]
theorem EntR.keys {φ:Nat→Loc}{L:Lens}{kf:α→Value}{d:TypeDesc}(K:KeyF d kf){l:List (α × Value)}{es:List MapEntry}(h:EntR φ L kf l es):∀x∈es,IsKey d x.key:=by
 induction h with
 |nil=>intro x hx;cases hx
 |cons hk _ _ ih =>
  intro x hx
  rcases List.mem_cons.1 hx with rfl|hx
  ·rw[hk];exact K.is _
  ·exact ih x hx
theorem EntR.mono {φ φ':Nat→Loc}{L L':Lens}(e:Ext φ L φ' L'){kf:α→Value}{l:List (α × Value)}{es:List MapEntry}(h:EntR φ L kf l es):EntR φ' L' kf l es:=by
 induction h with
 |nil=>exact .nil
 |cons hk hv _ ih=>exact .cons hk (hv.mono e) ih
theorem EntR.row {φ:Nat→Loc}{L:Lens}{kf:α→Value}{d:TypeDesc}(K:KeyF d kf){l:List (α × Value)}{es:List MapEntry}(h:EntR φ L kf l es) :
  ∀(i:Nat) v,(mapC kf l)[i]?=some v→∃v',(flat es)[i]?=some v'∧Val φ L v v':=by
 induction h with
 |nil=>intro i v hi;simp[mapC]at hi
 |@cons a v e l es hk hv _ ih =>
  intro i u hi
  have e1:mapC kf ((a,v)::l)=kf a::v::mapC kf l:=rfl
  have e2:flat (e::es)=e.key::e.val::flat es:=rfl
  rw[e1]at hi;rw[e2]
  match i,hi with
  |0,hi =>
   simp only[List.getElem?_cons_zero,Option.some.injEq]at hi
   subst hi
   refine⟨e.key,rfl,?_⟩
   rw[hk]
   have hs:=K.sc a
   cases hx:kf a with
   |bool b=>exact .bool b
   |int k n=>exact .int k n
   |string s=>exact .str s
   |_=>rw[hx]at hs;cases hs
  |1,hi=>simp only[List.getElem?_cons_succ,List.getElem?_cons_zero,Option.some.injEq]at hi;subst hi;exact⟨e.val,rfl,hv⟩
  |i+2,hi=>exact ih i u (by simpa using hi)
theorem ent_of {φ:Nat→Loc}{L:Lens}{kf:α→Value}{d:TypeDesc}(K:KeyF d kf):∀{l:List (α × Value)} {es:List MapEntry},es.length=l.length →
  (∀(i:Nat) v,(mapC kf l)[i]?=some v→∃v',(flat es)[i]?=some v'∧Val φ L v v')→EntR φ L kf l es
 |[],[],_,_=>.nil
 |[],_::_,h,_=>by simp at h
 |_::_,[],h,_=>by simp at h
 |(a,v)::l,e::es,h,hr=>by
  have e1:mapC kf ((a,v)::l)=kf a::v::mapC kf l:=rfl
  have e2:flat (e::es)=e.key::e.val::flat es:=rfl
  rw[e1,e2]at hr
  obtain⟨k',h1,h2⟩:=hr 0 (kf a) rfl
  obtain⟨v',h3,h4⟩:=hr 1 v rfl
  simp only[List.getElem?_cons_zero,List.getElem?_cons_succ,Option.some.injEq]at h1 h3
  subst h1 h3
  exact .cons (h2.scalar (K.sc a)) h4 (ent_of K (by simpa using h) fun i u hu=>by
   obtain⟨u',g1,g2⟩:=hr (i+2) u (by simpa using hu)
   exact⟨u',by simpa using g1,g2⟩)
theorem EntR.find [DecidableEq α]{φ:Nat→Loc}{L:Lens}{kf:α→Value}{d:TypeDesc}(K:KeyF d kf)(a:α){l:List (α × Value)}{es:List MapEntry}(h:EntR φ L kf l es):∀i:Nat,
  (Instr.findNow d (kf a) es i=some none∧mget l a=none)∨∃j e v,Instr.findNow d (kf a) es i=some (some (i+j,e.val))∧es[j]?=some e∧e.key=kf a∧mget l a=some v∧Val φ L v e.val:=by
 induction h with
 |nil=>intro i;exact .inl ⟨rfl,rfl⟩
 |@cons b v e l es hk hv _ ih =>
  intro i
  obtain⟨r,hr,hiff⟩:=sameNow_of_keys (K.is a) (hk▸K.is b:IsKey d e.key)
  cases r with
  |true =>
   have:b=a:=(K.inj _ _ ((hiff.1 rfl).trans hk)).symm
   subst this
   exact .inr ⟨0,e,v,by simp[Instr.findNow,hr],rfl,hk,by simp[mget],hv⟩
  |false =>
   have hne:b≠a:=fun q=>by have:=hiff.2 (by rw[hk,q]);cases this
   rcases ih (i+1)with⟨h1,h2⟩|⟨j,e',v',h1,h2,h3,h4,h5⟩
   ·exact .inl ⟨by simp[Instr.findNow,hr,h1],by simp[mget,hne,h2]⟩
   ·exact .inr ⟨j+1,e',v',by simp[Instr.findNow,hr,h1];omega,by simpa using h2,h3,by simp[mget,hne,h4],h5⟩
theorem EntR.push [DecidableEq α]{φ:Nat→Loc}{L:Lens}{kf:α→Value}(a:α){x x':Value}(hx:Val φ L x x')(cl:Nat){l:List (α × Value)}{es:List MapEntry}(h:EntR φ L kf l es)(hn:mget l a=none):EntR φ L kf (mput l a x) (es++[⟨kf a,x',cl⟩]):=by
 induction h with
 |nil=>exact .cons rfl hx .nil
 |@cons b v e l es hk hv _ ih =>
  unfold mget at hn
  split at hn
  ·cases hn
  ·rename_i hne
   unfold mput
   rw[if_neg hne]
   exact .cons hk hv (ih hn)
theorem EntR.modify [DecidableEq α]{φ:Nat→Loc}{L:Lens}{kf:α→Value}{d:TypeDesc}(K:KeyF d kf)(a:α){x x':Value}(hx:Val φ L x x'){l:List (α × Value)}{es:List MapEntry}(h:EntR φ L kf l es) :
  ∀(j:Nat) (i:Nat) (y:Value),Instr.findNow d (kf a) es i=some (some (i+j,y))→EntR φ L kf (mput l a x) (es.modify j fun e=>{ e with key:=kf a,val:=x' }):=by
 induction h with
 |nil=>intro j i y hf;cases hf
 |@cons b v e l es hk hv hr' ih =>
  intro j i y hf
  obtain⟨r,hr,hiff⟩:=sameNow_of_keys (K.is a) (hk▸K.is b:IsKey d e.key)
  cases r with
  |true =>
   have:b=a:=(K.inj _ _ ((hiff.1 rfl).trans hk)).symm
   subst this
   simp only[Instr.findNow,hr,Option.some.injEq,Prod.mk.injEq]at hf
   obtain rfl:j=0:=by omega
   unfold mput
   rw[if_pos rfl]
   exact .cons rfl hx hr'
  |false =>
   have hne:b≠a:=fun q=>by have:=hiff.2 (by rw[hk,q]);cases this
   simp only[Instr.findNow,hr]at hf
   have hj:j≠0:=fun h0=>by
    subst h0
    rcases findNow_spec (K.is a) es (i+1) (hr'.keys K)with⟨h1,_⟩|⟨q,e',h1,_⟩
    ·rw[h1]at hf;cases hf
    ·rw[h1]at hf;simp only[Option.some.injEq,Prod.mk.injEq]at hf;omega
   obtain⟨j,rfl⟩:∃m,j=m+1:=⟨j-1,by omega⟩
   unfold mput
   rw[if_neg hne]
   exact .cons hk hv (ih j (i+1) y (by rw[hf];congr 3;omega))
end
section
variable {P:Program} {N:Fr} {o:Oper} {a:AF} {H:Heap} {α:Type}
theorem map_obj {B0:Nat}{w0:World}{φ:Nat→Loc}{w:World}(r:Rel B0 w0 φ H w){A:Nat}{kf:α→Value}{d:TypeDesc}(K:KeyF d kf){l:List (α × Value)}{ro:Bool}(hA:H[A]?=some (some ⟨mapC kf l,ro⟩))
  {u:Value} (hu:Val φ (lens H) (.map (some A)) u):u=.map (some (φ A).b)∧(φ A).mp=true∧(φ A).base=0∧∃es clock,w.heap[(φ A).b]?=some (.map es clock)∧EntR φ (lens H) kf l es.toList:=by
 cases hu with
 |map _ n q hL h =>
  obtain⟨o,c,h1,h2,h3,h4⟩:=(r.blk A _ hA).any
  refine⟨by rw[h.2],h.1,?_⟩
  cases h2 with
  |cells hm=>rw[h.1]at hm;cases hm
  |map hm hb hl =>
   refine⟨hb,_,_,h1,ent_of K ?_ fun i v hi=>?_⟩
   ·have:=mapC_len kf l;simp only at hl;simp;omega
   ·obtain⟨v',g1,g2⟩:=h4 i v hi
    rw[hb,Nat.zero_add]at g1
    exact⟨v',by simpa using g1,g2⟩
theorem e_makeMap (T:TypeId)(ho:o.op=.makeMap T none){A0:Nat}{H':Heap}(hpl:Place H A0 H' ⟨[],false⟩):AEff P N o a H (.map (some A0)) H':=by
 refine eff_value (fun B0 w0 φ w ac r hf=>?_)
 obtain⟨h1,h2⟩:=rel_newO (w':=w.alloc (.map #[] 0)) (l0:=⟨w.heap.size,0,0,true⟩) r hpl rfl rfl rfl rfl rfl rfl fun hext=>by
  refine⟨.map #[] 0,_,?_,.map (es:=#[]) (clock:=0) rfl rfl rfl,by simp,fun i v hi=>by simp at hi⟩
  exact(heap_alloc w _).1
 refine⟨_,.map (some w.heap.size),_,h1,h2,?_,?_⟩
 ·exact .map _ 0 _ hpl.lens (by rw[yK];exact⟨rfl,rfl⟩)
 ·unfold execOp
  simp only[ho,Option.map_none,Instr.makeMap,Sem.run_bind,Sem.run_pure,Result.andThen_ok]
  simp[run_newObj]
theorem a_lookup [DecidableEq α](T:TypeId)(x k:Operand){A K E s b:Nat}{d:TypeDesc}{kf:α→Value}{l:List (α × Value)}{ro:Bool}{z:Value}{c:α}(ho:o.op=.lookup T x k false)(hx:ev a x=some (.map (some A)))(hk:ev a k=some (kf c))
  (hA:H[A]?=some (some ⟨mapC kf l,ro⟩)) (hT:P.underlying T=some (.map K E)) (hK:P.underlying K=some d) (KF:KeyF d kf) (hI:tinf P E=some (some z,s,b)) (hz:yJ z=true):APure P N o a H ((mget l c).getD z):=by
 refine⟨fun B0 w0 φ w ac r hf=>?_⟩
 obtain⟨h1,_,_,es,cl,h2,h3⟩:=map_obj r KF hA (zW hf hx)
 have h4:=(zW hf hk).scalar (KF.sc c)
 rcases h3.find KF c 0 with⟨g1,g2⟩|⟨j,e,v,g1,g2,g3,g4,g5⟩
 ·refine⟨z,by rw[g2];exact Val.const hz,fun w1 hb=>?_⟩
  have h2':w1.heap[(φ A).b]?=some (.map es cl):=by rw[hb.block _ (r.lt hA)];exact h2
  unfold execOp
  simp only[ho,h1,h4,Instr.lookup,Sem.run_bind,run_underlying hT,Result.andThen_ok,MapKept.run_getObj_map h2',Sem.run_pure,run_checkKey hK (KF.is c),run_findKey hK g1,run_zeroValue hI,Bool.false_eq_true,if_false]
 ·refine⟨e.val,by rw[g4];exact g5,fun w1 hb=>?_⟩
  have h2':w1.heap[(φ A).b]?=some (.map es cl):=by rw[hb.block _ (r.lt hA)];exact h2
  unfold execOp
  simp only[ho,h1,h4,Instr.lookup,Sem.run_bind,run_underlying hT,Result.andThen_ok,MapKept.run_getObj_map h2',Sem.run_pure,run_checkKey hK (KF.is c),run_findKey hK g1,Bool.false_eq_true,if_false]
theorem e_mapUpdate [DecidableEq α](T:TypeId)(x k y:Operand){A K E:Nat}{d:TypeDesc}{kf:α→Value}{l:List (α × Value)}{c:α}{v:Value}(ho:o.op=.mapUpdate T x k y)(hx:ev a x=some (.map (some A)))(hk:ev a k=some (kf c))(hy:ev a y=some v)
  (hA:H[A]?=some (some ⟨mapC kf l,false⟩)) (hT:P.underlying T=some (.map K E)) (hK:P.underlying K=some d) (KF:KeyF d kf):AEff P N o a H undef (H.set A (some ⟨mapC kf (mput l c v),false⟩)):=by
 refine eff_unit (fun B0 w0 φ w ac r hf=>?_)
 obtain⟨h1,hmp,hbase,es,cl,h2,h3⟩:=map_obj r KF hA (zW hf hx)
 have h4:=(zW hf hk).scalar (KF.sc c)
 have h5:=zW hf hy
 generalize hvv:ac.eval y=v' at h5
 have hupd:upd φ A (φ A)=φ:=by funext B;unfold upd;split <;> simp_all
 have hlt:=r.lt hA
 have key:∀(es':Array MapEntry) (cl':Nat),EntR φ (lens H) kf (mput l c v) es'.toList →
   ∃φ',Ext φ (lens H) φ' (lens (H.set A (some ⟨mapC kf (mput l c v),false⟩)))∧Rel B0 w0 φ' (H.set A (some ⟨mapC kf (mput l c v),false⟩)) { w with heap:=w.heap.setIfInBounds (φ A).b (.map es' cl') }:=fun es' cl' he=>by
  obtain⟨g1,g2⟩:=rel_setO (w':={ w with heap:=w.heap.setIfInBounds (φ A).b (.map es' cl') }) (g':=⟨mapC kf (mput l c v),false⟩) (l':=φ A) r hA rfl rfl rfl rfl (by simp) (fun q _ hq=>(heap_set h2).2 q hq) (.inl rfl) hbase
   (by
    have h6:=mapC_len kf l
    have h7:=mapC_len kf (mput l c v)
    have h8:=mput_len l c v
    by_cases hn:mget l c=none
    ·rw[if_pos hn]at h8;exact .inr ⟨by simp only;omega,fun _=>rfl⟩
    ·rw[if_neg hn]at h8;exact .inl ⟨by simp only;omega,rfl⟩)
   (fun hext=>by
    rw[hupd]at hext ⊢
    have he':=he.mono hext
    refine⟨_,_,(heap_set h2).1,.map hmp hbase ?_,?_,fun i u hi=>?_⟩
    ·have h6:=mapC_len kf (mput l c v);have:=he.len;simp at this;(first|omega|(simp only;omega))
    ·have h6:=mapC_len kf (mput l c v);have:=he.len;rw[hbase];simp only[List.size_toArray,flat_len];(first|omega|(simp only;omega))
    ·obtain⟨u',k1,k2⟩:=he'.row KF i u hi
     exact⟨u',by rw[hbase,Nat.zero_add];simpa using k1,k2⟩)
  exact⟨_,g1,g2⟩
 rcases h3.find KF c 0 with⟨g1,g2⟩|⟨j,e,u,g1,g2,g3,g4,g5⟩
 ·obtain⟨φ',k1,k2⟩:=key (es.push { key:=kf c,val:=v',born:=cl }) (cl+1) (by simpa using h3.push c h5 cl g2)
  refine⟨φ',_,k1,k2,?_⟩
  unfold execOp
  simp only[ho,h1,h4,hvv,Instr.mapUpdate,Sem.run_bind,run_underlying hT,Result.andThen_ok,MapKept.run_getObj_map h2,Sem.run_pure,run_checkKey hK (KF.is c),run_findKey hK g1,MapKept.run_setObj_map _ h2]
 ·have hj:es[j]?=some e:=by simpa using g2
  rw[Nat.zero_add]at g1
  have g1':Instr.findNow d (kf c) es.toList 0=some (some (0+j,e.val)):=by rw[Nat.zero_add];exact g1
  obtain⟨φ',k1,k2⟩:=key (es.modify j fun e=>{ e with key:=kf c,val:=v' }) cl (by
   have:=h3.modify KF c h5 j 0 _ g1'
   simpa using this)
  refine⟨φ',_,k1,k2,?_⟩
  unfold execOp
  simp only[ho,h1,h4,hvv,Instr.mapUpdate,Sem.run_bind,run_underlying hT,Result.andThen_ok,MapKept.run_getObj_map h2,Sem.run_pure,run_checkKey hK (KF.is c),run_findKey hK g1,hj,Option.map_some,Option.getD_some,g3,run_keyThatStays (KF.is c),MapKept.run_setObj_map _ h2]
theorem a_slice3f (T:TypeId)(x hi mx:Operand){A off n len fl E s b:Nat}{z:Option Value}{j k:IntKind}{h:Int}(ho:o.op=.slice T x none (some hi) (some mx))(hx:ev a x=some (gsl A off n len fl))
  (hhi:ev a hi=some (.int j h)) (hmx:ev a mx=some (.int k h)) (hT:P.underlying T=some (.slice E)) (hI:tinf P E=some (z,s,b)) (h1:0≤h∧h≤len):APure P N o a H (.slice (some ⟨A,off,none⟩) h.toNat (n+1)):=by
 refine⟨fun B0 w0 φ w ac r hf=>?_⟩
 have hu:=zW hf hx
 have e2:=(zW hf hhi).scalar rfl
 have e3:=(zW hf hmx).scalar rfl
 generalize hv:ac.eval x=u at hu
 cases hu with
 |slc _ _ _ m _ _ cap c hL hle hc hm hh =>
  refine⟨.slice (some c) h.toNat h.toNat,.full _ _ _ m _ _ hL hle (by omega) (fun e=>⟨(hh e).1,(hh e).2.2⟩),fun w _=>?_⟩
  unfold execOp
  simp only[ho,hv,e2,e3,Instr.sliceAt,Instr.slice,Option.map_some,Option.map_none,Sem.run_bind,run_underlying hT,Result.andThen_ok,Instr.sliceBounds,Instr.sliceBound,asIntOf,Sem.run_pure,
   Sem.run_ite,if_pos (show 0≤h∧h≤(cap:Int)from⟨by omega,by omega⟩),if_pos (show 0≤h∧h≤(h.toNat:Int)from⟨by omega,by omega⟩),run_sizeOf hI,Nat.zero_mul]
  simp[Addr.add]
theorem a_slice3 (T:TypeId)(x lo hi mx:Operand){A off n len fl E s b:Nat}{z:Option Value}{i' j k:IntKind}{i h:Int}(ho:o.op=.slice T x (some lo) (some hi) (some mx))(hx:ev a x=some (gsl A off n len fl))
  (hlo:ev a lo=some (.int i' i)) (hhi:ev a hi=some (.int j h)) (hmx:ev a mx=some (.int k h)) (hT:P.underlying T=some (.slice E)) (hI:tinf P E=some (z,s,b)) (h1:0≤i∧i≤h∧h≤len) (h2:i<h):APure P N o a H (gsl A (off+i.toNat*s) n (h-i).toNat 0):=by
 refine⟨fun B0 w0 φ w ac r hf=>?_⟩
 have hu:=zW hf hx
 have e1:=(zW hf hlo).scalar rfl
 have e2:=(zW hf hhi).scalar rfl
 have e3:=(zW hf hmx).scalar rfl
 generalize hv:ac.eval x=u at hu
 cases hu with
 |slc _ _ _ m _ _ cap c hL hle hc hm hh =>
  refine⟨.slice (some (c.add (i.toNat*s))) (h.toNat-i.toNat) (h.toNat-i.toNat),?_,fun w _=>?_⟩
  ·rw[show h.toNat-i.toNat=(h-i).toNat from by omega]
   exact .slc _ _ _ m _ _ _ _ hL hle (by omega) (by omega) (fun e=>⟨by rw[(hh e).1,addr_add,Nat.add_assoc],fun q=>absurd rfl q,(hh e).2.2⟩)
  ·unfold execOp
   simp only[ho,hv,e1,e2,e3,Instr.sliceAt,Instr.slice,Option.map_some,Sem.run_bind,run_underlying hT,Result.andThen_ok,Instr.sliceBounds,Instr.sliceBound,asIntOf,Sem.run_pure,
    Sem.run_ite,if_pos (show 0≤h∧h≤(cap:Int)from⟨by omega,by omega⟩),if_pos (show 0≤h∧h≤(h.toNat:Int)from⟨by omega,by omega⟩),if_pos (show 0≤i∧i≤(h.toNat:Int)from⟨by omega,by omega⟩),run_sizeOf hI]
   rw[if_neg (by omega)]
end
section
variable {P:Program} {tt:TT} {sz:Nat} {ops:Array Oper} {Q:SPost} {rest:List Oper} {a:AF} {h h' h1 h2:SH} {m:Mode} {t:Nat} {op:Op} {ty:TypeId} {pos:String} {aft:Array Edge} {p:Prop} {v:Value} {α:Type}
theorem o_makeMap {T:Nat}(hN:Nat.blt t sz=true)(k:∀A,GO (m.nw h (A,⟨[],false⟩)) P sz ops Q rest ((t,.map (some A))::a) ((A,⟨[],false⟩)::h)):GO m P sz ops Q (⟨some t,.makeMap T none,ty,pos,aft,none⟩::rest) a h :=
 o_new (v:=fun A=>.map (some A)) hN (fun _ _ _ _ _ hpl _=>e_makeMap T rfl hpl) k
theorem o_lookup [DecidableEq α]{T:Nat}{x y:Operand}{A K E s b:Nat}{tk:TK}{d:TypeDesc}{kf:α→Value}{l:List (α × Value)}{ro:Bool}{z:Value}{c:α}(ht:tt.Ok P)(hx:ev a x=some (.map (some A)))(hp:Pick h A ⟨mapC kf l,ro⟩ h1)(hk:ev a y=some (kf c))
  (hT:P.underlying T=some (.map K E)) (hK:P.underlying K=some d) (KF:KeyF d kf) (hE:tt.get E=some ⟨tk,s,b,some z⟩) (hz:yJ z=true) (hr:(mget l c).getD z=v) (hN:Nat.blt t sz=true)
  (k:GO .seq P sz ops Q rest ((t,v)::a) h):GO .seq P sz ops Q (⟨some t,.lookup T x y false,ty,pos,aft,none⟩::rest) a h:=by
 obtain⟨_,hI,hz'⟩:=te_inf (TT.get_ok ht hE)
 subst hr
 exact o_read (m:=.seq) (fun h'=>∃h1,Pick h' A ⟨mapC kf l,ro⟩ h1) ⟨_,hp⟩ (fun _ _ _ _ _ i ⟨_,hp⟩ hag=>a_lookup T x y rfl ((hag.ev (by simp[Op.operands,Call.operands])).trans hx) ((hag.ev (by simp[Op.operands,Call.operands])).trans hk) (i.look hp) hT hK KF (hz' _ rfl▸hI) hz) hN trivial k
theorem o_mapUpdate [DecidableEq α]{T:Nat}{x y z:Operand}{A K E:Nat}{d:TypeDesc}{kf:α→Value}{l:List (α × Value)}{c:α}(hx:ev a x=some (.map (some A)))(hu:Upd h A ⟨mapC kf l,false⟩ ⟨mapC kf (mput l c v),false⟩ h')(hk:ev a y=some (kf c))(hv:ev a z=some v)
  (hT:P.underlying T=some (.map K E)) (hK:P.underlying K=some d) (KF:KeyF d kf) (k:GO .seq P sz ops Q rest a h'):GO .seq P sz ops Q (⟨none,.mapUpdate T x y z,ty,pos,aft,none⟩::rest) a h :=
 o_upd (m:=.seq) rfl hu (fun _ _ _ hA hag=>e_mapUpdate T x y z rfl ((hag.ev (by simp[Op.operands,Call.operands])).trans hx) ((hag.ev (by simp[Op.operands,Call.operands])).trans hk) ((hag.ev (by simp[Op.operands,Call.operands])).trans hv) hA hT hK KF) trivial k
theorem o_slice3f {T:Nat}{x y z:Operand}{A off n len fl E s1 b1:Nat}{z1:Option Value}{j kk:IntKind}{i:Int}{e:TE}(ht:tt.Ok P)(hx:ev a x=some (gsl A off n len fl))(hy:ev a y=some (.int j i))(hz:ev a z=some (.int kk i))(hT:tt.get T=some ⟨.slice E,s1,b1,z1⟩)(hE:tt.get E=some e)
  (hi:Sd (0≤i∧i≤len)) (hN:Nat.blt t sz=true) (k:GO m.next P sz ops Q rest ((t,.slice (some ⟨A,off,none⟩) i.toNat (n+1))::a) h):GO m P sz ops Q (⟨some t,.slice T x none (some y) (some z),ty,pos,aft,none⟩::rest) a h :=
 o_pure (fun _ _ _ hag=>let ⟨_,hI,_⟩:=te_inf (TT.get_ok ht hE);a_slice3f T x y z rfl ((hag.ev (by simp[Op.operands,Call.operands])).trans hx) ((hag.ev (by simp[Op.operands,Call.operands])).trans hy) ((hag.ev (by simp[Op.operands,Call.operands])).trans hz) (te_slice (TT.get_ok ht hT) rfl) hI hi.1) hN k
theorem o_slice3 {T:Nat}{x w y z:Operand}{A off n len fl E s1 b1 s b:Nat}{z1 z2:Option Value}{i' j kk:IntKind}{lo i:Int}{tk:TK}(ht:tt.Ok P)(hx:ev a x=some (gsl A off n len fl))(hw:ev a w=some (.int i' lo))(hy:ev a y=some (.int j i))(hz:ev a z=some (.int kk i))(hT:tt.get T=some ⟨.slice E,s1,b1,z1⟩)(hE:tt.get E=some ⟨tk,s,b,z2⟩)
  (hi:Sd ((0≤lo∧lo≤i∧i≤len)∧lo<i)) (hN:Nat.blt t sz=true) (k:GO m.next P sz ops Q rest ((t,gsl A (off+lo.toNat*s) n (i-lo).toNat 0)::a) h):GO m P sz ops Q (⟨some t,.slice T x (some w) (some y) (some z),ty,pos,aft,none⟩::rest) a h :=
 o_pure (fun _ _ _ hag=>let ⟨_,hI,_⟩:=te_inf (TT.get_ok ht hE);a_slice3 T x w y z rfl ((hag.ev (by simp[Op.operands,Call.operands])).trans hx) ((hag.ev (by simp[Op.operands,Call.operands])).trans hw) ((hag.ev (by simp[Op.operands,Call.operands])).trans hy) ((hag.ev (by simp[Op.operands,Call.operands])).trans hz) (te_slice (TT.get_ok ht hT) rfl) hI hi.1.1 hi.1.2) hN k
end
end Go.Gh
end
section
set_option maxRecDepth 4000
namespace Go.Proofs.YteddogfolceahaaGreat
open Go.Gh Go.RowKit

abbrev iV (z:Int):Value:=I z
abbrev trF (x:Int × Value):List Value:=[I x.1,x.2]
theorem trW :∀x:Int × Value,(trF x).length=2:=fun _=>rfl
def trR (N M K b:Nat)(i:Nat):Int × Value:=((b:Int),gsl N (i*K) M K 0)
theorem shl_nat {m b M:Nat}(hm:m*2^b=M)(hb:b≤8)(hM:M≤100000):IntKind.i64.wrap ((m:Int)*2^(min ((b:Int)).toNat IntKind.i64.bits))=((M:Nat):Int):=by
 have h64:IntKind.i64.bits=64:=rfl
 rw[Int.toNat_natCast,h64,Nat.min_eq_left (by omega),←hm]
 have e:((m*2^b:Nat):Int)=(m:Int)*2^b:=by rw[Int.natCast_mul,Int.natCast_pow];rfl
 rw[←e]
 exact IntWalk.i64_in _ (by omega)
theorem rep_of {α:Type}[Inhabited α]{l:List α}{x:α}{n:Nat}(hl:l.length=n)(h:∀j,j<n→l[j]! = x):l=List.replicate n x:=by
 apply List.ext_getElem (by simpa using hl)
 intro i h1 h2
 have:=h i (by omega)
 rw[getElem!_pos l i h1]at this
 simpa using this
theorem map_of {α:Type}[Inhabited α]{l:List α}{f:Nat→α}{n:Nat}(hl:l.length=n)(h:∀j,j<n→l[j]! = f j):l=(List.range n).map f:=by
 apply List.ext_getElem (by simpa using hl)
 intro i h1 h2
 have:=h i (by omega)
 rw[getElem!_pos l i h1]at this
 simpa using this
theorem set_bang {α:Type}[Inhabited α]{l:List α}{i j:Nat}{x:α}(hi:i<l.length)(hj:j<l.length):(l.set i x)[j]! = if i=j then x else l[j]!:=by
 rw[getElem!_pos (l.set i x) j (by simpa using hj),List.getElem_set]
 split
 ·rfl
 ·rw[getElem!_pos l j hj]
def Planted (n b:Nat)(h:SH)(r:Value)(q:SH):Prop :=
 ∃T N,r=gsl T 0 (n*2) n 2∧q=(T,⟨recs trF ((List.range n).map (trR N (n*2^b) (2^b) b)),false⟩)::(N,⟨(List.replicate (n*2^b) (1024:Int)).map iV,false⟩)::h
theorem plant_any (n b:Nat)(h:SH)(hn:1≤n∧n≤8)(hb:1≤b∧b≤8) :
  SRun Tryz.prog 112 [I n,I b] h fun r q=>Planted n b h r q:=by
 have hK:2^b≤256:=Nat.pow_le_pow_right (n:=2) (by decide) hb.2
 have hK0:0<2^b:=Nat.two_pow_pos b
 unfold Planted
 have hsh:∀m:Nat,m≤9→IntKind.i64.wrap ((m:Int)*2^(min ((b:Int)).toNat IntKind.i64.bits))=((m*2^b:Nat):Int):=fun m hm=>shl_nat rfl hb.2 (by
  have:=Nat.mul_le_mul hm hK;omega)
 generalize hKe:2^b=K at *
 have hM1:n*K≤2048:=Nat.mul_le_mul hn.2 hK
 have hmul:∀i,i<n→i*K+K≤n*K∧(i+1)*K=i*K+K:=fun i hi=>⟨by have:=Nat.mul_le_mul_right K (Nat.succ_le_of_lt hi);rw[Nat.succ_mul]at this;exact this,Nat.succ_mul i K⟩
 have hshn:=hsh n (by omega)
 generalize hM:n*K=M at *
 have hz1:zrow (.int .i64 0) (M*1)=(List.replicate M (0:Int)).map iV:=map_zrow (f:=iV) 0 rfl rfl M
 have hz2:zrow (.agg ⟨[I 0,.slice none 0 0]⟩) (n*2)=recs trF (List.replicate n (0,.slice none 0 0)):=recs_zrow trW (by decide) _ rfl n
 refine zY Tryz.func112 rfl rfl ?_
 repeat'(first|apply zF|apply zB|apply zE|(apply o_g zC;exact rfl;exact rfl)|(apply o_ar zC;exact rfl;exact rfl)|(apply o_makeSlice zC;(iterate 6 exact rfl);(focus decide);(focus first|omega);(focus first|exact hz1);exact rfl)|apply zA|apply zH|((with_reducible apply Sd.mk);first|exact True.intro|omega)|((with_reducible apply Wr.mk);first|exact hshn)|intro A)
 obtain⟨N,rfl⟩:∃N,N=A:=⟨_,rfl⟩
 have hg1:gsl N 0 (M*1) M 1=gsl N 0 M M 1:=gslE rfl rfl (Nat.mul_one _) rfl rfl
 refine zZ (S:=Nat × List Int) (fun x=>[(0,I n),(1,I b),(5,gsl N 0 M M 1),(15,gsl N 0 M M 1),(16,I M),(17,I x.1)]) (fun x=>(N,⟨x.2.map iV,false⟩)::h) (fun x=>x.1≤M∧x.2.length=M∧∀j,j<x.1→x.2[j]! = 1024) (fun x=>M-x.1) (0,List.replicate M 0) ⟨Nat.zero_le _,by simp,fun j hj=>absurd hj (Nat.not_lt_zero _)⟩ ⟨rfl,rfl,congrArg some hg1,congrArg some hg1,rfl,rfl,trivial⟩ (by repeat with_reducible first|exact Take.nil|apply Take.c|apply Take.drop) ?_
 rintro⟨i,L⟩ ⟨hi,hl,hall⟩
 dsimp only at hi hl hall ⊢
 by_cases hiM:i<M
 ·repeat'(first|apply zF|apply zB|apply zE|(apply o_g zC;exact rfl;exact rfl)|(apply o_ar zC;exact rfl;exact rfl)|(apply zX zC;(iterate 4 exact rfl);(focus exact up))|(apply yC;exact rfl;(focus first|omega))|apply zA|apply zG|apply zI|apply zH|((with_reducible apply Sd.mk);first|exact True.intro|omega)|((with_reducible apply Ln.mk);first|(simp ;first|done|omega))|((with_reducible apply Wr.mk);first|exact IntWalk.i64_in _ (by omega))|((with_reducible apply Se.mk);first|exact setAt_mapZ (by omega))|exact True.intro)
  all_goals first
   |(exfalso;omega)
   |exact⟨(i+1,L.set i 1024),⟨hiM,by simpa using hl,fun j hj=>by
     rw[set_bang (by omega) (by omega)]
     split
     ·rfl
     ·exact hall j (by omega)⟩,by show M-(i+1)<M-i;omega,(by repeat'(first|exact trivial|refine⟨rfl,?_⟩|refine⟨congrArg some ?_,?_⟩)),(by repeat with_reducible first|exact Take.nil|apply Take.c|apply Take.drop)⟩
 ·obtain rfl:i=M:=by omega
  obtain rfl:=rep_of hl hall
  clear hall hl hi hiM
  repeat'(first|apply zF|apply zB|apply zE|(apply o_g zC;exact rfl;exact rfl)|(apply o_makeSlice zC;(iterate 6 exact rfl);(focus decide);(focus first|omega);(focus first|exact hz2);exact rfl)|(apply yD;exact rfl;(focus first|omega))|apply zA|apply zK|apply zJ|apply zV|apply zH|((with_reducible apply Sd.mk);first|exact True.intro)|intro A)
  obtain⟨T,rfl⟩:∃T,T=A:=⟨_,rfl⟩
  refine zZ (S:=Nat × List (Int × Value)) (fun x=>[(0,I n),(1,I b),(5,gsl N 0 i i 1),(7,gsl T 0 (n*2) n 2),(26,gsl T 0 (n*2) n 2),(27,I n),(28,I x.1)]) (fun x=>(T,⟨recs trF x.2,false⟩)::(N,⟨(List.replicate i (1024:Int)).map iV,false⟩)::h) (fun x=>x.1≤n∧x.2.length=n∧∀j,j<x.1→x.2[j]! = trR N i K b j) (fun x=>n-x.1) (0,List.replicate n (0,.slice none 0 0)) ⟨Nat.zero_le _,by simp,fun j hj=>absurd hj (Nat.not_lt_zero _)⟩ (by repeat'(first|exact trivial|refine⟨rfl,?_⟩|refine⟨congrArg some ?_,?_⟩)) (by repeat with_reducible first|exact Take.nil|apply Take.c|apply Take.drop) ?_
  rintro⟨m,L⟩ ⟨hm,hl,hall⟩
  dsimp only at hm hl hall ⊢
  have hlr:=recs_len (f:=trF) (l:=L) trW
  by_cases hmn:m<n
  ·obtain⟨hm1,hm2⟩:=hmul m hmn
   have hs1:=hsh m (by omega)
   have hs2:IntKind.i64.wrap (((m:Int)+1)*2^(min ((b:Int)).toNat IntKind.i64.bits))=(((m+1)*K:Nat):Int):=hsh (m+1) (by omega)
   rw[hm2]at hs2
   obtain⟨w,hw⟩:∃w,w=m*K:=⟨_,rfl⟩
   rw[←hw]at hs1 hs2 hm1
   have hput:PutAt (recs trF L) (0+((m:Int)).toNat*2) [I b,gsl N (0+((w:Nat):Int).toNat*1) i (((w+K:Nat):Int)-((w:Nat):Int)).toNat 0] (recs trF (L.set m (trR N i K b m))):=by
    have e:[I (b:Int),gsl N (0+((w:Nat):Int).toNat*1) i (((w+K:Nat):Int)-((w:Nat):Int)).toNat 0]=trF (trR N i K b m):=by
     unfold trR trF
     rw[gslE (A:=N) (A':=N) rfl (show 0+((w:Nat):Int).toNat*1=m*K by omega) rfl (show(((w+K:Nat):Int)-((w:Nat):Int)).toNat=K by omega) rfl]
    rw[e]
    exact putAt_recZ trW (by omega)
   repeat'(first|apply zF|apply zB|apply zE|(apply yH;(focus kernel_rfl);(focus kernel_rfl))|(apply o_g zC;exact rfl;exact rfl)|(apply o_ar zC;exact rfl;exact rfl)|(apply yE zC;(iterate 4 exact rfl);(focus exact⟨rfl⟩);(focus exact up))|(apply yT zC;exact rfl;exact rfl;(focus first|with_reducible exact pl142);exact rfl;(focus repeat(first|exact BuildR.nil|(apply BuildR.one;exact rfl;exact rfl;(first|(focus(repeat(first|exact SetAt.zero|apply SetAt.succ));done)))));exact rfl)|(apply o_slice3 zC;iterate 6 exact rfl)|(apply yC;exact rfl;(focus first|omega))|apply zA|apply zG|apply zI|apply zH|((with_reducible apply Sd.mk);first|exact True.intro|omega)|((with_reducible apply Ln.mk);first|omega)|((with_reducible apply Wr.mk);first|exact hs1|exact hs2|exact IntWalk.i64_in _ (by omega))|((with_reducible apply Pu.mk);first|exact hput)|exact True.intro|exact rfl)
   all_goals first
    |(exfalso;omega)
    |exact⟨(m+1,L.set m (trR N i K b m)),⟨hmn,by simpa using hl,fun j hj=>by
      rw[set_bang (by omega) (by omega)]
      split
      ·subst_vars;rfl
      ·exact hall j (by omega)⟩,by show n-(m+1)<n-m;omega,(by repeat'(first|exact trivial|refine⟨rfl,?_⟩|refine⟨congrArg some ?_,?_⟩)),(by repeat with_reducible first|exact Take.nil|apply Take.c|apply Take.drop)⟩
  ·obtain rfl:m=n:=by omega
   obtain rfl:=map_of hl hall
   repeat'(first|apply zF|apply zB|apply zE|(apply o_g zC;exact rfl;exact rfl)|(apply yD;exact rfl;(focus first|omega))|apply zA|apply zK|apply zJ|apply zN|apply zV|((with_reducible apply Sd.mk);first|exact True.intro))
   all_goals first
    |(exfalso;omega)
    |(apply zL;(exact(show ResS _ _ _ _ [_] from⟨rfl,trivial⟩));(focus exact⟨T,N,rfl,rfl⟩);(focus repeat with_reducible first|exact Take.nil|apply Take.c|apply Take.drop))

abbrev nodes (L:List Int):List Value:=L.map iV
def trs8 (N:Nat):List (Int × Value):=(List.range 8).map (trR N 2048 256 8)
theorem plant8 (h:SH):SRun Tryz.prog 112 [I 8,I 8] h fun r q =>
  ∃T N,r=gsl T 0 16 8 2∧q=(T,⟨recs trF (trs8 N),false⟩)::(N,⟨nodes (List.replicate 2048 1024),false⟩)::h:=plant_any 8 8 h (by decide) (by decide)
theorem plant1 (b:Nat)(h:SH)(hb:1≤b∧b≤8):SRun Tryz.prog 112 [I 1,I b] h fun r q =>
  ∃T N,r=gsl T 0 2 1 2∧q=(T,⟨[I b,gsl N 0 (2^b) (2^b) 0],false⟩)::(N,⟨nodes (List.replicate (2^b) 1024),false⟩)::h :=
 (plant_any 1 b h (by decide) hb).mono fun r q ⟨T,N,h1,h2⟩=>⟨T,N,h1,by
  rw[h2,Nat.one_mul]
  show(T,(⟨[I b,gsl N (0*2^b) (2^b) (2^b) 0],false⟩:Blk))::_=_
  rw[Nat.zero_mul]⟩
theorem NewNumbers_any (h:SH):SRun Tryz.prog 75 [] h fun r q =>
  ∃M N,r=gptr M 0 2∧q=(M,⟨[I 6,gsl N 0 64 64 0],false⟩)::(N,⟨nodes (List.replicate 64 1024),false⟩)::h:=by
 have hp:∀h,SRun Tryz.prog 112 [I 1,I 6] h fun r q=>∃T N,r=gsl T 0 2 1 2∧q=(T,⟨[I 6,gsl N 0 64 64 0],false⟩)::(N,⟨nodes (List.replicate 64 1024),false⟩)::h:=fun h=>plant1 6 h (by decide)
 generalize nodes (List.replicate 64 1024)=X at *
 refine w_body0 Tryz.func75 rfl rfl ?_
 repeat'(first|apply zF|apply zB|apply zE|(apply o_g zC;exact rfl;exact rfl)|(apply yQ zC;(iterate 3 exact rfl);(focus exact pk))|(apply o_box (tt:=tyT);iterate 5 exact rfl)|(apply yT zC;exact rfl;exact rfl;(focus first|with_reducible exact pl149);exact rfl;(focus repeat(first|exact BuildR.nil|(apply BuildR.agg;exact rfl;exact rfl;(first|exact yA rfl))));exact rfl)|(apply zD;exact rfl;exact rfl;(focus first|exact rfl);exact rfl;(focus exact⟨_,hp _,by repeat with_reducible exact Take.nil⟩);rintro _ _ ⟨T,N,rfl,rfl⟩)|apply zA|apply zN|((with_reducible apply Sd.mk);first|exact True.intro|omega)|((with_reducible apply Ln.mk);first|rfl)|((with_reducible apply Su.mk);first|exact zQ)|exact True.intro|intro A|exact rfl)
 all_goals first
  |(apply zL;(exact(show ResS _ _ _ _ [_] from⟨rfl,trivial⟩));(focus exact⟨A,N,rfl,rfl⟩);(focus repeat with_reducible first|exact Take.nil|apply Take.c|apply Take.drop))
theorem NewTree_any (z:Int)(h:SH):SRun Tryz.prog 73 [I z] h fun r q =>
  (1≤z∧z≤8∧∃T N,r=.tuple #[gptr T 0 2,I 0]∧q=(T,⟨[I z,gsl N 0 (2^z.toNat) (2^z.toNat) 0],false⟩)::(N,⟨nodes (List.replicate (2^z.toNat) 1024),false⟩)::h)∨(¬(1≤z∧z≤8)∧r=.tuple #[.pointer none,I 2]∧q=h):=by
 by_cases hz:1≤z∧z≤8
 ·obtain⟨b,rfl⟩:=Int.eq_ofNat_of_zero_le (show 0≤z by omega)
  have hp:=fun h=>plant1 b h (by omega)
  rw[Int.toNat_natCast]
  generalize hX:nodes (List.replicate (2^b) 1024)=X at *
  refine zR Tryz.func73 rfl rfl ?_
  repeat'(first|apply zF|apply zB|apply zE|(apply o_g zC;exact rfl;exact rfl)|(apply zD;exact rfl;exact rfl;(focus first|exact rfl);exact rfl;(focus exact⟨_,hp _,by repeat with_reducible exact Take.nil⟩);rintro _ _ ⟨T,N,rfl,rfl⟩)|(apply zU;exact rfl;exact rfl)|(apply o_gF;(iterate 3 exact rfl);(focus first|omega))|(apply yD;exact rfl;(focus first|omega))|apply zA|apply zI|apply zN|((with_reducible apply Sd.mk);first|exact True.intro|omega))
  all_goals first
   |(exfalso;omega)
   |(apply zL;(exact(show ResS _ _ _ _ [_,_] from⟨rfl,⟨rfl,trivial⟩⟩));(focus exact .inl ⟨hz.1,hz.2,T,N,rfl,rfl⟩);(focus repeat with_reducible first|exact Take.nil|apply Take.c|apply Take.drop))
 ·refine zR Tryz.func73 rfl rfl ?_
  repeat'(first|apply zF|apply zB|apply zE|(apply o_g zC;exact rfl;exact rfl)|(apply zU;exact rfl;exact rfl)|(apply yF;iterate 4 exact rfl)|(apply o_guardF;(iterate 3 exact rfl);all_goals intro hc)|(apply yB;exact rfl)|(apply yC;exact rfl;(focus first|omega))|apply zA|apply zP|apply zN|((with_reducible apply Sd.mk);first|exact True.intro))
  all_goals first
   |(exfalso;omega)
   |(apply zL;(exact(show ResS _ _ _ _ [_,_] from⟨rfl,⟨rfl,trivial⟩⟩));(focus exact .inr ⟨hz,rfl,rfl⟩);(focus repeat with_reducible first|exact Take.nil|apply Take.c|apply Take.drop))
theorem NewBytes_any (h:SH):SRun Tryz.prog 74 [] h fun r q =>
  ∃M N,r=gptr M 0 17∧q=(M,⟨recs trF (trs8 N)++[Y 0],false⟩)::(N,⟨nodes (List.replicate 2048 1024),false⟩)::h:=by
 have hp:=plant8
 generalize nodes (List.replicate 2048 1024)=X at *
 have hput:∀N,PutAt [.int .i64 0,.slice none 0 0,.int .i64 0,.slice none 0 0,.int .i64 0,.slice none 0 0,.int .i64 0,.slice none 0 0,.int .i64 0,.slice none 0 0,.int .i64 0,.slice none 0 0,.int .i64 0,.slice none 0 0,.int .i64 0,.slice none 0 0,.int .u8 0] 0 (recs trF (trs8 N)) (recs trF (trs8 N)++[Y 0]):=fun N=>⟨(by decide:16≤17),rfl⟩
 refine w_body0 Tryz.func74 rfl rfl ?_
 repeat'(first|apply zF|apply zB|apply zE|(apply o_g zC;exact rfl;exact rfl)|(apply yQ zC;(iterate 3 exact rfl);(focus exact pk))|(apply o_box (tt:=tyT);iterate 5 exact rfl)|(apply yT zC;exact rfl;exact rfl;(focus first|with_reducible exact pl147);exact rfl;(focus repeat(first|exact BuildR.nil|(apply BuildR.agg;exact rfl;exact rfl;(first|exact hput _))));exact rfl)|(apply o_s2a;exact rfl;(focus(first|exact rfl));(focus exact⟨by omega⟩);exact rfl)|(apply zD;exact rfl;exact rfl;(focus first|exact rfl);exact rfl;(focus exact⟨_,hp _,by repeat with_reducible exact Take.nil⟩);rintro _ _ ⟨T,N,rfl,rfl⟩)|apply zA|apply zN|((with_reducible apply Sd.mk);first|exact True.intro)|((with_reducible apply Ln.mk);first|rfl)|((with_reducible apply Su.mk);first|exact zQ)|exact True.intro|intro A|exact rfl)
 all_goals first
  |(apply zL;(exact(show ResS _ _ _ _ [_] from⟨rfl,trivial⟩));(focus exact⟨A,N,rfl,rfl⟩);(focus repeat with_reducible first|exact Take.nil|apply Take.c|apply Take.drop))
end Go.Proofs.YteddogfolceahaaGreat
end
