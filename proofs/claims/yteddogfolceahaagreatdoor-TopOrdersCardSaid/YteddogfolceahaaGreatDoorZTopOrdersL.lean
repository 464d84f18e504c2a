/- Part 12 of the proof of the law TopOrders: texts merged. No condition. -/
import Derived.Test.YteddogfolceahaaGreatDoorZTopOrdersK
import Derived.Laws.Externs
import Derived.Lib.BytesEntry
import Derived.WalkKit
import Derived.BigCall
import Derived.Lib.SlBuf
import Derived.Lib.MakeNoZero
import Derived.Laws.IdiomCopy
import Derived.Shelf.Abstract
import Derived.Deep.RegionLaw
import Derived.Deep.LoopGhost
set_option linter.unusedSimpArgs false
set_option linter.unusedVariables false
section
set_option maxRecDepth 4000
namespace Go.Proofs.YteddogfolceahaaGreatDoor
open Go.Gh Go.RowKit

theorem cmL_eq :∀a b:List UInt8,Lib.compareBytes a b=cmL a b
 |[],[]=>rfl
 |[],_::_=>rfl
 |_::_,[]=>rfl
 |a::as0,b::bs=>by
  unfold Lib.compareBytes cmL
  rw[cmL_eq as0 bs]
  rfl
theorem run_bytesOf {P:Program}(w:World)(l:List UInt8)(a:Addr)(c:Nat)(h:∀(j:Nat) x,l[j]?=some x→w.cell? (a.add j)=some (.int .u8 (x.toNat:Int))) :
  (Extern.Bytes.bytesOf (.slice (some a) l.length c)).run P w=.ok ⟨l.toArray⟩ w:=by
 have hr:=Lib.run_loadBytesX (P:=P) w (l.map fun x=>(x.toNat:Int)) a .empty (fun j x hj=>by
  rw[List.getElem?_map]at hj
  obtain⟨y,hy,rfl⟩:=Option.map_eq_some_iff.1 hj
  exact h j y hy)
 rw[List.length_map]at hr
 show(Extern.Bytes.loadBytes a l.length .empty).run P w=_
 rw[hr]
 congr 1
 apply ByteArray.ext
 have:Lib.bytesOf (l.map fun x=>(x.toNat:Int))=l:=by
  unfold Lib.bytesOf
  rw[List.map_map]
  conv=>rhs;rw[←List.map_id l]
  apply List.map_congr_left
  intro x _
  show(((x.toNat:Int)).toNat.toUInt8)=x
  rw[Int.toNat_natCast]
  exact UInt8.ofNat_toNat
 rw[this]
 show #[]++l.toArray=l.toArray
 simp
set_option maxRecDepth 100000 in
set_option maxHeartbeats 1000000 in
theorem Cmp_calls (a1 a2:Addr)(c1 c2:Nat)(l1 l2:List UInt8)(w:World)(h1:∀(j:Nat) x,l1[j]?=some x→w.cell? (a1.add j)=some (.int .u8 (x.toNat:Int)))(h2:∀(j:Nat) x,l2[j]?=some x→w.cell? (a2.add j)=some (.int .u8 (x.toNat:Int))) :
  Calls Tryz.prog 93 #[.slice (some a1) l1.length c1,.slice (some a2) l2.length c2] w fun e w'=>e=.returned (I (cmL l1 l2))∧w'=w:=by
 have hr:(Extern.BytealgCompare.compare #[.slice (some a1) l1.length c1,.slice (some a2) l2.length c2]).run Tryz.prog w=.ok (I (cmL l1 l2)) w:=by
  change Sem.run Tryz.prog (do pure (goInt (Extern.BytealgCompare.cmp (←Extern.Bytes.bytesOf (.slice (some a1) l1.length c1)) (←Extern.Bytes.bytesOf (.slice (some a2) l2.length c2))))) w=_
  simp only[Sem.run_bind,run_bytesOf w l1 a1 c1 h1,run_bytesOf w l2 a2 c2 h2,Result.andThen,Sem.run_pure]
  rw[Lib.cmp_eq,cmL_eq]
  rfl
 have hcall:(callFunc 141 #[.slice (some a1) l1.length c1,.slice (some a2) l2.length c2]).run Tryz.prog w=.ok (.value (I (cmL l1 l2))) w:=by
  rw[run_callFunc_extern Tryz.func141 (by kernel_rfl) (by kernel_rfl) (by kernel_rfl) (e:=Extern.BytealgCompare.compare) (by kernel_rfl),hr]
  rfl
 clear hr
 go_enter Tryz.func93,Tryz.ntmps93
 go_wp2
 go_ret
 exact⟨rfl,rfl⟩
theorem slc_bytes {B0:Nat}{w0:World}{φ:Nat→Go.Gh.Loc}{H:Heap}{w:World}(r:Rel B0 w0 φ H w){A off n fl:Nat}{bs ds:List UInt8}{ro:Bool}{u:Value}(hA:H[A]?=some (some ⟨bytesV bs,ro⟩))(hn:bs.length=n)
  (hd:off+ds.length≤bs.length) (hs:(bs.drop off).take ds.length=ds) (hu:Val φ (lens H) (gsl A off n ds.length fl) u) :
  ∃a cap,u=.slice (some a) ds.length cap∧∀(j:Nat) x,ds[j]?=some x→w.cell? (a.add j)=some (.int .u8 (x.toNat:Int)):=by
 obtain⟨cap,hu,-,-,-,hmp⟩:=slc_cells r hA (by simpa using hn) hu
 have hc:∀(i:Nat) v,(bytesV ds)[i]?=some v→(bytesV bs)[off+i]?=some v:=fun i v hv=>by
  have hi:i<ds.length:=by have:=(List.getElem?_eq_some_iff.1 hv).1;simpa using this
  rw[←hs]at hv
  unfold bytesV at hv ⊢
  rw[List.getElem?_map,List.getElem?_take,if_pos hi,List.getElem?_drop,←List.getElem?_map]at hv
  exact hv
 obtain⟨us,hus,hcell⟩:=cells_rel r hA hmp off hc
 refine⟨_,cap,hu,fun j x hx=>hcell j _ ?_⟩
 have hb:(bytesV ds)[j]?=some (.int .u8 (x.toNat:Int)):=by unfold bytesV;rw[List.getElem?_map,hx];rfl
 obtain⟨v',g1,g2⟩:=hus.get j _ hb
 rw[g2.scalar rfl]at g1
 simpa using g1
theorem cmpB_any (A1 A2 o1 o2 f1 f2:Nat)(b1 b2 d1 d2:List UInt8)(r1 r2:Bool)(h q1 q2:SH)(p1:Pick h A1 ⟨bytesV b1,r1⟩ q1)(p2:Pick h A2 ⟨bytesV b2,r2⟩ q2)
  (g1:o1+d1.length≤b1.length) (g2:o2+d2.length≤b2.length) (e1:(b1.drop o1).take d1.length=d1) (e2:(b2.drop o2).take d2.length=d2) :
  SRun Tryz.prog 93 [gsl A1 o1 b1.length d1.length f1,gsl A2 o2 b2.length d2.length f2] h fun r q=>r=I (cmL d1 d2)∧q=h:=by
 unfold SRun
 intro H i
 unfold Run
 intro B0 w0 φs Ls φ w vs he hr hvs
 obtain⟨hsz,hget⟩:=hvs
 obtain⟨u1,v1,x1⟩:=hget 0 _ rfl
 obtain⟨u2,v2,x2⟩:=hget 1 _ rfl
 obtain⟨a1,c1,rfl,k1⟩:=slc_bytes hr (i.look p1) rfl g1 e1 x1
 obtain⟨a2,c2,rfl,k2⟩:=slc_bytes hr (i.look p2) rfl g2 e2 x2
 have hv:vs=#[.slice (some a1) d1.length c1,.slice (some a2) d2.length c2]:=by
  refine Array.ext hsz fun j hj hj'=>?_
  have hj2:j<2:=hj'
  have:vs[j]?=some vs[j]:=Array.getElem?_eq_getElem hj
  obtain rfl|rfl:j=0∨j=1:=by omega
  ·rw[v1]at this;exact(Option.some.inj this).symm
  ·rw[v2]at this;exact(Option.some.inj this).symm
 rw[hv]
 refine(Cmp_calls a1 a2 c1 c2 d1 d2 w k1 k2).mono ?_
 rintro e w' ⟨rfl,rfl⟩
 exact⟨φ,I (cmL d1 d2),H,_,he,hr,rfl,.int _ _,h,⟨rfl,rfl⟩,i⟩

theorem Dg.lock {h:SH}{v:Value}{ds:List UInt8}(g:Dg h v ds):Dg (lockS h) v ds:=by
 rcases g with g|⟨g1,A,off,fl,bs,ro,q1,e1,e2,e3,e4⟩
 ·exact .inl g
 ·exact .inr ⟨g1,A,off,fl,bs,true,_,e1,pick_lock e2,e3,e4⟩
theorem sc3_bd (x y:Int):sc3 x y=0∨sc3 x y=1∨sc3 x y=-1:=by
 unfold sc3
 split
 ·exact .inr (.inr rfl)
 ·split
  ·exact .inr (.inl rfl)
  ·exact .inl rfl
theorem cmL_bd :∀a b,cmL a b=0∨cmL a b=1∨cmL a b=-1
 |[],[]=>.inl rfl
 |[],_::_=>.inr (.inr rfl)
 |_::_,[]=>.inr (.inl rfl)
 |a::as0,b::bs=>by
  unfold cmL
  split
  ·exact .inr (.inr rfl)
  ·split
   ·exact .inr (.inl rfl)
   ·exact cmL_bd as0 bs
theorem mag_bd (a b:Nm):mag a b=0∨mag a b=1∨mag a b=-1:=by
 unfold mag
 split
 ·exact sc3_bd _ _
 ·split
  ·exact sc3_bd _ _
  ·exact cmL_bd _ _
def szN (a:Nm):Prop:=a.2.1.length≤1000000∧(-2000000≤a.2.2∧a.2.2≤2000000)
theorem Mag_any (a b:Nm)(v u:Value)(h:SH)(ha:Dg h v a.2.1)(hb:Dg h u b.2.1)(sa:szN a)(sb:szN b) :
  SRun Tryz.prog 47 [nmV a.1 v a.2.2,nmV b.1 u b.2.2] h fun r q=>r=I (mag a b)∧q=h:=by
 obtain⟨s1,d1,x1⟩:=a
 obtain⟨s2,d2,x2⟩:=b
 obtain⟨sa1,sa2⟩:=sa
 obtain⟨sb1,sb2⟩:=sb
 dsimp only at *
 obtain⟨m,hm⟩:∃m,mag (s1,d1,x1) (s2,d2,x2)=m:=⟨_,rfl⟩
 rw[hm]
 have hI:=fun x y h=>cmpI_any x y h
 by_cases h0:d1.length=0∨d2.length=0
 ·have hm2:sc3 d1.length d2.length=m:=by rw[←hm];exact(if_pos h0).symm
  have hI1:=hI d1.length d2.length
  rw[hm2]at hI1
  obtain⟨ad1,fl1,rfl⟩:=ha.len
  obtain⟨ad2,fl2,rfl⟩:=hb.len
  refine zY Tryz.func47 rfl rfl ?_
  repeat'(first|apply zF|apply zB|apply zE|refine jg ?_ ?_|(apply zM zC;(iterate 3 exact rfl);exact pk)|refine jx ?_|refine jq ?_ (c:=by exact⟨_,hI1 _,jN⟩)|refine jw ?_|refine jk ?_|(apply o_guardF;(iterate 3 exact rfl);all_goals intro hc)|(apply yB;exact rfl)|refine jd ?_|apply zA|apply zP|apply zN|exact jS|exact jL|exact jE|exact True.intro|intro A|exact rfl)
  all_goals first
   |exact jX
   |exact jG
 ·have hn1:d1≠[]:=fun g=>h0 (.inl (by rw[g];rfl))
  have hn2:d2≠[]:=fun g=>h0 (.inr (by rw[g];rfl))
  rcases ha with⟨g,_⟩|⟨_,A1,o1,f1,b1,r1,q1,rfl,p1,y1,z1⟩
  ·exact absurd g hn1
  rcases hb with⟨g,_⟩|⟨_,A2,o2,f2,b2,r2,q2,rfl,p2,y2,z2⟩
  ·exact absurd g hn2
  have hC:=cmpB_any A1 A2 o1 o2 f1 f2 b1 b2 d1 d2 r1 r2 h q1 q2 p1 p2 y1 y2 z1 z2
  have hF1:=fun h=>first_any s1 x1 (some ⟨A1,o1,some b1.length⟩) d1.length f1 h sa1 (by omega)
  have hF2:=fun h=>first_any s2 x2 (some ⟨A2,o2,some b2.length⟩) d2.length f2 h sb1 (by omega)
  have hI1:=hI (x1+d1.length-1) (x2+d2.length-1)
  by_cases hc:sc3 (x1+d1.length-1) (x2+d2.length-1)=0
  ·have hm2:cmL d1 d2=m:=by
    rw[←hm]
    unfold mag fst
    rw[if_neg h0,if_neg (fun k=>k hc)]
   rw[hm2]at hC
   rw[hc]at hI1
   refine zY Tryz.func47 rfl rfl ?_
   repeat'(first|apply zF|apply zB|apply zE|refine jr ?_|refine jg ?_ ?_|(apply zM zC;(iterate 3 exact rfl);exact pk)|(apply yQ zC;(iterate 3 exact rfl);exact pk)|refine jx ?_|(apply yS;(iterate 4 exact rfl);exact⟨_,hF1 _,jN⟩;exact fun _ _ h=>h.1;(focus(repeat(first|exact Flat.c rfl))))|(apply yS;(iterate 4 exact rfl);exact⟨_,hF2 _,jN⟩;exact fun _ _ h=>h.1;(focus(repeat(first|exact Flat.c rfl))))|(apply yS;(iterate 4 exact rfl);exact⟨_,hI1 _,jN⟩;exact fun _ _ h=>h.1;(focus(repeat(first|exact Flat.c rfl))))|refine jq ?_ (c:=by exact⟨_,hC,jD⟩)|refine jw ?_|refine ji ?_|(apply zS;exact rfl)|refine jf ?_|apply zA|apply zI|apply zN|exact jS|exact jL|exact jE|exact jU|exact True.intro|intro A|exact rfl)
   all_goals first
    |exact jX
    |exact jG
  ·have hm2:sc3 (x1+d1.length-1) (x2+d2.length-1)=m:=by
    rw[←hm]
    unfold mag fst
    rw[if_neg h0,if_pos hc]
   rw[hm2]at hI1 hc
   refine zY Tryz.func47 rfl rfl ?_
   repeat'(first|apply zF|apply zB|apply zE|refine jr ?_|refine jg ?_ ?_|(apply zM zC;(iterate 3 exact rfl);exact pk)|(apply yQ zC;(iterate 3 exact rfl);exact pk)|refine jx ?_|(apply yS;(iterate 4 exact rfl);exact⟨_,hF1 _,jN⟩;exact fun _ _ h=>h.1;(focus(repeat(first|exact Flat.c rfl))))|(apply yS;(iterate 4 exact rfl);exact⟨_,hF2 _,jN⟩;exact fun _ _ h=>h.1;(focus(repeat(first|exact Flat.c rfl))))|(apply yS;(iterate 4 exact rfl);exact⟨_,hI1 _,jN⟩;exact fun _ _ h=>h.1;(focus(repeat(first|exact Flat.c rfl))))|refine jw ?_|refine ji ?_|refine jd ?_|refine jf ?_|apply zA|apply zP|apply zI|apply zN|exact jS|exact jL|exact jE|exact jU|exact True.intro|intro A|exact rfl)
   all_goals first
    |exact jX
    |exact jG
theorem cmp_any (a b:Nm)(v u:Value)(h:SH)(ha:Dg h v a.2.1)(hb:Dg h u b.2.1)(sa:szN a)(sb:szN b) :
  SRun Tryz.prog 27 [nmV a.1 v a.2.2,nmV b.1 u b.2.2] h fun r q=>r=I (cmN a b)∧q=h:=by
 have hM:=Mag_any a b v u (lockS h) ha.lock hb.lock sa sb
 have hmb:=mag_bd a b
 have hI:=fun x y h=>cmpI_any x y h
 obtain⟨ad1,fl1,rfl⟩:=ha.len
 obtain⟨ad2,fl2,rfl⟩:=hb.len
 have hS1:=fun h=>sign_any a.1 a.2.2 ad1 a.2.1.length fl1 h
 have hS2:=fun h=>sign_any b.1 b.2.2 ad2 b.2.1.length fl2 h
 obtain⟨m,hm⟩:∃m,cmN a b=m:=⟨_,rfl⟩
 rw[hm]
 unfold cmN at hm
 have hsa:sg a=0∨sg a=1∨sg a=-1:=by
  unfold sg
  split
  ·exact .inl rfl
  ·split
   ·exact .inr (.inr rfl)
   ·exact .inr (.inl rfl)
 have hI1:=hI (sg a) (sg b)
 have e1:(if a.2.1.length=0 then(0:Int)else if a.1=true then -1 else 1)=sg a:=rfl
 have e2:(if b.2.1.length=0 then(0:Int)else if b.1=true then -1 else 1)=sg b:=rfl
 rw[e1]at hS1
 rw[e2]at hS2
 generalize sg a=ga at *
 generalize sg b=gb at *
 generalize mag a b=mg at *
 by_cases hc:sc3 ga gb=0
 ·rw[hc]at hI1
  rw[if_neg (fun k=>k hc)]at hm
  have hmul:ga*mg=m:=hm
  have hbd:-1≤m∧m≤1:=by
   rcases hsa with rfl|rfl|rfl <;> rcases hmb with rfl|rfl|rfl <;> omega
  clear hm
  have hW:-9223372036854775808≤ga*mg∧ga*mg≤9223372036854775807:=by omega
  refine zY Tryz.func27 rfl rfl ?_
  repeat'(first|apply zF|apply zB|apply zE|refine jr ?_|refine jg ?_ ?_|(apply o_ar zC;exact rfl;exact rfl)|(apply yQ zC;(iterate 3 exact rfl);exact pk)|refine jx ?_|(apply yS;(iterate 4 exact rfl);exact⟨_,hS1 _,jN⟩;exact fun _ _ h=>h.1;(focus(repeat(first|exact Flat.c rfl))))|(apply yS;(iterate 4 exact rfl);exact⟨_,hS2 _,jN⟩;exact fun _ _ h=>h.1;(focus(repeat(first|exact Flat.c rfl))))|(apply yS;(iterate 4 exact rfl);exact⟨_,hI1 _,jN⟩;exact fun _ _ h=>h.1;(focus(repeat(first|exact Flat.c rfl))))|(apply yS;(iterate 4 exact rfl);exact⟨_,hM,by repeat(first|with_reducible exact Take.nil|with_reducible apply yL|with_reducible apply Take.drop)⟩;exact fun _ _ h=>h.1;(focus(repeat(first|exact Flat.c rfl))))|(apply zS;exact rfl)|apply zA|apply zI|apply zN|exact jS|exact jL|((with_reducible apply Wr.mk);first|exact IntWalk.i64_in _ hW)|exact jU|exact True.intro|intro A|exact rfl)
  all_goals first
   |exact jX
   |(apply zL;(exact(show ResS _ _ _ _ [_] from⟨rfl,trivial⟩));exact⟨congrArg I hmul,rfl⟩;(focus repeat(first|with_reducible exact Take.nil|with_reducible apply yL|with_reducible apply Take.c|with_reducible apply Take.drop)))
 ·rw[if_pos hc]at hm
  rw[hm]at hI1 hc
  refine zY Tryz.func27 rfl rfl ?_
  repeat'(first|apply zF|apply zB|apply zE|refine jr ?_|refine jg ?_ ?_|(apply yQ zC;(iterate 3 exact rfl);exact pk)|refine jx ?_|(apply yS;(iterate 4 exact rfl);exact⟨_,hS1 _,jN⟩;exact fun _ _ h=>h.1;(focus(repeat(first|exact Flat.c rfl))))|(apply yS;(iterate 4 exact rfl);exact⟨_,hS2 _,jN⟩;exact fun _ _ h=>h.1;(focus(repeat(first|exact Flat.c rfl))))|(apply yS;(iterate 4 exact rfl);exact⟨_,hI1 _,jN⟩;exact fun _ _ h=>h.1;(focus(repeat(first|exact Flat.c rfl))))|refine jd ?_|apply zA|apply zP|apply zN|exact jS|exact jL|exact jU|exact True.intro|intro A|exact rfl)
  all_goals first
   |exact jX
   |exact jG
theorem Cmp_any (a b:Nm)(ta:okT a)(tb:okT b)(na:okN a)(nb:okN b)(h:SH) :
  SRun Tryz.prog 10 [S (ctx a),S (ctx b)] h fun r q=>r=.tuple #[I (cmN a b),B true]∧q=h:=by
 have sz:∀{a:Nm},okT a→okN a→szN a:=fun {a} ta na=>by
  rcases na with g|⟨g1,g2,g3⟩
  ·rw[ta.z g];exact⟨by decide,by decide,by decide⟩
  ·have:fst a=a.2.2+a.2.1.length-1:=rfl
   exact⟨by omega,by omega,by omega⟩
 have sa:=sz ta na
 have sb:=sz tb nb
 have hA:=fun h=>Canon_any a ta na h
 have hB:=fun h=>Canon_any b tb nb h
 have hC:=fun v u h ha hb=>cmp_any a b v u h ha hb sa sb
 generalize cmN a b=m at *
 generalize ctx a=s at *
 generalize ctx b=t at *
 obtain⟨s1,d1,x1⟩:=a
 obtain⟨s2,d2,x2⟩:=b
 dsimp only at *
 have key:∀{s:List UInt8} {n:Bool} {ds:List UInt8} {e:Int},(∀h,SRun Tryz.prog 24 [S s] h fun r q=>∃v,r=.tuple #[nmV n v e,B true]∧Dh h ds v q) →
   (ds=[]∧∀h,SRun Tryz.prog 24 [S s] h fun r q=>r=.tuple #[nmV n (.slice none 0 0) e,B true]∧q=h) ∨
   (ds≠[]∧∀h,SRun Tryz.prog 24 [S s] h fun r q=>∃A,r=.tuple #[nmV n (gsl A 0 ds.length ds.length 0) e,B true]∧q=(A,⟨bytesV ds,false⟩)::h):=fun {s n ds e} k=>by
  by_cases h0:ds=[]
  ·refine .inl ⟨h0,fun h=>(k h).mono fun r q ⟨v,e1,e2⟩=>?_⟩
   rcases e2 with⟨_,rfl,rfl⟩|⟨g,_⟩
   ·exact⟨e1,rfl⟩
   ·exact absurd h0 g
  ·refine .inr ⟨h0,fun h=>(k h).mono fun r q ⟨v,e1,e2⟩=>?_⟩
   rcases e2 with⟨g,_⟩|⟨_,A,rfl,rfl⟩
   ·exact absurd g h0
   ·exact⟨A,e1,rfl⟩
 rcases key hA with⟨rfl,kA⟩|⟨a0,kA⟩ <;> rcases key hB with⟨rfl,kB⟩|⟨b0,kB⟩ <;> clear hA hB
 ·have hc:=fun h=>hC _ _ h (.inl ⟨rfl,rfl⟩) (.inl ⟨rfl,rfl⟩)
  refine zY Tryz.func10 rfl rfl ?_
  repeat'(first|apply zF|apply zB|apply zE|refine jg ?_ ?_|(apply yR;exact rfl;exact rfl)|(apply yQ zC;(iterate 3 exact rfl);exact pk)|(apply yE zC;(iterate 4 exact rfl);exact⟨rfl⟩;exact up)|refine jy ?_|(refine jc ?_ (c:=by exact⟨_,kA _,jN⟩);rintro _ _ ⟨rfl,rfl⟩)|(refine jc ?_ (c:=by exact⟨_,kB _,jN⟩);rintro _ _ ⟨rfl,rfl⟩)|(refine jc ?_ (c:=by exact⟨_,hc _,jN⟩);rintro _ _ ⟨rfl,rfl⟩)|refine jw ?_|(apply zS;exact rfl)|apply zA|apply zI|apply zN|exact jS|exact jL|exact jP|exact jU|exact True.intro|intro A|exact rfl)
  all_goals try exact jX
  exact jG
 ·refine zY Tryz.func10 rfl rfl ?_
  repeat'((fail_if_success (show SWp _ _ (Code.seq (Code.region 5 _ _) _) _ _ _));(fail_if_success (show SWp _ _ (Code.region 5 _ _) _ _ _));first|apply zF|apply zB|apply zE|refine jg ?_ ?_|(apply yR;exact rfl;exact rfl)|(apply yE zC;(iterate 4 exact rfl);exact⟨rfl⟩;exact up)|refine jy ?_|(refine jc ?_ (c:=by exact⟨_,kA _,jN⟩);rintro _ _ ⟨rfl,rfl⟩)|(refine jc ?_ (c:=by exact⟨_,kB _,jN⟩);rintro _ _ ⟨B1,rfl,rfl⟩)|refine jw ?_|(apply zS;exact rfl)|apply zA|apply zI|exact jS|exact jL|exact jP|exact True.intro|intro A)
  all_goals try exact jX
  rename SH=>h
  have hc:=hC _ _ ((B1,⟨bytesV d2,false⟩)::h) (.inl ⟨rfl,rfl⟩) (.inr ⟨b0,B1,0,0,d2,false,_,rfl,.head,by omega,List.take_length⟩)
  repeat'(first|apply zF|apply zB|apply zE|refine jg ?_ ?_|(apply yQ zC;(iterate 3 exact rfl);exact pk)|(refine jc ?_ (c:=by exact⟨_,hc,jK⟩);rintro _ _ ⟨rfl,rfl⟩)|apply zA|apply zN|exact jS|exact jL|exact jU|exact True.intro|exact rfl)
  all_goals try exact jX
  exact jG
 ·refine zY Tryz.func10 rfl rfl ?_
  repeat'((fail_if_success (show SWp _ _ (Code.seq (Code.region 5 _ _) _) _ _ _));(fail_if_success (show SWp _ _ (Code.region 5 _ _) _ _ _));first|apply zF|apply zB|apply zE|refine jg ?_ ?_|(apply yR;exact rfl;exact rfl)|(apply yE zC;(iterate 4 exact rfl);exact⟨rfl⟩;exact up)|refine jy ?_|(refine jc ?_ (c:=by exact⟨_,kA _,jN⟩);rintro _ _ ⟨B1,rfl,rfl⟩)|(refine jc ?_ (c:=by exact⟨_,kB _,jN⟩);rintro _ _ ⟨rfl,rfl⟩)|refine jw ?_|(apply zS;exact rfl)|apply zA|apply zI|exact jS|exact jL|exact jP|exact True.intro|intro A)
  all_goals try exact jX
  have hc:=hC _ _ ((B1,⟨bytesV d1,false⟩)::h) (.inr ⟨a0,B1,0,0,d1,false,_,rfl,.head,by omega,List.take_length⟩) (.inl ⟨rfl,rfl⟩)
  repeat'(first|apply zF|apply zB|apply zE|refine jg ?_ ?_|(apply yQ zC;(iterate 3 exact rfl);exact pk)|(refine jc ?_ (c:=by exact⟨_,hc,jK⟩);rintro _ _ ⟨rfl,rfl⟩)|apply zA|apply zN|exact jS|exact jL|exact jU|exact True.intro|exact rfl)
  all_goals try exact jX
  exact jG
 ·refine zY Tryz.func10 rfl rfl ?_
  repeat'((fail_if_success (show SWp _ _ (Code.seq (Code.region 5 _ _) _) _ _ _));(fail_if_success (show SWp _ _ (Code.region 5 _ _) _ _ _));first|apply zF|apply zB|apply zE|refine jg ?_ ?_|(apply yR;exact rfl;exact rfl)|(apply yE zC;(iterate 4 exact rfl);exact⟨rfl⟩;exact up)|refine jy ?_|(refine jc ?_ (c:=by exact⟨_,kA _,jN⟩);rintro _ _ ⟨B1,rfl,rfl⟩)|(refine jc ?_ (c:=by exact⟨_,kB _,jN⟩);rintro _ _ ⟨B2,rfl,rfl⟩)|refine jw ?_|(apply zS;exact rfl)|apply zA|apply zI|exact jS|exact jL|exact jP|exact True.intro|intro A)
  all_goals try exact jX
  have hc:=hC _ _ ((B2,⟨bytesV d2,false⟩)::(B1,⟨bytesV d1,false⟩)::h) (.inr ⟨a0,B1,0,0,d1,false,_,rfl,.tail .head,by omega,List.take_length⟩) (.inr ⟨b0,B2,0,0,d2,false,_,rfl,.head,by omega,List.take_length⟩)
  repeat'(first|apply zF|apply zB|apply zE|refine jg ?_ ?_|(apply yQ zC;(iterate 3 exact rfl);exact pk)|(refine jc ?_ (c:=by exact⟨_,hc,jK⟩);rintro _ _ ⟨rfl,rfl⟩)|apply zA|apply zN|exact jS|exact jL|exact jU|exact True.intro|exact rfl)
  all_goals try exact jX
  exact jG
end Go.Proofs.YteddogfolceahaaGreatDoor
end
section
set_option maxRecDepth 4000
namespace Go.Proofs.YteddogfolceahaaGreatDoor
open Go.Gh Go.RowKit Go.Shelf

theorem copy_gen {P:Program}(w0 wr:World)(h N m c:Nat)(a:Addr)(acc l:List UInt8)(t ty e:TypeId)(hu:P.underlying t=some (.slice e))(hs:(P.info? e).map (·.size)=some 1)
  (hb:Lib.Buf w0 wr h N acc) (hlt:acc.length<N) (hll:l.length=Nat.min (N-acc.length) m) (hsrc:∀(j:Nat) x,l[j]?=some x→wr.cell? (a.add j)=some (.int .u8 (x.toNat:Int))) :
  ∃wr',(Builtin.copy_ #[t,t] ty #[Lib.tailV h N acc.length,.slice (some a) m c]).run P wr=.ok (.int .i64 (l.length:Int)) wr'∧Lib.Buf w0 wr' h N (acc++l)∧∀p,wr'.frozen? p=wr.frozen? p:=by
 have hk2:l.length≤N-acc.length:=by rw[hll];exact Nat.min_le_left _ _
 have hr:=run_copy_cells (P:=P) wr t t ty e h acc.length (N-acc.length) (N-acc.length) a m c (l.map fun x=>Value.int .u8 (x.toNat:Int)) hu hs (by rw[List.length_map,hll];exact Nat.min_comm _ _)
  (fun j u hj=>by
   rw[List.getElem?_map]at hj
   obtain⟨x,hx,rfl⟩:=Option.map_eq_some_iff.1 hj
   exact hsrc j x hx)
  (fun j hj=>by rw[List.length_map]at hj;exact hb.there _ (by omega)) (fun j hj=>by rw[List.length_map]at hj;exact hb.free _ (by omega))
  (fun u hu'=>by obtain⟨x,_,rfl⟩:=List.mem_map.1 hu';rfl)
 rw[List.length_map]at hr
 refine⟨_,by unfold Lib.tailV;rw[if_neg (by omega)];exact hr,?_,fun p=>World.frozen?_setCells ..⟩
 have hin:=World.cell?_setCells_in h (l.map fun x=>Value.int .u8 (x.toNat:Int)) acc.length wr (fun j hj=>by rw[List.length_map]at hj;exact hb.there _ (by omega))
 have hout:=World.cell?_setCells_out h (l.map fun x=>Value.int .u8 (x.toNat:Int)) acc.length wr
 refine⟨?_,?_,?_,?_,by rw[List.length_append];omega⟩
 ·exact Lib.below_setCells h (Nat.le_refl _) _ _ hb.below
 ·intro j hj
  by_cases h1:acc.length≤j∧j<acc.length+l.length
  ·obtain⟨d,rfl⟩:∃d,j=acc.length+d:=⟨j-acc.length,by omega⟩
   rw[hin d (by rw[List.length_map];omega)]
   rfl
  ·rw[hout ⟨h,j,none⟩ (fun _ _=>by rw[List.length_map];show j<_∨_≤j;omega)]
   exact hb.there j hj
 ·intro j hj
  rw[World.frozen?_setCells]
  exact hb.free j hj
 ·intro j x hx
  by_cases h1:j<acc.length
  ·rw[List.getElem?_append_left h1]at hx
   rw[hout ⟨h,j,none⟩ (fun _ _=>Or.inl h1)]
   exact hb.holds j x hx
  ·rw[List.getElem?_append_right (by omega)]at hx
   obtain⟨d,rfl⟩:∃d,j=acc.length+d:=⟨j-acc.length,by omega⟩
   rw[Nat.add_sub_cancel_left]at hx
   have hd:d<l.length:=(List.getElem?_eq_some_iff.1 hx).1
   rw[hin d (by rw[List.length_map];exact hd)]
   simp[List.getElem_map,(List.getElem?_eq_some_iff.1 hx).2]
theorem buf_drew {w0 wr:World}{h N:Nat}{acc:List UInt8}(b:Lib.Buf w0 wr h N acc):Lib.Buf w0 wr.drew h N acc :=
 ⟨b.below.drew,fun j hj=>by rw[World.cell?_drew];exact b.there j hj,fun j hj=>by rw[World.frozen?_drew];exact b.free j hj,fun j x hx=>by rw[World.cell?_drew];exact b.holds j x hx,b.fits⟩
theorem step_copy_run {P:Program}{ops:Array Oper}{o:Oper}{a:Act}{w:World}{K:Act→World→Prop}{Q:Exit→Act→World→Prop}{E:Prop}(hg:o.guard=none)(d s:Operand)(t t':TypeId)
  (ho:o.op=.call { callee:=.builtin .copy,args:=#[d,s],argTypes:=#[t,t'] }) (v u:Value) (hd:a.eval d=v) (hs:a.eval s=u) {v':Value} {w':World}
  (hr:(Builtin.copy_ #[t,t'] o.type #[v,u]).run P w=.ok v' w') (h:K (a.put o.dst v') w'):if Region.wanted o (yielded ops a.tmps)=true then Oper.wp P o a w K Q else E:=by
 have hw:Region.wanted o (yielded ops a.tmps)=true:=by simp[Region.wanted,hg]
 rw[if_pos hw]
 exact Lib.wp_copy_run w d s t t' ho v u hd hs hr h
set_option maxRecDepth 100000 in
set_option maxHeartbeats 4000000 in
theorem repeat_calls (k c:Nat)(a:Addr)(w:World)(hk:1≤k∧k≤8192)(hcell:w.cell? a=some (.int .u8 48)) :
  Calls Tryz.prog 94 #[.slice (some a) 1 c,.int .i64 k] w fun e w'=>e=.returned (.slice (some ⟨w.heap.size,0,none⟩) k k)∧Lib.Buf w w' w.heap.size k (List.replicate k 48)∧∀j,w'.frozen? ⟨w.heap.size,j,none⟩=false:=by
 have t48:=Tryz.underlying48
 have hs5:(Tryz.prog.info? 5).map (·.size)=some 1:=by kernel_rfl
 have z5:∀w,(Go.sizeOf 5).run Tryz.prog w=.ok 1 w:=fun w=>by kernel_rfl
 have k0:((k:Int) == 0)=false:=beq_eq_false_iff_ne.2 (by omega)
 have k1:¬(8192:Int)<(k:Int):=by omega
 have k2:¬(k:Int)<0:=by omega
 have k3:¬(9223372036854775807:Int)<(k:Int):=by omega
 have hM:∀w,Calls Tryz.prog 85 #[.int .u64 1,.int .u64 k] w fun e w'=>e=.returned (.tuple #[.int .u64 0,.int .u64 k])∧w'=w:=fun w=>by
  have:=Tryz.bits_Mul 1 k (by omega) (by omega) w
  rw[Nat.one_mul,Nat.div_eq_of_lt (by omega),Nat.mod_eq_of_lt (by omega)]at this
  exact this
 obtain⟨cs,hrunM,hle,_⟩:=Lib.run_makeNoZero (P:=Tryz.prog) w #[3] 48 5 t48 k (by omega)
 have hcall:(callFunc 142 #[.int .i64 (k:Int)]).run Tryz.prog w=.ok (.value (.slice (some ⟨w.heap.size,0,none⟩) k cs.size)) ((w.alloc (.cells cs 5)).drewN 2):=by
  rw[run_callFunc_extern Tryz.func142 (by kernel_rfl) (by kernel_rfl) (by kernel_rfl) (e:=Extern.BytealgMakeNoZero.makeNoZero #[3] #[48]) (by kernel_rfl),hrunM]
  rfl
 clear hrunM
 have i0:(0:Int)≤(k:Int):=by omega
 have i1:(k:Int)≤(cs.size:Int):=by omega
 have B0:=Lib.Buf.start w cs 5 k 2 hle
 have F0:∀j,((w.alloc (.cells cs 5)).drewN 2).frozen? ⟨w.heap.size,j,none⟩=false:=fun j=>by
  rw[World.frozen?_drewN]
  have:=World.frozen?_alloc_mark w cs 5 0 0 j
  rw[this]
  simp
 have hca:((w.alloc (.cells cs 5)).drewN 2).cell? a=some (.int .u8 48):=Lib.Below.cellOf B0.below hcell (Nat.le_refl _)
 obtain⟨w1,hr1,B1,F1⟩:=copy_gen (P:=Tryz.prog) w _ w.heap.size k 1 c a [] [48] 48 3 5 t48 hs5 B0 hk.1 (show 1=Nat.min (k-0) 1 from(Nat.min_eq_right (by omega)).symm) (fun j x hx=>by
  cases j with
  |zero =>
   have:(48:UInt8)=x:=Option.some.inj hx
   subst this
   rw[show a.add 0=a by unfold Addr.add;simp]
   exact hca
  |succ j=>cases hx)
 rw[List.length_nil,Lib.tailV_zero]at hr1
 rw[List.nil_append]at B1
 have F2:∀j,w1.frozen? ⟨w.heap.size,j,none⟩=false:=fun j=>(F1 _).trans (F0 j)
 have HB1:Aside (Lib.Buf w w1 w.heap.size k (List.replicate 1 48)∧∀j,w1.frozen? ⟨w.heap.size,j,none⟩=false):=⟨B1,F2⟩
 clear B0 B1 F0 F1 F2 hca
 go_enter Tryz.func94,Tryz.ntmps94
 go_wp2_with (first|(go_at_call 85;refine(hM _).mono ?_;rintro e w' ⟨rfl,hw⟩;rw[hw])|(at_builtin;refine Lib.wpList_copy_run _ rfl _ _ 48 48 rfl _ _ rfl rfl hr1 ?_))
 go_loopg [10] (k-1) (fun g s10 wr=>∃m:Nat,1≤m∧m≤k∧g=k-m∧s10=.int .i64 m∧Aside (Lib.Buf w wr w.heap.size k (List.replicate m 48)∧∀j,wr.frozen? ⟨w.heap.size,j,none⟩=false))
 case atStart=>exact⟨1,Nat.le_refl _,hk.1,by omega,rfl,HB1⟩
 case round =>
  obtain⟨m,hm1,hm2,rfl,rfl,HB⟩:=hrel
  by_cases hlt:m<k
  ·have hlt2:(m:Int)<(k:Int):=by omega
   have hle2:(m:Int)≤(k:Int):=by omega
   have hsl1:∀W,(Instr.slice 48 (.slice (some ⟨w.heap.size,0,none⟩) k k) (some (.int .i64 (m:Int))) none none).run Tryz.prog W=.ok (Lib.tailV w.heap.size k m) W:=fun W=>Lib.run_slice_tailV W 48 5 t48 z5 _ k m hm2
   have hsl2:∀W,(Instr.slice 48 (.slice (some ⟨w.heap.size,0,none⟩) k k) none (some (.int .i64 (m:Int))) none).run Tryz.prog W=.ok (.slice (some ⟨w.heap.size,0,none⟩) m k) W:=fun W=>by
    have he:Tryz.prog.elem 48=5:=by simp[Program.elem,t48]
    rw[run_slice_h W 48 _ k k (by rw[he];exact t48) .i64 _ (by omega) hle2,he,z5]
    by_cases h0:k=0
    ·omega
    ·simp[Result.andThen,sliced,Addr.add,h0]
   have hmn:min (m:Int) (k:Int)=m:=by omega
   have hml:(List.replicate m (48:UInt8)).length=m:=List.length_replicate
   obtain⟨w2,hr2,B2,F2⟩:=copy_gen (P:=Tryz.prog) w wr.drew w.heap.size k m k ⟨w.heap.size,0,none⟩ (List.replicate m 48) (List.replicate (Nat.min (k-m) m) 48) 48 3 5 t48 hs5 (buf_drew HB.out.1) (by rw[hml];exact hlt) (by rw[List.length_replicate,hml]) (fun j x hx=>by
    have e:(⟨w.heap.size,0,none⟩:Addr).add j=⟨w.heap.size,j,none⟩:=by unfold Addr.add;split <;> simp_all
    rw[e]
    refine(buf_drew HB.out.1).holds j x ?_
    rw[List.getElem?_replicate]at hx ⊢
    split at hx
    ·rename_i g
     rw[if_pos (Nat.lt_of_lt_of_le g (Nat.min_le_right _ _))]
     exact hx
    ·cases hx)
   rw[hml,List.length_replicate]at hr2
   rw[List.replicate_append_replicate]at B2
   have HB2:Aside (Lib.Buf w w2 w.heap.size k (List.replicate (m+Nat.min (k-m) m) 48)∧∀j,w2.frozen? ⟨w.heap.size,j,none⟩=false):=⟨B2,fun j=>(F2 _).trans (HB.out.2 j)⟩
   clear B2 F2
   have hnm:m+Nat.min (k-m) m≤k:=by
    have:Nat.min (k-m) m≤k-m:=Nat.min_le_left _ _
    omega
   have hn1:1≤Nat.min (k-m) m:=by
    rcases Nat.le_total m (k-m)with g|g
    ·rw[show Nat.min (k-m) m=m from Nat.min_eq_right g];exact hm1
    ·rw[show Nat.min (k-m) m=k-m from Nat.min_eq_left g];omega
   generalize Nat.min (k-m) m=d at *
   go_wp2
   go_region_law (refine step_copy_run rfl (.tmp 70) (.tmp 73) 48 48 rfl (Lib.tailV w.heap.size k m) (.slice (some ⟨w.heap.size,0,none⟩) m k) (by simp[Act.eval,Act.put]) (by simp[Act.eval,Act.put]) hr2 ?_)
   go_wp2
   go_roundg (k-(m+d))
   case measure=>omega
   case rel=>exact⟨m+d,by omega,hnm,rfl,by rw[IntWalk.i64_in _ (by omega)];first|rfl|(congr 1;omega),HB2⟩
  ·obtain rfl:k=m:=by omega
   go_wp2
   go_ret
   exact⟨rfl,HB.out.1,HB.out.2⟩
theorem vget {vs:Array Value}{φ:Nat→Go.Gh.Loc}{L:Lens}{x y:Value}(h:VRel φ L [x,y] vs):∃u v,vs=#[u,v]∧Val φ L x u∧Val φ L y v:=by
 obtain⟨hsz,hget⟩:=h
 obtain⟨u1,v1,x1⟩:=hget 0 _ rfl
 obtain⟨u2,v2,x2⟩:=hget 1 _ rfl
 refine⟨u1,u2,Array.ext hsz fun j hj hj'=>?_,x1,x2⟩
 have hj2:j<2:=hj'
 have:vs[j]?=some vs[j]:=Array.getElem?_eq_getElem hj
 obtain rfl|rfl:j=0∨j=1:=by omega
 ·rw[v1]at this;exact(Option.some.inj this).symm
 ·rw[v2]at this;exact(Option.some.inj this).symm
theorem RepB_any (A fl k:Nat)(ro:Bool)(h q1:SH)(hk:1≤k∧k≤8192)(p1:Pick h A ⟨bytesV [48],ro⟩ q1) :
  SRun Tryz.prog 94 [gsl A 0 1 1 fl,I k] h fun r q=>∃A',r=gsl A' 0 k k 1∧q=(A',⟨bytesV (List.replicate k 48),false⟩)::h:=by
 unfold SRun
 intro H i
 unfold Run
 intro B0 w0 φs Ls φ w vs he hr hvs
 obtain⟨u1,u2,rfl,x1,x2⟩:=vget hvs
 obtain⟨a1,c1,rfl,k1⟩:=slc_bytes (ds:=[48]) hr (i.look p1) rfl (by decide) rfl x1
 cases x2
 have hc:=k1 0 48 rfl
 rw[show a1.add 0=a1 by unfold Addr.add;simp]at hc
 refine(repeat_calls k c1 a1 w hk hc).mono ?_
 rintro e w' ⟨rfl,hb,hf⟩
 have hlen:(bytesV (List.replicate k (48:UInt8))).length=k:=by simp
 have hthere:=hb.there 0 hk.1
 obtain⟨cur,T,fz,hg⟩:∃cur T fz,w'.heap[w.heap.size]?=some (.cells cur T fz):=by
  unfold World.cell? at hthere
  split at hthere
  ·exact⟨_,_,_,by assumption⟩
  ·cases hthere
 have hcell:∀j,w'.cell? ⟨w.heap.size,j,none⟩=cur[j]?:=fun j=>by
  unfold World.cell?
  rw[show(⟨w.heap.size,j,none⟩:Addr).block=w.heap.size from rfl,hg]
  rfl
 have hsz:k≤cur.size:=by
  have:=hb.there (k-1) (by omega)
  rw[hcell]at this
  have h2:=(Option.isSome_iff_exists.1 this)
  obtain⟨v,hv⟩:=h2
  have:=(Array.getElem?_eq_some_iff.1 hv).1
  omega
 have hfz:∀j,¬(fz.1≤j∧j<fz.2):=fun j g=>by
  have:=hf j
  unfold World.frozen? at this
  rw[show(⟨w.heap.size,j,none⟩:Addr).block=w.heap.size from rfl,hg]at this
  simp at this
  have h2:=this g.1
  omega
 obtain⟨y1,y2⟩:=rel_row hr hb.below (Place.app H ⟨bytesV (List.replicate k 48),false⟩) (l0:=⟨w.heap.size,0,cur.size,false⟩) (Nat.le_refl _) rfl (fun _=>⟨⟨_,cur,hg,.cells rfl rfl (fun _ j _=>hfz j),by show 0+_≤cur.size;rw[hlen];omega,fun j u hj=>⟨u,by
  show cur[0+j]?=_
  rw[Nat.zero_add,←hcell]
  unfold bytesV at hj
  rw[List.getElem?_map]at hj
  obtain⟨x,hx,rfl⟩:=Option.map_eq_some_iff.1 hj
  exact hb.holds j x hx,by
  unfold bytesV at hj
  rw[List.getElem?_map]at hj
  obtain⟨x,hx,rfl⟩:=Option.map_eq_some_iff.1 hj
  exact .int _ _⟩⟩⟩)
 refine⟨_,gsl H.length 0 k k 1,_,.slice (some ⟨w.heap.size,0,none⟩) k k,he.trans y1,y2,rfl,?_,(H.length,⟨bytesV (List.replicate k 48),false⟩)::h,⟨H.length,rfl,rfl⟩,i.new _⟩
 refine .slc H.length 0 k k k 1 k _ (by rw[lens_app_eq,hlen]) (Nat.le_refl _) (Nat.le_refl _) (by unfold maxLen;omega) (fun _=>?_)
 rw[yK]
 exact⟨rfl,fun _=>by show 0+0+k*1≤cur.size;omega,rfl⟩
end Go.Proofs.YteddogfolceahaaGreatDoor
end
section
set_option maxRecDepth 4000
namespace Go.Gh
open Go.RowKit Go.MapKept
section
variable {P:Program} {N:Fr} {ops:Array Oper} {Q:Post} {rest:List Oper} {o:Oper} {a:AF} {H:Heap} {α:Type}
theorem e_copyp (T U:TypeId)(x y:Operand){A off n len fl A2 off2 n2 k fl2 E b:Nat}{z:Option Value}{cells vs:List Value}{g2:Blk}
  (ho:o.op=.call { callee:=.builtin .copy,args:=#[x,y],argTypes:=#[T,U] }) (hx:ev a x=some (gsl A off n len fl)) (hy:ev a y=some (gsl A2 off2 n2 k fl2))
  (hT:P.underlying T=some (.slice E)) (hI:tinf P E=some (z,1,b)) (hA:H[A]?=some (some ⟨cells,false⟩)) (hn:cells.length=n) (hA2:H[A2]?=some (some g2)) (hn2:g2.cells.length=n2)
  (hk:k≤len) (hl:vs.length=k) (hfit:off+k≤cells.length) (hc:∀(i:Nat) v,vs[i]?=some v→g2.cells[off2+i]?=some v) (h1:vs.all one=true) :
  AEff P N o a H (I k) (H.set A (some ⟨lset cells off vs,false⟩)):=by
 refine eff_value (fun B0 w0 φ w ac r hf=>?_)
 obtain⟨cap,hu,hlc,hcm,hsz,hmp⟩:=slc_cells r hA hn (zW hf hx)
 obtain⟨cap2,hu2,hlc2,hcm2,hsz2,hmp2⟩:=slc_cells r hA2 hn2 (zW hf hy)
 obtain⟨us,hus,hucell⟩:=cells_rel r hA2 hmp2 off2 hc
 have hul:us.length=vs.length:=by have:=hus.size;simpa using this
 have hone:=vrel_one hus h1
 obtain⟨c,T',fz,k1,k2,k3,k4,k5⟩:=(r.blk A _ hA).ex hmp
 obtain⟨_,hbase⟩:=r.own A _ hA rfl
 simp only at k3 k5
 obtain⟨i,hi,e1,e2,e3⟩:=tinf_some hI
 obtain⟨φ',w',g1,g2',g3⟩:=store_rel (P:=P) (off:=off) (vs:=vs) (us:=us) r hA hmp (by omega) hus hone
 refine⟨φ',.int .i64 k,w',g2',g3,.int _ _,exec_copy ho ?_⟩
 have hload:=run_loadCells_list (P:=P) w ⟨(φ A2).b,(φ A2).base+off2,none⟩ us hucell
 rw[hu,hu2]
 have hmin:Nat.min k len=us.length:=by rw[hul,hl];exact Nat.min_eq_left hk
 simp[Builtin.copy_,run_underlying hT,Builtin.lenOf,Builtin.firstCells,sizeOf,typeInfo,hi,e2,hmin,hload,g1,goInt]
 omega
end
section
variable {P:Program} {tt:TT} {sz:Nat} {ops:Array Oper} {Q:SPost} {rest:List Oper} {a:AF} {h h' h1:SH} {m:Mode} {t:Nat} {ty:TypeId} {pos:String} {aft:Array Edge}
theorem o_copyp {T U:Nat}{x y:Operand}{A off n len fl A2 off2 n2 kk fl2 E s1 b1 b:Nat}{z1 z2:Option Value}{tk:TK}{cells cells' vs:List Value}{g2:Blk}(ht:tt.Ok P)(hx:ev a x=some (gsl A off n len fl))(hy:ev a y=some (gsl A2 off2 n2 kk fl2))
  (hT:tt.get T=some ⟨.slice E,s1,b1,z1⟩) (hE:tt.get E=some ⟨tk,1,b,z2⟩) (hu:Upd h A ⟨cells,false⟩ ⟨cells',false⟩ h') (hp:Pick h A2 g2 h1) (hn:Ln (cells.length=n)) (hn2:Ln (g2.cells.length=n2)) (hk:Ln (kk≤len)) (hl:Ln (vs.length=kk))
  (hpu:Pu (PutAt cells off vs cells')) (hc:Su (SubAt g2.cells off2 vs)) (h1':vs.all one=true) (hN:Nat.blt t sz=true) (hok:m.efOk ops h') (k:GO (m.ef h) P sz ops Q rest ((t,I kk)::a) h') :
  GO m P sz ops Q (⟨some t,.call { callee:=.builtin .copy,args:=#[x,y],argTypes:=#[T,U] },ty,pos,aft,none⟩::rest) a h:=by
 obtain⟨⟨h2,rfl⟩⟩:=hpu
 have hn1:=hn.1
 have hl1:=hl.1
 obtain⟨_,hI,_⟩:=te_inf (TT.get_ok ht hE)
 exact o_upd2 hN hu hp (fun _ _ _ hA hA2 hag=>e_copyp T U x y rfl ((hag.ev (by simp[Op.operands,Call.operands])).trans hx) ((hag.ev (by simp[Op.operands,Call.operands])).trans hy) (te_slice (TT.get_ok ht hT) rfl) hI hA hn.1 hA2 hn2.1 hk.1 hl.1 (by omega) hc.1 h1') hok k
end
end Go.Gh
end
section
set_option maxRecDepth 4000
namespace Go.Proofs.YteddogfolceahaaGreatDoor
open Go.Gh Go.RowKit

theorem put_algn {ds:List UInt8}{k L n:Nat}(hL:ds.length+k≤L)(hn:n=L-ds.length-k):PutAt (bytesV (List.replicate L 48)) (0+n*1) (bytesV ds) (bytesV (algn ds k L)):=by
 subst hn
 refine⟨by simp;omega,?_⟩
 unfold lset algn bytesV
 simp only[List.map_append,List.map_replicate,List.take_replicate,List.drop_replicate,List.length_map]
 rw[show min (0+(L-ds.length-k)*1) L=L-ds.length-k by omega,show L-(0+(L-ds.length-k)*1+ds.length)=k by omega,List.append_assoc]
theorem aligned_any (s:Bool)(e E:Int)(A off fl L k:Nat)(bs ds:List UInt8)(ro:Bool)(h h1:SH)(hp:Pick h A ⟨bytesV bs,ro⟩ h1)(hd:off+ds.length≤bs.length)(hs:(bs.drop off).take ds.length=ds)
  (hk:e-E=k) (he:-4000000≤e∧e≤4000000) (h0:0<ds.length) (hL:ds.length+k<L) (hL8:L≤8192) :
  SRun Tryz.prog 48 [nmV s (gsl A off bs.length ds.length fl) e,I E,I L] h fun r q=>∃B0,r=gsl B0 0 L L 1∧q=(B0,⟨bytesV (algn ds k L),false⟩)::h:=by
 have hR:=fun A h=>RepB_any A 1 L false ((A,⟨[.int .u8 48],false⟩)::h) h (by omega) .head
 have hlb:(bytesV bs).length=bs.length:=by simp
 have hld:(bytesV ds).length=ds.length:=by simp
 have hlr:(bytesV (List.replicate L (48:UInt8))).length=L:=by simp
 have hsub:SubAt (bytesV bs) off (bytesV ds):=by
  have:=subAt_seg (t:=bs) (o:=off) (n:=ds.length) (by omega)
  rwa [hs,Nat.zero_add,Nat.mul_one]at this
 have hput:=put_algn (ds:=ds) (k:=k) (L:=L) (n:=((L:Int)-ds.length-(e-E)).toNat) (by omega) (by omega)
 generalize bytesV (algn ds k L)=Y at *
 refine w_body3 Tryz.func48 rfl rfl ?_
 repeat'((fail_if_success (show SWp _ _ (Code.seq (Code.region 2 _ _) _) _ _ _));(fail_if_success (show SWp _ _ (Code.region 2 _ _) _ _ _));first|apply zF|apply zB|apply zE|refine jg ?_ ?_|refine jx ?_|refine jb ?_|(refine jc ?_ (c:=by exact⟨_,hR _ _,jN⟩);rintro _ _ ⟨B0,rfl,rfl⟩)|apply zA|exact jS|intro A)
 generalize List.replicate L (48:UInt8)=Z at *
 repeat'(first|apply zF|apply zB|apply zE|refine jr ?_|refine jg ?_ ?_|(apply o_ar zC;exact rfl;exact rfl)|(apply zM zC;(iterate 3 exact rfl);exact pk)|(apply o_copyp zC;(iterate 4 exact rfl);exact up;exact pk)|apply zA|apply zN|exact jO|((with_reducible apply Ln.mk);first|rfl|omega)|exact jW|exact jE|((with_reducible apply Pu.mk);first|exact hput)|((with_reducible apply Su.mk);first|exact hsub)|exact bytesV_all _|exact True.intro|refine Rc.mk ⟨_,_,pk,?_⟩|exact Or.inl rfl|apply And.intro|apply Or.inr|exact rfl)
 all_goals try exact jX
 exact jF (k:=by exact⟨B0,rfl,rfl⟩)

theorem vE_shift {F E:Int}{a:Nm}(h1:F≤E)(h2:E≤a.2.2):vE F a=vE E a*((10^(E-F).toNat:Nat):Int):=by
 unfold vE
 rw[show(a.2.2-F).toNat=(a.2.2-E).toNat+(E-F).toNat by omega,Nat.pow_add,←Nat.mul_assoc]
 push_cast
 simp only[Int.mul_assoc]
def sgb (s:Bool):Int:=if s=true then -1 else 1
theorem vE_mE (E:Int)(a:Nm):vE E a=sgb a.1*(mE E a:Int):=rfl
theorem sum_val {p q:Nm}{E:Int}{R:List UInt8}{L:Nat}{c:Int}(hp:okT p)(hq:okT q)(p0:p.2.1≠[])(q0:q.2.1≠[])(hEp:E≤p.2.2)(hEq:E≤q.2.2)(hfp:fst p+2-E≤L)(hfq:fst q+2-E≤L)
  (hm:0≤mag p q) (hR:isD R) (hRl:R.length=L) (hc:c=0∨c=1∨c=-1)
  (hs:(mE E p:Int)+(if p.1=q.1 then 1 else -1)*(mE E q:Int)=dv R+c*((10^L:Nat):Int)) :
  ∀F,F≤E→vE F (p.1,R,E)=vE F p+vE F q:=by
 have hmag:=mag_val hp hq p0 q0 hEp hEq
 have hle:mE E q≤mE E p:=by
  rw[hmag]at hm
  unfold sgn at hm
  split at hm
  ·exact absurd hm (by decide)
  ·omega
 have lp:=mE_lt hp hEp
 have lq:=mE_lt hq hEq
 have l1:10^(fst p+1-E).toNat*10≤10^L:=by
  have gp:=mE_ge hp p0 hEp
  rw[←Nat.pow_succ]
  refine Nat.pow_le_pow_right (by decide) ?_
  have:E≤fst p:=by unfold fst;have:=List.length_pos_iff.2 p0;omega
  omega
 have key:(dv R:Int)=(mE E p:Int)+(if p.1=q.1 then 1 else -1)*(mE E q:Int):=by
  have r2:=dv_lt hR
  rw[hRl]at r2
  generalize 10^L=P at *
  generalize 10^(fst p+1-E).toNat=Pp at *
  have hb:0≤(mE E p:Int)+(if p.1=q.1 then 1 else -1)*(mE E q:Int)∧(mE E p:Int)+(if p.1=q.1 then 1 else -1)*(mE E q:Int)<(P:Int):=by
   split <;> omega
  rw[hs]
  rcases hc with rfl|rfl|rfl <;> omega
 intro F hF
 rw[vE_shift (E:=E) hF (Int.le_refl E),vE_shift hF hEp,vE_shift hF hEq,←Int.add_mul]
 congr 1
 have e1:vE E (p.1,R,E)=sgb p.1*(dv R:Int):=by
  show sgb p.1*((dv R*10^(E-E).toNat:Nat):Int)=_
  rw[Int.sub_self]
  show sgb p.1*((dv R*10^0:Nat):Int)=_
  rw[Nat.pow_zero,Nat.mul_one]
 rw[e1,key,vE_mE,vE_mE,Int.mul_add]
 congr 1
 rw[←Int.mul_assoc]
 congr 1
 cases p.1 <;> cases q.1 <;> rfl
theorem sum_step {x y R:List UInt8}{L j:Nat}{s c d d' c':Int}(hx:x.length=L)(hy:y.length=L)(hj:j<L)(dx:isD x)(dy:isD y)(hd:d=(bat x (j:Int)-48)+c+s*(bat y (j:Int)-48))(hd':d=d'+10*c')(h0:0≤d'∧d'≤9)(hRl:R.length+(j+1)=L)(hR:isD R)
  (h:(dv (x.drop (j+1)):Int)+s*dv (y.drop (j+1))=dv R+c*((10^R.length:Nat):Int)) :
  isD (b8 (48+d')::R)∧(dv (x.drop j):Int)+s*dv (y.drop j)=dv (b8 (48+d')::R)+c'*((10^(R.length+1):Nat):Int):=by
 have hb:=b8_val (n:=48+d') (by omega)
 have gx:=dx _ (List.getElem_mem (show j<x.length by omega))
 have gy:=dy _ (List.getElem_mem (show j<y.length by omega))
 have bx:bat x (j:Int)=(x[j].toNat:Int):=by
  unfold bat
  rw[Int.toNat_natCast,List.getD_eq_getElem?_getD,List.getElem?_eq_getElem (by omega)];rfl
 have bY:bat y (j:Int)=(y[j].toNat:Int):=by
  unfold bat
  rw[Int.toNat_natCast,List.getD_eq_getElem?_getD,List.getElem?_eq_getElem (by omega)];rfl
 have e1:=dv_drop (l:=x) (i:=j) (by omega)
 have e2:=dv_drop (l:=y) (i:=j) (by omega)
 rw[show x.length-(j+1)=R.length by omega]at e1
 rw[show y.length-(j+1)=R.length by omega]at e2
 rw[bx,bY,show(x[j].toNat:Int)-48=((x[j].toNat-48:Nat):Int)by omega,show(y[j].toNat:Int)-48=((y[j].toNat-48:Nat):Int)by omega]at hd
 refine⟨isD_cons.2 ⟨by omega,hR⟩,?_⟩
 rw[e1,e2,dv_cons,show(b8 (48+d')).toNat-48=d'.toNat by omega,Nat.pow_succ]
 have:=add_stp hd hd' h
 push_cast at this ⊢
 rw[Int.toNat_of_nonneg h0.1]
 exact this

structure fitN (a:Nm):Prop where
 t:okT a
 n:a.2.1.length≤17
 f:a.2.1≠[]→-400≤fst a∧fst a≤400
theorem fitN.sz {a:Nm}(g:fitN a):szN a:=by
 refine⟨by have:=g.n;omega,?_⟩
 by_cases h0:a.2.1=[]
 ·rw[g.t.z h0];decide
 ·have h1:=g.f h0
  have h2:=g.n
  unfold fst at h1
  omega
theorem fitN_ok {a:Nm}(h:okT a)(hn:okN a):fitN a:=by
 refine⟨h,?_,fun g=>?_⟩
 ·rcases hn with g|g
  ·rw[g];decide
  ·exact g.1
 ·rcases hn with k|k
  ·exact absurd k g
  ·exact k.2
def SumOf (a b M:Nm):Prop:=okT M∧szN M∧∀F,F≤a.2.2→F≤b.2.2→F≤0→F≤M.2.2∧vE F M=vE F a+vE F b
theorem vE_nil {F:Int}{a:Nm}(h:a.2.1=[]):vE F a=0:=by
 unfold vE
 rw[h,show dv []=0 from rfl,Nat.zero_mul]
 exact Int.mul_zero _
theorem sum_nilL {a b:Nm}(h:a.2.1=[])(hb:fitN b):SumOf a b b:=⟨hb.t,hb.sz,fun F _ h2 _=>⟨h2,by rw[vE_nil h,Int.zero_add]⟩⟩
theorem sum_nilR {a b:Nm}(h:b.2.1=[])(ha:fitN a):SumOf a b a:=⟨ha.t,ha.sz,fun F h1 _ _=>⟨h1,by rw[vE_nil h,Int.add_zero]⟩⟩
theorem zl_suf (l:List UInt8):(zl l).length≤l.length:=by
 obtain⟨j,h1,_⟩:=zl_drop l
 rw[h1,List.length_drop]
 omega
theorem zr_pre (l:List UInt8):(zr l).length≤l.length:=by
 obtain⟨k,h1,_⟩:=zr_take l
 rw[h1,List.length_take]
 omega
theorem sum_fin {p q:Nm}{E:Int}{R:List UInt8}{L:Nat}{c:Int}(hp:fitN p)(hq:fitN q)(p0:p.2.1≠[])(q0:q.2.1≠[])(hE:E=min p.2.2 q.2.2)(hL:(L:Int)=max (fst p) (fst q)-E+2)
  (hm:0≤mag p q) (hR:isD R) (hRl:R.length=L) (hc:c=0∨c=1∨c=-1)
  (hs:(mE E p:Int)+(if p.1=q.1 then 1 else -1)*(mE E q:Int)=dv R+c*((10^L:Nat):Int)):SumOf p q (trD (p.1,R,E)):=by
 have hv:=sum_val hp.t hq.t p0 q0 (by omega) (by omega) (by omega) (by omega) hm hR hRl hc hs
 obtain⟨t1,t2⟩:=trN_ok (a:=(p.1,R,E)) hR
 have h1:=hp.f p0
 have h2:=hq.f q0
 have h3:=hp.n
 have h4:=hq.n
 have e1:fst p=p.2.2+p.2.1.length-1:=rfl
 have e2:fst q=q.2.2+q.2.1.length-1:=rfl
 refine⟨t1,?_,fun F f1 f2 f3=>?_⟩
 ·have z1:=zl_suf R
  have z2:=zr_pre (zl R)
  unfold trD
  dsimp only
  split
  ·exact⟨by decide,by decide,by decide⟩
  ·refine⟨by show(zr (zl R)).length≤_;omega,?_⟩
   show -2000000≤E+((zl R).length:Int)-((zr (zl R)).length:Int)∧E+((zl R).length:Int)-((zr (zl R)).length:Int)≤2000000
   omega
 ·have:=t2 F (by show F≤E;omega) f3
  exact⟨this.1,this.2.trans (hv F (by omega))⟩
theorem mag_swap {a b:Nm}(ha:fitN a)(hb:fitN b)(a0:a.2.1≠[])(b0:b.2.1≠[])(h:mag a b<0):0≤mag b a:=by
 rw[mag_val (E:=min a.2.2 b.2.2) ha.t hb.t a0 b0 (by omega) (by omega)]at h
 rw[mag_val (E:=min a.2.2 b.2.2) hb.t ha.t b0 a0 (by omega) (by omega)]
 unfold sgn at h ⊢
 split at h
 ·rw[if_neg (by omega),if_pos (by omega)];decide
 ·split at h
  ·exact absurd h (by decide)
  ·exact absurd h (by decide)
def Ds (h:SH)(ds:List UInt8)(v:Value)(q:SH):Prop:=(ds=[]∧v=.slice none 0 0∧q=h) ∨
 (ds≠[]∧∃(A off fl:Nat) (bs:List UInt8),v=gsl A off bs.length ds.length fl∧q=(A,⟨bytesV bs,false⟩)::h∧off+ds.length≤bs.length∧(bs.drop off).take ds.length=ds)
theorem Ds.dg {h q:SH}{ds:List UInt8}{v:Value}(g:Ds h ds v q):Dg q v ds:=by
 rcases g with⟨rfl,rfl,rfl⟩|⟨g,A,off,fl,bs,rfl,rfl,g3,g4⟩
 ·exact .inl ⟨rfl,rfl⟩
 ·exact .inr ⟨g,A,off,fl,bs,false,_,rfl,.head,g3,g4⟩
theorem trN_nil {s:Bool}{R:List UInt8}{E:Int}(h:zl R=[]):trD (s,R,E)=(false,[],0):=by
 unfold trD
 dsimp only
 rw[h]
 rfl
theorem trN_ne {s:Bool}{R:List UInt8}{E:Int}(h:zl R≠[]):trD (s,R,E)=(s,zr (zl R),E+(((zl R).length:Int)-((zr (zl R)).length:Int)))∧zr (zl R)≠[]∧(R.length-(zl R).length)+(zr (zl R)).length≤R.length∧(R.drop (R.length-(zl R).length)).take (zr (zl R)).length=zr (zl R):=by
 have h1:=zr_pos R h
 have h0:zr (zl R)≠[]:=fun g=>h1 (by rw[g];rfl)
 obtain⟨j,z1,z2,-⟩:=zl_drop R
 obtain⟨k,y1,y2,-⟩:=zr_take (zl R)
 have l1:(zl R).length=R.length-j:=by rw[z1,List.length_drop]
 have l2:(zr (zl R)).length=k:=by rw[y1,List.length_take];omega
 refine⟨?_,h0,by omega,?_⟩
 ·unfold trD
  dsimp only
  rw[if_neg h0,Int.add_sub_assoc]
 ·rw[l2,show R.length-(zl R).length=j by omega,←z1,←y1]
set_option maxHeartbeats 4000000 in
theorem add_ne (a b:Nm)(v u:Value)(h:SH)(ha:Dg h v a.2.1)(hb:Dg h u b.2.1)(fa:fitN a)(fb:fitN b)(a0:a.2.1≠[])(b0:b.2.1≠[]) :
  SRun Tryz.prog 25 [nmV a.1 v a.2.2,nmV b.1 u b.2.2] h fun r q=>∃M w,SumOf a b M∧r=nmV M.1 w M.2.2∧Ds h M.2.1 w q:=by
 have sa:=fa.sz
 have sb:=fb.sz
 obtain⟨p,p',vp,vq,fp,fq,p0,q0,hm,hdp,hdq,hE,hL,hsw,hcase⟩:∃(p p':Nm) (vp vq:Value),fitN p∧fitN p'∧p.2.1≠[]∧p'.2.1≠[]∧0≤mag p p'∧Dg h vp p.2.1∧Dg h vq p'.2.1∧min a.2.2 b.2.2=min p.2.2 p'.2.2∧max (fst a) (fst b)=max (fst p) (fst p')∧(∀M,SumOf p p' M→SumOf a b M) ∧
   ((mag a b<0∧[B b.1,u,I b.2.2]=[B p.1,vp,I p.2.2]∧[B a.1,v,I a.2.2]=[B p'.1,vq,I p'.2.2])∨(¬mag a b<0∧[B a.1,v,I a.2.2]=[B p.1,vp,I p.2.2]∧[B b.1,u,I b.2.2]=[B p'.1,vq,I p'.2.2])):=by
  by_cases hc:mag a b<0
  ·refine⟨b,a,u,v,fb,fa,b0,a0,mag_swap fa fb a0 b0 hc,hb,ha,by omega,by omega,fun M ⟨m1,m2,m3⟩=>⟨m1,m2,fun F f1 f2 f3=>?_⟩,.inl ⟨hc,rfl,rfl⟩⟩
   have:=m3 F f2 f1 f3
   exact⟨this.1,by rw[this.2,Int.add_comm]⟩
  ·exact⟨a,b,v,u,fa,fb,a0,b0,by omega,ha,hb,rfl,rfl,fun M k=>k,.inr ⟨hc,rfl,rfl⟩⟩
 have hM:=fun h ha hb=>Mag_any a b v u h ha hb sa sb
 obtain⟨ad1,fl1,rfl⟩:=ha.len
 obtain⟨ad2,fl2,rfl⟩:=hb.len
 have hF1:=fun h=>first_any a.1 a.2.2 ad1 a.2.1.length fl1 h sa.1 (by have:=sa.2;omega)
 have hF2:=fun h=>first_any b.1 b.2.2 ad2 b.2.1.length fl2 h sb.1 (by have:=sb.2;omega)
 have ea:a.2.2+(a.2.1.length:Int)-1=fst a:=rfl
 have eb:b.2.2+(b.2.1.length:Int)-1=fst b:=rfl
 rw[ea]at hF1
 rw[eb]at hF2
 have la:=List.length_pos_iff.2 a0
 have lb:=List.length_pos_iff.2 b0
 have ka:=fa.f a0
 have kb:=fb.f b0
 have sa2:=sa.2
 have sb2:=sb.2
 have hEb:-2000000≤min a.2.2 b.2.2∧min a.2.2 b.2.2≤2000000:=by omega
 have hLb:-400≤max (fst a) (fst b)∧max (fst a) (fst b)≤400:=by omega
 generalize hmab:mag a b=mab at *
 generalize fst a=fa1 at *
 generalize fst b=fb1 at *
 obtain⟨s1,d1,x1⟩:=a
 obtain⟨s2,d2,x2⟩:=b
 dsimp only at *
 refine zY Tryz.func25 rfl rfl ?_
 repeat'((fail_if_success (show SWp _ _ (Code.seq (Code.region 7 _ _) _) _ _ _));(fail_if_success (show SWp _ _ (Code.region 7 _ _) _ _ _));first|apply zF|apply zB|apply zE|refine jr ?_|refine jg ?_ ?_|(apply o_ar zC;exact rfl;exact rfl)|(apply o_min;iterate 3 exact rfl)|(apply o_max;iterate 3 exact rfl)|(apply zM zC;(iterate 3 exact rfl);exact pk)|(apply yQ zC;(iterate 3 exact rfl);exact pk)|refine jy ?_|refine jx ?_|(apply yS;(iterate 4 exact rfl);exact⟨_,hF1 _,jN⟩;exact fun _ _ h=>h.1;(focus(repeat(first|exact Flat.c rfl))))|(apply yS;(iterate 4 exact rfl);exact⟨_,hF2 _,jN⟩;exact fun _ _ h=>h.1;(focus(repeat(first|exact Flat.c rfl))))|refine jf ?_|apply zA|apply zI|exact jS|exact jL|exact jW|exact jE|exact jU|exact True.intro|intro A|exact rfl)
 all_goals try exact jX
 rename_i n2 n3
 obtain⟨n4,rfl⟩:∃m,m=A:=⟨_,rfl⟩
 have hM1:=hM ((n4,⟨[B false,.slice none 0 0,I 0],false⟩)::(n3,⟨[B s2,.slice ad2 d2.length fl2,I x2],false⟩)::(n2,⟨[B s1,.slice ad1 d1.length fl1,I x1],false⟩)::h) (ha.re (.drop (.drop (.drop (take_self h))))) (hb.re (.drop (.drop (.drop (take_self h)))))
 repeat'((fail_if_success (show SWp _ _ (Code.cond (Operand.tmp 38) _ _) _ _ _));first|apply zF|apply zB|apply zE|refine jg ?_ ?_|(apply yQ zC;(iterate 3 exact rfl);exact pk)|(refine jc ?_ (c:=by exact⟨_,hM1,jN⟩);rintro _ _ ⟨rfl,rfl⟩)|apply zA|exact jS|exact jL|exact jU|exact True.intro|exact rfl)
 refine w_meet (S:=Unit) (fun _=>[(2,gptr n2 0 3),(3,gptr n3 0 3),(4,gptr n4 0 3),(5,I (min x1 x2)),(6,I (max fa1 fb1-min x1 x2+2))])
  (fun _=>(n4,⟨[B false,.slice none 0 0,I 0],false⟩)::(n3,⟨[B p'.1,vq,I p'.2.2],false⟩)::(n2,⟨[B p.1,vp,I p.2.2],false⟩)::h) (fun _=>True) ?_ ?_
 ·rcases hcase with⟨c1,c2,c3⟩|⟨c1,c2,c3⟩
  ·rw[←c2,←c3]
   repeat'(first|apply zB|apply zE|(apply yQ zC;(iterate 3 exact rfl);exact pk)|(apply yE zC;(iterate 4 exact rfl);exact⟨rfl⟩;exact up)|refine jd ?_|apply zA|exact jL|exact jP|exact jU|exact True.intro|exact rfl)
   all_goals try exact jX
   exact⟨(),trivial,jB,jK⟩
  ·rw[←c2,←c3]
   repeat'(first|refine jf ?_|apply zA|apply zI)
   all_goals try exact jX
   exact⟨(),trivial,jB,jK⟩
 rintro - -
 clear hM hM1 hF1 hF2 hcase ha hb fa fb sa sb
 obtain⟨L,hLn⟩:∃L:Nat,max fa1 fb1-min x1 x2+2=(L:Int):=⟨(max fa1 fb1-min x1 x2+2).toNat,by omega⟩
 rw[hLn]
 rw[hL]at hLn
 generalize min x1 x2=E at *
 have kp0:=List.length_pos_iff.2 p0
 have kq0:=List.length_pos_iff.2 q0
 have ep:fst p=p.2.2+p.2.1.length-1:=rfl
 have eq':fst p'=p'.2.2+p'.2.1.length-1:=rfl
 have hL400:L≤900:=by
  have g1:=fp.f p0
  have g2:=fp.n
  have g3:=fq.f q0
  have g4:=fq.n
  omega
 clear hL hLb ea eb ka kb
 obtain⟨kp,hkp⟩:∃k:Nat,p.2.2-E=k:=⟨(p.2.2-E).toNat,by omega⟩
 obtain⟨kq,hkq⟩:∃k:Nat,p'.2.2-E=k:=⟨(p'.2.2-E).toNat,by omega⟩
 have szp:=fp.sz.2
 have szq:=fq.sz.2
 obtain⟨ax1,ax2,ax3⟩:=algn_ok (l:=p.2.1) (k:=kp) (n:=L) fp.t.d (by omega)
 obtain⟨ay1,ay2,ay3⟩:=algn_ok (l:=p'.2.1) (k:=kq) (n:=L) fq.t.d (by omega)
 have fin:=fun(R:List UInt8) (c:Int) hR hRl hc hs=>hsw _ (sum_fin (p:=p) (q:=p') (E:=E) (R:=R) (L:=L) (c:=c) fp fq p0 q0 hE (by omega) hm hR hRl hc hs)
 have mp:(mE E p:Int)=dv (algn p.2.1 kp L):=by
  rw[ax1];unfold mE;rw[hkp];rfl
 have mq:(mE E p':Int)=dv (algn p'.2.1 kq L):=by
  rw[ay1];unfold mE;rw[hkq];rfl
 rw[mp,mq]at fin
 clear mp mq hsw hm
 rcases hdp with⟨g,_⟩|⟨_,A1,o1,f1,b1,r1,q1,rfl,pk1,y1,z1⟩
 ·exact absurd g p0
 rcases hdq with⟨g,_⟩|⟨_,A2,o2,f2,b2,r2,q2,rfl,pk2,y2,z2⟩
 ·exact absurd g q0
 obtain⟨sp,dp,xp⟩:=p
 obtain⟨sq,dq,xq⟩:=p'
 dsimp only at *
 have hQ1:=aligned_any sp xp E A1 o1 f1 L kp b1 dp r1 ((n4,⟨[B false,.slice none 0 0,I 0],false⟩)::(n3,⟨[B sq,gsl A2 o2 b2.length dq.length f2,I xq],false⟩)::(n2,⟨[B sp,gsl A1 o1 b1.length dp.length f1,I xp],false⟩)::h) _ (.tail (.tail (.tail pk1))) y1 z1 hkp (by omega) (by omega) (by omega) (by omega)
 have hQ2:=fun B1=>aligned_any sq xq E A2 o2 f2 L kq b2 dq r2 ((B1,⟨bytesV (algn dp kp L),false⟩)::(n4,⟨[B false,.slice none 0 0,I 0],false⟩)::(n3,⟨[B sq,gsl A2 o2 b2.length dq.length f2,I xq],false⟩)::(n2,⟨[B sp,gsl A1 o1 b1.length dp.length f1,I xp],false⟩)::h) _ (.tail (.tail (.tail (.tail pk2)))) y2 z2 hkq (by omega) (by omega) (by omega) (by omega)
 generalize algn dp kp L=X at *
 generalize algn dq kq L=Y at *
 repeat'((fail_if_success (show SWp _ _ (Code.seq (Code.region 10 _ _) _) _ _ _));(fail_if_success (show SWp _ _ (Code.region 10 _ _) _ _ _));first|apply zF|apply zE|refine jr ?_|refine jg ?_ ?_|(apply yQ zC;(iterate 3 exact rfl);exact pk)|(apply yU;(iterate 4 exact rfl);exact⟨hQ1,jN⟩;(focus(intro _;(first|exact List.Perm.refl _)));(focus(intro A1 A2 ρ D e1 d1 hρ hD;refine⟨?_,?_⟩;(focus repeat(first|(apply VR.slc';(focus first|exact e1);(focus first|exact d1))));(focus repeat(first|((apply SHR.same);(focus intro x hx;(repeat(first|exact hx));done))|(apply SHR.cons;(focus first|exact e1);(focus repeat(first|((apply VRs.const);(focus first|exact bytesV_const _))))))))))|(apply yU;(iterate 4 exact rfl);exact⟨hQ2 _,jN⟩;(focus(intro _;(first|exact List.Perm.refl _)));(focus(intro A1 A2 ρ D e1 d1 hρ hD;refine⟨?_,?_⟩;(focus repeat(first|(apply VR.slc';(focus first|exact e1);(focus first|exact d1))));(focus repeat(first|((apply SHR.same);(focus intro x hx;(repeat(first|exact hx));done))|(apply SHR.cons;(focus first|exact e1);(focus repeat(first|((apply VRs.const);(focus first|exact bytesV_const _))))))))))|apply zA|exact jS|exact jL|exact jU|exact True.intro|refine Rc.mk ⟨_,_,pk,?_⟩|exact Or.inl rfl|refine Or.inr (And.intro ?_ ?_)|apply And.intro|intro A|exact rfl)
 clear hQ1 hQ2
 rename_i B1
 obtain⟨B2,rfl⟩:∃m,m=A:=⟨_,rfl⟩
 obtain⟨s,hs⟩:∃s:Int,(if sp=sq then(1:Int)else -1)=s:=⟨_,rfl⟩
 rw[hs]at fin
 have dX:X.drop L=[]:=by rw[←ax3];exact List.drop_length
 have dY:Y.drop L=[]:=by rw[←ay3];exact List.drop_length
 have tX:X.take L++[]=X:=by rw[List.append_nil,←ax3];exact List.take_length
 repeat'(first|apply zF|apply zB|apply zE|refine jg ?_ ?_|(apply o_ar zC;exact rfl;exact rfl)|apply zA|apply zH|exact jS|exact jW|fail)
 all_goals try exact jX
 refine zZ (S:=Nat × List UInt8 × Int) (fun x=>[(2,gptr n2 0 3),(3,gptr n3 0 3),(4,gptr n4 0 3),(5,I E),(6,I L),(7,gsl B1 0 L L 1),(8,gsl B2 0 L L 1),(9,I x.2.2),(10,I ((x.1:Int)-1))])
  (fun x=>(B2,⟨bytesV Y,false⟩)::(B1,⟨bytesV (X.take x.1++x.2.1),false⟩)::(n4,⟨[B false,.slice none 0 0,I 0],false⟩)::(n3,⟨[B sq,gsl A2 o2 b2.length dq.length f2,I xq],false⟩)::(n2,⟨[B sp,gsl A1 o1 b1.length dp.length f1,I xp],false⟩)::h)
  (fun x=>x.2.1.length+x.1=L∧isD x.2.1∧(x.2.2=0∨x.2.2=1∨x.2.2=-1)∧(dv (X.drop x.1):Int)+s*dv (Y.drop x.1)=dv x.2.1+x.2.2*((10^x.2.1.length:Nat):Int)) (fun x=>x.1) (L,[],0)
  ⟨by simp,fun b hb=>(by cases hb),.inl rfl,by
   dsimp only
   rw[dX,dY]
   show(0:Int)+s*0=0+0*_
   rw[Int.mul_zero,Int.zero_mul]⟩ jB (by dsimp only;rw[tX];exact jK) ?_
 rintro⟨j,R,c⟩ ⟨hl,hR,hc,he⟩
 dsimp only at hl hR hc he ⊢
 cases j with
 |zero =>
  have hS:=fin R c hR (by omega) hc (by
   have e:=he
   rw[show R.length=L by omega]at e
   exact e)
  obtain rfl:R.length=L:=by omega
  show SWp _ _ _ _ _ ((B2,⟨bytesV Y,false⟩)::(B1,⟨bytesV R,false⟩)::(n4,⟨[B false,.slice none 0 0,I 0],false⟩)::(n3,⟨[B sq,gsl A2 o2 b2.length dq.length f2,I xq],false⟩)::(n2,⟨[B sp,gsl A1 o1 b1.length dp.length f1,I xp],false⟩)::h)
  have hR0:R≠[]:=fun g=>by rw[g]at hLn;exact absurd hLn (by show ¬_=((0:Nat):Int);omega)
  by_cases hz:zl R=[]
  ·have hT:=@trim_nil sp E B1 0 1 R R false ((B2,⟨bytesV Y,false⟩)::(B1,⟨bytesV R,false⟩)::(n4,⟨[B false,.slice none 0 0,I 0],false⟩)::(n3,⟨[B sq,gsl A2 o2 b2.length dq.length f2,I xq],false⟩)::(n2,⟨[B sp,gsl A1 o1 b1.length dp.length f1,I xp],false⟩)::h) _ (.tail .head) (by omega) (by omega) (by rw[List.drop_zero];exact List.take_length) hR0 (by omega) hz
   rw[trN_nil hz]at hS
   repeat'(first|apply zF|apply zB|apply zE|refine jg ?_ ?_|(apply zM zC;(iterate 3 exact rfl);exact pk)|(apply yE zC;(iterate 4 exact rfl);exact⟨rfl⟩;exact up)|(apply yT zC;exact rfl;exact rfl;(focus first|with_reducible exact pl54);exact rfl;(focus repeat(first|exact BuildR.nil|(apply BuildR.one;exact rfl;exact rfl;(first|(focus(repeat(first|exact SetAt.zero|apply SetAt.succ));done)))));exact rfl)|(refine jc ?_ (c:=by exact⟨_,hT,jN⟩);rintro _ _ ⟨rfl,rfl⟩)|(apply zS;exact rfl)|apply zA|apply zK|apply zJ|apply zN|apply zV|exact jS|exact jL|exact jE|exact jP|exact True.intro|exact rfl)
   all_goals try exact jX
   (apply zL;(exact(show ResS _ _ _ _ [_] from(res_cell zC rfl rfl rfl (by exact pk) (by first|rfl|exact ‹_›|omega|(simp ;first|done|omega)) (by first|rfl|exact ‹_›|omega|(simp ;first|done|omega)) trivial)));exact⟨(false,[],0),_,hS,rfl,.inl ⟨rfl,rfl,rfl⟩⟩;(focus repeat with_reducible first|exact Take.nil|apply Take.c|apply Take.drop))
  ·have hT:=@trim_ne sp E B1 0 1 R R false ((B2,⟨bytesV Y,false⟩)::(B1,⟨bytesV R,false⟩)::(n4,⟨[B false,.slice none 0 0,I 0],false⟩)::(n3,⟨[B sq,gsl A2 o2 b2.length dq.length f2,I xq],false⟩)::(n2,⟨[B sp,gsl A1 o1 b1.length dp.length f1,I xp],false⟩)::h) _ (.tail .head) (by omega) (by omega) (by rw[List.drop_zero];exact List.take_length) hR0 (by omega) hz
   obtain⟨m1,m2,m3,m4⟩:=trN_ne (s:=sp) (E:=E) hz
   rw[m1]at hS
   generalize zr (zl R)=W at *
   generalize (zl R).length=wl at *
   repeat'(first|apply zF|apply zB|apply zE|refine jg ?_ ?_|(apply zM zC;(iterate 3 exact rfl);exact pk)|(apply yE zC;(iterate 4 exact rfl);exact⟨rfl⟩;exact up)|(apply yT zC;exact rfl;exact rfl;(focus first|with_reducible exact pl54);exact rfl;(focus repeat(first|exact BuildR.nil|(apply BuildR.one;exact rfl;exact rfl;(first|(focus(repeat(first|exact SetAt.zero|apply SetAt.succ));done)))));exact rfl)|(refine jc ?_ (c:=by exact⟨_,hT,jN⟩);rintro _ _ ⟨rfl,rfl⟩)|(apply zS;exact rfl)|apply zA|apply zK|apply zJ|apply zN|apply zV|exact jS|exact jL|exact jE|exact jP|exact True.intro|exact rfl)
   all_goals try exact jX
   (apply zL;(exact(show ResS _ _ _ _ [_] from(res_cell zC rfl rfl rfl (by exact pk) (by first|rfl|exact ‹_›|omega|(simp ;first|done|omega)) (by first|rfl|exact ‹_›|omega|(simp ;first|done|omega)) trivial)));exact⟨_,_,hS,rfl,.inr ⟨m2,B1,0+(R.length-wl),0,R,rfl,rfl,by show 0+(R.length-wl)+W.length≤R.length;omega,by rw[Nat.zero_add];exact m4⟩⟩;(focus repeat with_reducible first|exact Take.nil|apply Take.c|apply Take.drop))
 |succ j =>
  rw[show(((j+1:Nat):Int)-1)=(j:Int)by omega]
  have hbx:=bat_dig ax2 (j:=j) (by omega)
  have hby:=bat_dig ay2 (j:=j) (by omega)
  have hZl:(X.take (j+1)++R).length=L:=by rw[List.length_append,List.length_take];omega
  have hZj:bat (X.take (j+1)++R) (j:Int)=bat X (j:Int):=by
   rw[bat_lt2 _ _ (by rw[List.length_take];omega)]
   unfold bat
   rw[Int.toNat_natCast,List.getD_eq_getElem?_getD,List.getD_eq_getElem?_getD,List.getElem?_take,if_pos (Nat.lt_succ_self j)]
  have hset:∀b,(X.take (j+1)++R).set ((j:Int)).toNat b=X.take j++b::R:=fun b=>by
   rw[Int.toNat_natCast,List.take_succ_eq_append_getElem (by omega),List.append_assoc,List.set_append_right _ _ (by rw[List.length_take];omega),List.length_take,Nat.min_eq_left (by omega),Nat.sub_self]
   rfl
  generalize X.take (j+1)++R=Z at *
  rw[←hZj]at hbx
  have ez:∀{P:Int→Prop},P (bat X (j:Int))→P (bat Z (j:Int)):=fun {P} h=>by rw[hZj];exact h
  generalize hx:bat Z (j:Int)=x at *
  generalize hy:bat Y (j:Int)=y at *
  by_cases hsg:sp=sq
  ·obtain rfl:s=1:=by rw[←hs];exact if_pos hsg
   rcases(show 9<x-48+c+(y-48)∨x-48+c+(y-48)<0∨(0≤x-48+c+(y-48)∧x-48+c+(y-48)≤9)by omega)with h9|h9|h9
   ·have st:=sum_step (d:=x-48+c+(y-48)) (d':=x-48+c+(y-48)-10) (c':=1) ax3 ay3 (by omega) ax2 ay2 (by omega) (by omega) (by omega) (by omega) hR he
    repeat'(first|apply zF|apply zB|apply zE|refine jg ?_ ?_|(apply o_ar zC;exact rfl;exact rfl)|(apply zM zC;(iterate 3 exact rfl);exact pk)|(apply zX zC;(iterate 4 exact rfl);exact up)|(apply yB;exact rfl)|refine jd ?_|apply zA|apply zG|apply zI|apply zH|exact jO|((with_reducible apply Ln.mk);first|rfl|(simp ;first|done|omega))|((with_reducible apply Wr.mk);first|exact IntWalk.i64_in _ (by omega)|exact IntWalk.u8_in _ (by omega))|((with_reducible apply Ce.mk);first|rfl|exact cell_bytes (by omega))|((with_reducible apply Se.mk);first|exact setAt_bytes (by omega) (by omega))|exact True.intro|exact rfl)
    all_goals try exact jX
    exact⟨(j,b8 (48+(x-48+c+(y-48)-10))::R,1),⟨by show R.length+1+j=L;omega,st.1,.inr (.inl rfl),st.2⟩,by show j<j+1;omega,jB,by rw[hset,hx,hy];dsimp only;exact jK⟩
   ·have st:=sum_step (d:=x-48+c+(y-48)) (d':=x-48+c+(y-48)+10) (c':=-1) ax3 ay3 (by omega) ax2 ay2 (by omega) (by omega) (by omega) (by omega) hR he
    repeat'(first|apply zF|apply zB|apply zE|refine jg ?_ ?_|(apply o_ar zC;exact rfl;exact rfl)|(apply zM zC;(iterate 3 exact rfl);exact pk)|(apply zX zC;(iterate 4 exact rfl);exact up)|(apply yB;exact rfl)|refine jd ?_|refine jf ?_|apply zA|apply zG|apply zI|apply zH|exact jO|((with_reducible apply Ln.mk);first|rfl|(simp ;first|done|omega))|((with_reducible apply Wr.mk);first|exact IntWalk.i64_in _ (by omega)|exact IntWalk.u8_in _ (by omega))|((with_reducible apply Ce.mk);first|rfl|exact cell_bytes (by omega))|((with_reducible apply Se.mk);first|exact setAt_bytes (by omega) (by omega))|exact True.intro|exact rfl)
    all_goals try exact jX
    exact⟨(j,b8 (48+(x-48+c+(y-48)+10))::R,-1),⟨by show R.length+1+j=L;omega,st.1,.inr (.inr rfl),st.2⟩,by show j<j+1;omega,jB,by rw[hset,hx,hy];dsimp only;exact jK⟩
   ·have st:=sum_step (d:=x-48+c+(y-48)) (d':=x-48+c+(y-48)) (c':=0) ax3 ay3 (by omega) ax2 ay2 (by omega) (by omega) (by omega) (by omega) hR he
    repeat'(first|apply zF|apply zB|apply zE|refine jg ?_ ?_|(apply o_ar zC;exact rfl;exact rfl)|(apply zM zC;(iterate 3 exact rfl);exact pk)|(apply zX zC;(iterate 4 exact rfl);exact up)|(apply yB;exact rfl)|refine jd ?_|refine jf ?_|apply zA|apply zG|apply zI|apply zH|exact jO|((with_reducible apply Ln.mk);first|rfl|(simp ;first|done|omega))|((with_reducible apply Wr.mk);first|exact IntWalk.i64_in _ (by omega)|exact IntWalk.u8_in _ (by omega))|((with_reducible apply Ce.mk);first|rfl|exact cell_bytes (by omega))|((with_reducible apply Se.mk);first|exact setAt_bytes (by omega) (by omega))|exact True.intro|exact rfl)
    all_goals try exact jX
    exact⟨(j,b8 (48+(x-48+c+(y-48)))::R,0),⟨by show R.length+1+j=L;omega,st.1,.inl rfl,st.2⟩,by show j<j+1;omega,jB,by rw[hset,hx,hy];dsimp only;exact jK⟩
  ·obtain rfl:s=-1:=by rw[←hs];exact if_neg hsg
   rcases(show 9<x-48+c-(y-48)∨x-48+c-(y-48)<0∨(0≤x-48+c-(y-48)∧x-48+c-(y-48)≤9)by omega)with h9|h9|h9
   ·have st:=sum_step (d:=x-48+c-(y-48)) (d':=x-48+c-(y-48)-10) (c':=1) ax3 ay3 (by omega) ax2 ay2 (by omega) (by omega) (by omega) (by omega) hR he
    repeat'(first|apply zF|apply zB|apply zE|refine jg ?_ ?_|(apply o_ar zC;exact rfl;exact rfl)|(apply zM zC;(iterate 3 exact rfl);exact pk)|(apply zX zC;(iterate 4 exact rfl);exact up)|(apply yB;exact rfl)|refine jd ?_|refine jf ?_|apply zA|apply zG|apply zI|apply zH|exact jO|((with_reducible apply Ln.mk);first|rfl|(simp ;first|done|omega))|((with_reducible apply Wr.mk);first|exact IntWalk.i64_in _ (by omega)|exact IntWalk.u8_in _ (by omega))|((with_reducible apply Ce.mk);first|rfl|exact cell_bytes (by omega))|((with_reducible apply Se.mk);first|exact setAt_bytes (by omega) (by omega))|exact True.intro|exact rfl)
    all_goals try exact jX
    exact⟨(j,b8 (48+(x-48+c-(y-48)-10))::R,1),⟨by show R.length+1+j=L;omega,st.1,.inr (.inl rfl),st.2⟩,by show j<j+1;omega,jB,by rw[hset,hx,hy];dsimp only;exact jK⟩
   ·have st:=sum_step (d:=x-48+c-(y-48)) (d':=x-48+c-(y-48)+10) (c':=-1) ax3 ay3 (by omega) ax2 ay2 (by omega) (by omega) (by omega) (by omega) hR he
    repeat'(first|apply zF|apply zB|apply zE|refine jg ?_ ?_|(apply o_ar zC;exact rfl;exact rfl)|(apply zM zC;(iterate 3 exact rfl);exact pk)|(apply zX zC;(iterate 4 exact rfl);exact up)|(apply yB;exact rfl)|refine jd ?_|refine jf ?_|apply zA|apply zG|apply zI|apply zH|exact jO|((with_reducible apply Ln.mk);first|rfl|(simp ;first|done|omega))|((with_reducible apply Wr.mk);first|exact IntWalk.i64_in _ (by omega)|exact IntWalk.u8_in _ (by omega))|((with_reducible apply Ce.mk);first|rfl|exact cell_bytes (by omega))|((with_reducible apply Se.mk);first|exact setAt_bytes (by omega) (by omega))|exact True.intro|exact rfl)
    all_goals try exact jX
    exact⟨(j,b8 (48+(x-48+c-(y-48)+10))::R,-1),⟨by show R.length+1+j=L;omega,st.1,.inr (.inr rfl),st.2⟩,by show j<j+1;omega,jB,by rw[hset,hx,hy];dsimp only;exact jK⟩
   ·have st:=sum_step (d:=x-48+c-(y-48)) (d':=x-48+c-(y-48)) (c':=0) ax3 ay3 (by omega) ax2 ay2 (by omega) (by omega) (by omega) (by omega) hR he
    repeat'(first|apply zF|apply zB|apply zE|refine jg ?_ ?_|(apply o_ar zC;exact rfl;exact rfl)|(apply zM zC;(iterate 3 exact rfl);exact pk)|(apply zX zC;(iterate 4 exact rfl);exact up)|(apply yB;exact rfl)|refine jf ?_|apply zA|apply zG|apply zI|apply zH|exact jO|((with_reducible apply Ln.mk);first|rfl|(simp ;first|done|omega))|((with_reducible apply Wr.mk);first|exact IntWalk.i64_in _ (by omega)|exact IntWalk.u8_in _ (by omega))|((with_reducible apply Ce.mk);first|rfl|exact cell_bytes (by omega))|((with_reducible apply Se.mk);first|exact setAt_bytes (by omega) (by omega))|exact True.intro|exact rfl)
    all_goals try exact jX
    exact⟨(j,b8 (48+(x-48+c-(y-48)))::R,0),⟨by show R.length+1+j=L;omega,st.1,.inl rfl,st.2⟩,by show j<j+1;omega,jB,by rw[hset,hx,hy];dsimp only;exact jK⟩

theorem Ds.tk {h q:SH}{ds:List UInt8}{v:Value}(g:Ds h ds v q):Take q h:=by
 rcases g with⟨_,_,rfl⟩|⟨_,_,_,_,_,_,rfl,_⟩
 ·exact take_self _
 ·exact .drop (take_self _)
theorem canon_two (M:Nm)(hT:okT M)(hN:okN M):(M.2.1=[]∧∀h,SRun Tryz.prog 24 [S (ctx M)] h fun r q=>r=.tuple #[nmV M.1 (.slice none 0 0) M.2.2,B true]∧q=h) ∨
  (M.2.1≠[]∧∀h,SRun Tryz.prog 24 [S (ctx M)] h fun r q=>∃A,r=.tuple #[nmV M.1 (gsl A 0 M.2.1.length M.2.1.length 0) M.2.2,B true]∧q=(A,⟨bytesV M.2.1,false⟩)::h):=by
 have k:=fun h=>Canon_any M hT hN h
 by_cases h0:M.2.1=[]
 ·refine .inl ⟨h0,fun h=>(k h).mono fun r q ⟨v,e1,e2⟩=>?_⟩
  rcases e2 with⟨_,rfl,rfl⟩|⟨g,_⟩
  ·exact⟨e1,rfl⟩
  ·exact absurd h0 g
 ·refine .inr ⟨h0,fun h=>(k h).mono fun r q ⟨v,e1,e2⟩=>?_⟩
  rcases e2 with⟨g,_⟩|⟨_,A,rfl,rfl⟩
  ·exact absurd g h0
  ·exact⟨A,e1,rfl⟩
theorem add_nilL (s t:Bool)(e f:Int)(ad:Option Addr)(n fl:Nat)(h:SH):SRun Tryz.prog 25 [nmV s (.slice none 0 0) e,nmV t (.slice ad n fl) f] h fun r q=>r=nmV t (.slice ad n fl) f∧q=h:=by
 refine zY Tryz.func25 rfl rfl ?_
 repeat'((fail_if_success (show SWp _ _ (Code.seq (Code.region 5 _ _) _) _ _ _));(fail_if_success (show SWp _ _ (Code.region 5 _ _) _ _ _));first|apply zF|apply zB|apply zE|refine jg ?_ ?_|(apply zM zC;(iterate 3 exact rfl);exact pk)|(apply yQ zC;(iterate 3 exact rfl);exact pk)|(apply yE zC;(iterate 4 exact rfl);exact⟨rfl⟩;exact up)|refine jy ?_|refine jx ?_|(apply yB;exact rfl)|apply zA|apply zP|apply zN|exact jS|exact jL|exact jE|exact jP|exact jU|exact True.intro|intro A|exact rfl)
 all_goals try exact jX
 (apply zL;(exact(show ResS _ _ _ _ [_] from(res_cell zC rfl rfl rfl (by exact pk) (by first|rfl|exact ‹_›|omega|(simp ;first|done|omega)) (by first|rfl|exact ‹_›|omega|(simp ;first|done|omega)) trivial)));exact⟨rfl,rfl⟩;(focus repeat with_reducible first|exact Take.nil|apply Take.c|apply Take.drop))
theorem add_nilR (s t:Bool)(e f:Int)(ad:Option Addr)(n fl:Nat)(h:SH)(hn:n≠0):SRun Tryz.prog 25 [nmV s (.slice ad n fl) e,nmV t (.slice none 0 0) f] h fun r q=>r=nmV s (.slice ad n fl) e∧q=h:=by
 refine zY Tryz.func25 rfl rfl ?_
 repeat'((fail_if_success (show SWp _ _ (Code.seq (Code.region 5 _ _) _) _ _ _));(fail_if_success (show SWp _ _ (Code.region 5 _ _) _ _ _));first|apply zF|apply zB|apply zE|refine jg ?_ ?_|(apply zM zC;(iterate 3 exact rfl);exact pk)|(apply yQ zC;(iterate 3 exact rfl);exact pk)|(apply yE zC;(iterate 4 exact rfl);exact⟨rfl⟩;exact up)|refine jy ?_|refine jx ?_|(apply yB;exact rfl)|refine jf ?_|apply zA|apply zP|apply zI|apply zN|exact jS|exact jL|exact jE|exact jP|exact jU|exact True.intro|intro A|exact rfl)
 all_goals try exact jX
 (apply zL;(exact(show ResS _ _ _ _ [_] from(res_cell zC rfl rfl rfl (by exact pk) (by first|rfl|exact ‹_›|omega|(simp ;first|done|omega)) (by first|rfl|exact ‹_›|omega|(simp ;first|done|omega)) trivial)));exact⟨rfl,rfl⟩;(focus repeat with_reducible first|exact Take.nil|apply Take.c|apply Take.drop))
theorem SumD_any (a b:Nm)(ta:okT a)(tb:okT b)(na:okN a)(nb:okN b)(h:SH) :
  SRun Tryz.prog 9 [S (ctx a),S (ctx b)] h fun r q=>∃M,SumOf a b M∧r=.tuple #[S (txN M).1,I (txN M).2]∧q=h:=by
 have fa:=fitN_ok ta na
 have fb:=fitN_ok tb nb
 have hX:=fun M w q (hS:SumOf a b M) (hD:Dg q w M.2.1)=>text_any M w q hD hS.2.1.1 (by have:=hS.2.1.2;omega)
 rcases canon_two a ta na with⟨a0,kA⟩|⟨a0,kA⟩ <;> rcases canon_two b tb nb with⟨b0,kB⟩|⟨b0,kB⟩
 ·have hS:=sum_nilL a0 fb
  have hx:=fun q=>hX b (.slice none 0 0) q hS (.inl ⟨b0,rfl⟩)
  have hA:=fun h=>add_nilL a.1 b.1 a.2.2 b.2.2 none 0 0 h
  clear hX
  generalize hT:txN b=T at *
  generalize ctx a=x at *
  generalize ctx b=y at *
  refine zY Tryz.func9 rfl rfl ?_
  repeat'(first|apply zF|apply zB|apply zE|refine jg ?_ ?_|(apply yR;exact rfl;exact rfl)|(apply yQ zC;(iterate 3 exact rfl);exact pk)|(apply yE zC;(iterate 4 exact rfl);exact⟨rfl⟩;exact up)|refine jy ?_|refine jq ?_ (c:=by exact⟨_,kA _,jN⟩)|refine jq ?_ (c:=by exact⟨_,kB _,jN⟩)|refine jq ?_ (c:=by exact⟨_,hA _,jN⟩)|refine jq ?_ (c:=by exact⟨_,hx _,jN⟩)|refine jw ?_|(apply zS;exact rfl)|apply zA|apply zI|apply zN|exact jS|exact jL|exact jP|exact jU|exact True.intro|intro A|exact rfl)
  all_goals try exact jX
  exact jF (k:=by exact⟨b,hS,by rw[hT];rfl,rfl⟩)
 ·have hS:=sum_nilL a0 fb
  have hx:=fun B1 h=>hX b (gsl B1 0 b.2.1.length b.2.1.length 0) ((B1,⟨bytesV b.2.1,false⟩)::h) hS (.inr ⟨b0,B1,0,0,b.2.1,false,_,rfl,.head,by omega,List.take_length⟩)
  have hA:=fun B1 h=>add_nilL a.1 b.1 a.2.2 b.2.2 (some ⟨B1,0,some b.2.1.length⟩) b.2.1.length 0 h
  clear hX
  generalize hT:txN b=T at *
  generalize ctx a=x at *
  generalize ctx b=y at *
  obtain⟨s2,d2,x2⟩:=b
  dsimp only at *
  refine zY Tryz.func9 rfl rfl ?_
  repeat'(first|apply zF|apply zB|apply zE|refine jg ?_ ?_|(apply yR;exact rfl;exact rfl)|(apply yQ zC;(iterate 3 exact rfl);exact pk)|(apply yE zC;(iterate 4 exact rfl);exact⟨rfl⟩;exact up)|refine jy ?_|refine jq ?_ (c:=by exact⟨_,kA _,jN⟩)|(refine jc ?_ (c:=by exact⟨_,kB _,jN⟩);rintro _ _ ⟨B1,rfl,rfl⟩)|refine jq ?_ (c:=by exact⟨_,hA _ _,jN⟩)|refine jq ?_ (c:=by exact⟨_,hx _ _,jC⟩)|refine jw ?_|(apply zS;exact rfl)|apply zA|apply zI|apply zN|exact jS|exact jL|exact jP|exact jU|exact True.intro|intro A|exact rfl)
  all_goals try exact jX
  exact jF (k:=by exact⟨_,hS,by rw[hT];rfl,rfl⟩)
 ·have hS:=sum_nilR b0 fa
  have hx:=fun B1 h=>hX a (gsl B1 0 a.2.1.length a.2.1.length 0) ((B1,⟨bytesV a.2.1,false⟩)::h) hS (.inr ⟨a0,B1,0,0,a.2.1,false,_,rfl,.head,by omega,List.take_length⟩)
  have la:=List.length_pos_iff.2 a0
  have hA:=fun B1 h=>add_nilR a.1 b.1 a.2.2 b.2.2 (some ⟨B1,0,some a.2.1.length⟩) a.2.1.length 0 h (by omega)
  clear hX
  generalize hT:txN a=T at *
  generalize ctx a=x at *
  generalize ctx b=y at *
  obtain⟨s1,d1,x1⟩:=a
  dsimp only at *
  refine zY Tryz.func9 rfl rfl ?_
  repeat'(first|apply zF|apply zB|apply zE|refine jg ?_ ?_|(apply yR;exact rfl;exact rfl)|(apply yQ zC;(iterate 3 exact rfl);exact pk)|(apply yE zC;(iterate 4 exact rfl);exact⟨rfl⟩;exact up)|refine jy ?_|(refine jc ?_ (c:=by exact⟨_,kA _,jN⟩);rintro _ _ ⟨B1,rfl,rfl⟩)|refine jq ?_ (c:=by exact⟨_,kB _,jN⟩)|refine jq ?_ (c:=by exact⟨_,hA _ _,jN⟩)|refine jq ?_ (c:=by exact⟨_,hx _ _,jC⟩)|refine jw ?_|(apply zS;exact rfl)|apply zA|apply zI|apply zN|exact jS|exact jL|exact jP|exact jU|exact True.intro|intro A|exact rfl)
  all_goals try exact jX
  exact jF (k:=by exact⟨_,hS,by rw[hT];rfl,rfl⟩)
 ·have hA:=fun v u h ha hb=>add_ne a b v u h ha hb fa fb a0 b0
  generalize ctx a=x at *
  generalize ctx b=y at *
  obtain⟨s1,d1,x1⟩:=a
  obtain⟨s2,d2,x2⟩:=b
  dsimp only at *
  refine zY Tryz.func9 rfl rfl ?_
  repeat'((fail_if_success (show SWp _ _ (Code.seq (Code.region 5 _ _) _) _ _ _));(fail_if_success (show SWp _ _ (Code.region 5 _ _) _ _ _));first|apply zF|apply zB|apply zE|refine jg ?_ ?_|(apply yR;exact rfl;exact rfl)|(apply yE zC;(iterate 4 exact rfl);exact⟨rfl⟩;exact up)|refine jy ?_|(refine jc ?_ (c:=by exact⟨_,kA _,jN⟩);rintro _ _ ⟨B1,rfl,rfl⟩)|(refine jc ?_ (c:=by exact⟨_,kB _,jN⟩);rintro _ _ ⟨B2,rfl,rfl⟩)|refine jw ?_|(apply zS;exact rfl)|apply zA|apply zI|exact jS|exact jL|exact jP|exact True.intro|intro A)
  all_goals try exact jX
  have hA1:=hA (gsl B1 0 d1.length d1.length 0) (gsl B2 0 d2.length d2.length 0) ((B2,⟨bytesV d2,false⟩)::(B1,⟨bytesV d1,false⟩)::h) (.inr ⟨a0,B1,0,0,d1,false,_,rfl,.tail .head,by omega,List.take_length⟩) (.inr ⟨b0,B2,0,0,d2,false,_,rfl,.head,by omega,List.take_length⟩)
  have hx:=fun M w q hS (hD:Ds ((B2,⟨bytesV d2,false⟩)::(B1,⟨bytesV d1,false⟩)::h) M.2.1 w q)=>hX M w q hS hD.dg
  clear hA hX
  repeat'(first|apply zF|apply zB|apply zE|refine jg ?_ ?_|(apply yQ zC;(iterate 3 exact rfl);exact pk)|(refine jc ?_ (c:=by exact⟨_,hA1,jK⟩);rintro _ _ ⟨M,w,hS,rfl,hD⟩)|refine jq ?_ (c:=by exact⟨_,hx _ _ _ ‹SumOf _ _ _› ‹_›,jN⟩)|apply zA|apply zN|exact jS|exact jL|exact jU|exact True.intro|exact rfl)
  all_goals try exact jX
  (apply zL;(exact(show ResS _ _ _ _ [_,_] from⟨rfl,⟨rfl,trivial⟩⟩));exact⟨_,‹_›,rfl,rfl⟩;(focus repeat with_reducible first|exact Take.nil|apply Take.c|apply Take.drop))
  exact(Ds.tk hD).trans (.drop (.drop (take_self h)))

theorem bat_app_lt {p s:List UInt8}{k:Nat}(h:k<p.length):bat (p++s) (k:Int)=bat p (k:Int):=by
 rw[bat_get h,bat_get (by simp;omega),List.getElem_append_left h]
theorem bat_snoc {p:List UInt8}{b:UInt8}:bat (p++[b]) (p.length:Int)=b.toNat:=by
 rw[bat_get (by simp),List.getElem_append_right (by omega)]
 simp
theorem bat_fnum (w:Nat)(x:Int):bat (fnum (w+1) x) (w:Int)=48+x%2:=by
 have:=bat_snoc (p:=fnum w (x/2)) (b:=b8 (48+x%2))
 rw[fnum_len,b8_val (by omega)]at this
 exact this
theorem fnum_bit :∀(w:Nat) (n:Int) (i:Nat),i<w→bat (fnum w n) (i:Int)=48∨bat (fnum w n) (i:Int)=49
 |0,_,_,h=>by omega
 |w+1,n,i,h=>by
  by_cases e:i=w
  ·subst e;rw[bat_fnum];omega
  ·rw[show fnum (w+1) n=fnum w (n/2)++[b8 (48+n%2)] from rfl,bat_app_lt (by rw[fnum_len];omega)]
   exact fnum_bit w _ i (by omega)
theorem isK_fnum {w:Nat}(h:1≤w∧w≤128)(n:Int):isK (fnum w n):=by
 have hb:=fnum_bit w n
 rw[isK_iff]
 refine⟨⟨by rw[fnum_len];omega,by rw[fnum_len];omega,fun i hi=>?_⟩,fun i hi=>?_⟩
 ·rw[fnum_len]at hi
  rcases hb i hi with e|e <;> rw[e] <;> decide
 ·rw[fnum_len]at hi;exact hb i hi

theorem vhd_fin :∀k:Nat,k<9→∀m:Nat,m<128→(k<8→m<2^(7-k))→(k=8→m=0)→vhd k (m:Int)=256-2^(8-k)+(m:Int)∧256-2^(8-k)+(m:Int)<256:=by decide +kernel
theorem vbe_div :∀(k:Nat) (m:Int) (T:List UInt8),(vbe k m T).2=m/256^k
 |0,m,T=>by show m=m/256^0;rw[Int.pow_zero,Int.ediv_one]
 |k+1,m,T=>by
  show(vbe k (m/256) (b8 (m%256)::T)).2=_
  rw[vbe_div k,Int.pow_succ,Int.mul_comm,Int.ediv_ediv_of_nonneg (by decide)]
theorem vks_lt {n:Int}(f k:Nat):vks n f k<k+f→n<vbnd (vks n f k+1):=by
 induction f generalizing k with
 |zero=>intro h;exact absurd h (Nat.lt_irrefl _)
 |succ f ih =>
  intro h
  by_cases g:vbnd (k+1)≤n
  ·rw[show vks n (f+1) k=vks n f (k+1)from if_pos g]at h ⊢
   exact ih (k+1) (by omega)
  ·rw[show vks n (f+1) k=k from if_neg g]
   omega
theorem vbnd_step :∀k:Nat,k<8→vbnd (k+1)=vbnd k+2^(7-k)*256^k:=by decide
theorem vhd_num {n:Int}(h0:0≤n)(h:n≤9223372036854775807):vhd (vk n) (vbe (vk n) (n-vbnd (vk n)) []).2=256-2^(8-vk n)+(vbe (vk n) (n-vbnd (vk n)) []).2 ∧
  0≤(vbe (vk n) (n-vbnd (vk n)) []).2∧256-2^(8-vk n)+(vbe (vk n) (n-vbnd (vk n)) []).2<256∧(vbe (vk n) (n-vbnd (vk n)) []).2<128:=by
 obtain⟨hk1,hk2⟩:=vk_ok h0
 have hlt:vk n<8→n<vbnd (vk n+1):=fun g=>vks_lt (n:=n) 8 0 (by show vk n<0+8;omega)
 rw[vbe_div]
 generalize hK:vk n=K at *
 have hm0:0≤(n-vbnd K)/256^K:=Int.ediv_nonneg (by omega) (Int.le_of_lt (Int.pow_pos (by decide)))
 have hmk:K<8→(n-vbnd K)/256^K<2^(7-K):=fun g=>by
  have:=hlt g
  rw[vbnd_step K g]at this
  exact Int.ediv_lt_of_lt_mul (Int.pow_pos (by decide)) (by omega)
 have hm8:K=8→(n-vbnd K)/256^K=0:=fun g=>by
  subst g
  exact Int.ediv_eq_zero_of_lt (by omega) (by have:=(vbnd_in 8 (by decide)).1;have:(256:Int)^8=18446744073709551616:=rfl;omega)
 obtain⟨m,hm⟩:=Int.eq_ofNat_of_zero_le hm0
 rw[hm]at hmk hm8 ⊢
 have hmk':K<8→m<2^(7-K):=fun g=>by
  have:=hmk g;have e:((2:Int)^(7-K))=((2^(7-K):Nat):Int):=by simp
  omega
 have hm128:m<128:=by
  by_cases g:K<8
  ·have:=hmk' g
   have h2:2^(7-K)≤2^7:=Nat.pow_le_pow_right (by decide) (by omega)
   have h3:(2^7:Nat)=128:=rfl
   omega
  ·have:=hm8 (by omega);omega
 obtain⟨g1,g2⟩:=vhd_fin K (by omega) m hm128 hmk' (fun g=>by have:=hm8 g;omega)
 exact⟨g1,by omega,g2,by omega⟩

theorem vbe_app :∀(k:Nat) (m:Int) (T:List UInt8),(vbe k m T).1=(vbe k m []).1++T
 |0,_,_=>rfl
 |k+1,m,T=>by
  show(vbe k (m/256) (b8 (m%256)::T)).1=(vbe k (m/256) [b8 (m%256)]).1++T
  rw[vbe_app k _ (b8 (m%256)::T),vbe_app k _ [b8 (m%256)],List.append_assoc];rfl
theorem vbe_snoc (k:Nat)(m:Int):(vbe (k+1) m []).1=(vbe k (m/256) []).1++[b8 (m%256)]:=vbe_app k (m/256) [b8 (m%256)]
theorem vbl (k:Nat)(m:Int):(vbe k m []).1.length=k:=by rw[vbe_len];rfl
theorem vbnd_mono :∀b:Nat,b≤8→∀a:Nat,a≤b→vbnd a≤vbnd b:=by decide
theorem vk_lt {n:Int}(h:vk n<8):n<vbnd (vk n+1):=vks_lt (n:=n) 8 0 (by show vk n<0+8;omega)
theorem vhd_top {n:Int}(h0:0≤n)(h:n≤9223372036854775807):∃m:Nat,(vbe (vk n) (n-vbnd (vk n)) []).2=(m:Int)∧m<128∧(vk n<8→m<2^(7-vk n))∧(vk n=8→m=0):=by
 obtain⟨hk1,hk2⟩:=vk_ok h0
 have hlt:=vk_lt (n:=n)
 obtain⟨_,g2,_,g4⟩:=vhd_num h0 h
 obtain⟨m,hm⟩:=Int.eq_ofNat_of_zero_le g2
 rw[hm]at g4
 refine⟨m,hm,by omega,fun g=>?_,fun g=>?_⟩
 ·have h1:=hlt g
  rw[vbnd_step _ g]at h1
  have h2:(n-vbnd (vk n))/256^vk n<2^(7-vk n):=Int.ediv_lt_of_lt_mul (Int.pow_pos (by decide)) (by omega)
  rw[vbe_div]at hm
  rw[hm]at h2
  have e:((2:Int)^(7-vk n))=((2^(7-vk n):Nat):Int):=by simp
  omega
 ·rw[vbe_div,g]at hm
  rw[g]at hk1
  have h8:=(vbnd_in 8 (by decide)).1
  have:(n-vbnd 8)/256^8=0:=Int.ediv_eq_zero_of_lt (by omega) (by have:(256:Int)^8=18446744073709551616:=rfl;omega)
  omega
theorem vnum_cons {n:Int}(h0:0≤n):vnum n=b8 (vhd (vk n) (vbe (vk n) (n-vbnd (vk n)) []).2)::(vbe (vk n) (n-vbnd (vk n)) []).1:=if_neg (by omega)

theorem qless_irr :∀a:List UInt8,Op.bytesLess a a=false
 |[]=>rfl
 |x::a=>by
  show(decide (x<x) || (x == x && Op.bytesLess a a))=false
  rw[qless_irr a];simp
theorem qless_pre :∀(c a b:List UInt8),Op.bytesLess (c++a) (c++b)=Op.bytesLess a b
 |[],_,_=>rfl
 |x::c,a,b=>by
  show(decide (x<x) || (x == x && Op.bytesLess (c++a) (c++b)))=_
  rw[qless_pre c a b];simp
theorem qless_app :∀{a b:List UInt8} (c d:List UInt8),a.length=b.length→Op.bytesLess a b=true→Op.bytesLess (a++c) (b++d)=true
 |[],[],_,_,_,h=>by cases h
 |[],_::_,_,_,hl,_=>by cases hl
 |_::_,[],_,_,hl,_=>by cases hl
 |x::a,y::b,c,d,hl,h=>by
  have h':(decide (x<y) || (x == y && Op.bytesLess a b))=true:=h
  show(decide (x<y) || (x == y && Op.bytesLess (a++c) (b++d)))=true
  simp only[Bool.or_eq_true,decide_eq_true_eq,Bool.and_eq_true,beq_iff_eq]at h' ⊢
  rcases h' with h'|⟨h1,h2⟩
  ·exact .inl h'
  ·exact .inr ⟨h1,qless_app c d (Nat.succ.inj hl) h2⟩
theorem qless_asym :∀{a b:List UInt8},Op.bytesLess a b=true→Op.bytesLess b a=false
 |[],[],h=>by cases h
 |[],_::_,_=>rfl
 |_::_,[],h=>by cases h
 |x::a,y::b,h=>by
  have h':(decide (x<y) || (x == y && Op.bytesLess a b))=true:=h
  show(decide (y<x) || (y == x && Op.bytesLess b a))=false
  simp only[Bool.or_eq_true,decide_eq_true_eq,Bool.and_eq_true,beq_iff_eq]at h'
  rcases h' with h'|⟨rfl,h'⟩
  ·have h1:x.toNat<y.toNat:=UInt8.lt_iff_toNat_lt.1 h'
   have h2:¬y<x:=fun k=>by have:=UInt8.lt_iff_toNat_lt.1 k;omega
   have h3:¬y=x:=fun k=>by rw[k]at h1;omega
   simp[h2,h3]
  ·rw[qless_asym h'];simp
theorem qless_head {x y:UInt8}(a b:List UInt8)(h:x.toNat<y.toNat):Op.bytesLess (x::a) (y::b)=true:=by
 show(decide (x<y) || (x == y && Op.bytesLess a b))=true
 rw[decide_eq_true (UInt8.lt_iff_toNat_lt.2 h)]
 rfl
theorem qless_val :∀{a b:List UInt8},a.length=b.length→val a<val b→Op.bytesLess a b=true
 |[],[],_,h=>by simp[val]at h
 |[],_::_,hl,_=>by cases hl
 |_::_,[],hl,_=>by cases hl
 |x::a,y::b,hl,h=>by
  have hl':a.length=b.length:=Nat.succ.inj hl
  rw[val_cons,val_cons,hl']at h
  have ha:=val_lt a
  have hb:=val_lt b
  rw[hl']at ha
  rcases Nat.lt_trichotomy x.toNat y.toNat with h1|h1|h1
  ·exact qless_head a b h1
  ·have e:x=y:=UInt8.toNat_inj.1 h1
   subst e
   show(decide (x<x) || (x == x && Op.bytesLess a b))=true
   rw[qless_val hl' (by omega)]
   simp
  ·exfalso
   have:=Nat.mul_le_mul_right (256^b.length) h1
   rw[Nat.succ_mul]at this
   omega
theorem fnum_less :∀(w:Nat) (x y:Int),0≤x→y<2^w→x<y→Op.bytesLess (fnum w x) (fnum w y)=true
 |0,x,y,h1,h2,h3=>by
  rw[Int.pow_zero]at h2
  omega
 |w+1,x,y,h1,h2,h3=>by
  rw[Int.pow_succ]at h2
  show Op.bytesLess (fnum w (x/2)++[b8 (48+x%2)]) (fnum w (y/2)++[b8 (48+y%2)])=true
  by_cases g:x/2<y/2
  ·exact qless_app _ _ (by rw[fnum_len,fnum_len]) (fnum_less w _ _ (by omega) (by omega) g)
  ·rw[show x/2=y/2 by omega,qless_pre]
   refine qless_head _ _ ?_
   have e1:=b8_val (n:=48+x%2) (by omega)
   have e2:=b8_val (n:=48+y%2) (by omega)
   omega
theorem emap_known {l:List UInt8}(c:Int)(h:∀i:Nat,i<l.length→bat l (i:Int)=48∨bat l (i:Int)=49):emap (bf c) l=l:=by
 unfold emap
 conv=>rhs;rw[←List.map_id l]
 apply List.map_congr_left
 intro b hb
 obtain⟨i,hi,rfl⟩:=List.getElem_of_mem hb
 have h1:=h i hi
 rw[bat_get hi]at h1
 have e:bf c ((l[i].toNat:Nat):Int)=(l[i].toNat:Int):=by
  unfold bf
  rw[if_neg (by omega)]
 rw[e]
 unfold b8;rw[Int.toNat_natCast];exact UInt8.ofNat_toNat
theorem cmpR_fnum {x y:Int}(hx:0≤x∧x<2^64)(hy:0≤y∧y<2^64):cmpR (fnum 64 x) (fnum 64 y)=(sgn (x-y),true):=by
 have hb:∀(c:Int) (x:Int),bnd c (fnum 64 x)=List.replicate 64 48++fnum 64 x:=fun c x=>by
  unfold bnd
  rw[fnum_len,emap_known c fun i hi=>fnum_bit 64 x i (by rwa [fnum_len]at hi)]
 have hk:∀x:Int,isK (fnum 64 x):=fun x=>isK_fnum (by decide) x
 unfold cmpR
 rw[if_neg (fun g=>g ⟨(hk x).1,(hk y).1⟩),hb,hb,hb,hb,qless_pre]
 rcases Int.lt_trichotomy x y with h|h|h
 ·rw[fnum_less 64 x y hx.1 hy.2 h,if_pos rfl,sgn_neg (by omega)]
 ·subst h
  rw[qless_irr,if_neg (by decide),if_neg (by simp),decide_eq_true (hk x),Int.sub_self,sgn_zero]
  rfl
 ·have h1:=fnum_less 64 y x hy.1 hx.2 h
  have h2:=qless_asym h1
  have h3:(List.replicate 64 (48:UInt8)++fnum 64 x == List.replicate 64 48++fnum 64 y)=false:=by
   apply beq_eq_false_iff_ne.2
   intro e
   have:=List.append_cancel_left e
   rw[this,qless_irr]at h1
   cases h1
  rw[h2,if_neg (by decide),h3,if_pos (by decide),sgn_pos (by omega)]
theorem vbe_val :∀(k:Nat) (m:Int),0≤m→(val (vbe k m []).1:Int)=m%256^k
 |0,m,_=>by
  rw[Int.pow_zero]
  show(0:Int)=m%1
  omega
 |k+1,m,h=>by
  have e1:=b8_val (n:=m%256) (by omega)
  have ih:=vbe_val k (m/256) (by omega)
  rw[vbe_snoc,val_snoc,Int.pow_succ]
  push_cast
  rw[ih,e1,Int.mul_comm (256^k) 256]
  have h1:=Int.mul_ediv_add_emod (m/256) (256^k)
  have hp:(0:Int)<256^k:=Int.pow_pos (by decide)
  have h2:=Int.emod_nonneg (m/256) (show(256:Int)^k≠0 by omega)
  have h3:=Int.emod_lt_of_pos (m/256) hp
  generalize (256:Int)^k=P at *
  generalize m/256/P=Q at *
  generalize hr:m/256%P=R at *
  have e:m=R*256+m%256+256*P*Q:=by
   rw[Int.mul_assoc];omega
  rw[show m%(256*P)=(R*256+m%256+256*P*Q)%(256*P)from congrArg (·%(256*P)) e,Int.add_mul_emod_self_left,Int.emod_eq_of_lt (a:=R*256+m%256) (b:=256*P) (by omega) (by omega)]
theorem vnum_less {x y:Int}(hx:0≤x)(hxy:x<y)(hy:y≤9223372036854775807):Op.bytesLess (vnum x) (vnum y)=true:=by
 obtain⟨kx1,kx2⟩:=vk_ok (n:=x) hx
 obtain⟨ky1,ky2⟩:=vk_ok (n:=y) (by omega)
 obtain⟨mx,ax,bx,cx,dx⟩:=vhd_top (n:=x) hx (by omega)
 obtain⟨my,ay,by',cy,dy⟩:=vhd_top (n:=y) (by omega) hy
 have fx:=vhd_fin (vk x) (by omega) mx bx cx dx
 have fy:=vhd_fin (vk y) (by omega) my by' cy dy
 rw[vnum_cons hx,vnum_cons (by omega:0≤y),ax,ay,fx.1,fy.1]
 have hle:vk x≤vk y:=by
  rcases Nat.lt_or_ge (vk y) (vk x)with g|g
  ·exfalso
   have h1:=vk_lt (n:=y) (by omega)
   have h2:=vbnd_mono (vk x) kx2 (vk y+1) g
   omega
  ·exact g
 have p2:∀a b:Nat,a≤b→(2:Int)^a≤2^b:=fun a b h=>two_pow_le h
 have vx:=b8_val (n:=256-2^(8-vk x)+(mx:Int)) (by have:=p2 (8-vk x) 8 (by omega);have h8:(2:Int)^8=256:=rfl;omega)
 have vy:=b8_val (n:=256-2^(8-vk y)+(my:Int)) (by have:=p2 (8-vk y) 8 (by omega);have h8:(2:Int)^8=256:=rfl;omega)
 rcases Nat.lt_or_ge (vk x) (vk y)with g|g
 ·refine qless_head _ _ ?_
  have h1:(mx:Int)<2^(7-vk x):=by
   have:=cx (by omega)
   exact_mod_cast this
  have h2:(2:Int)^(8-vk x)=2^(7-vk x)*2:=by rw[show 8-vk x=7-vk x+1 by omega,Int.pow_succ]
  have h3:=p2 (8-vk y) (7-vk x) (by omega)
  omega
 ·have e:vk x=vk y:=by omega
  rw[←e]at ay ⊢
  rw[←e]at vy
  have dvx:=vbe_div (vk x) (x-vbnd (vk x)) []
  have dvy:=vbe_div (vk x) (y-vbnd (vk x)) []
  rw[ax]at dvx
  rw[ay]at dvy
  have hdiv:(x-vbnd (vk x))/256^vk x≤(y-vbnd (vk x))/256^vk x:=Int.ediv_le_ediv (Int.pow_pos (by decide)) (by omega)
  rw[←dvx,←dvy]at hdiv
  by_cases h1:mx<my
  ·exact qless_head _ _ (by omega)
  ·have e2:mx=my:=by omega
   rw[e2]
   refine(qless_pre [_] _ _).trans (qless_val (by rw[vbl,vbl]) ?_)
   have w1:=vbe_val (vk x) (x-vbnd (vk x)) (by omega)
   have w2:=vbe_val (vk x) (y-vbnd (vk x)) (by rw[e];omega)
   have q1:=Int.mul_ediv_add_emod (x-vbnd (vk x)) (256^vk x)
   have q2:=Int.mul_ediv_add_emod (y-vbnd (vk x)) (256^vk x)
   rw[←dvx]at q1
   rw[←dvy,←e2]at q2
   omega

theorem ord_less {f:Int→List UInt8}{x y:Int}(h1:x<y→Op.bytesLess (f x) (f y)=true)(h2:y<x→Op.bytesLess (f y) (f x)=true) :
  Op.bytesLess (f x) (f y)=decide (sgn (x-y)<0)∧(!(Op.bytesLess (f x) (f y) || (f x == f y)))=decide (0<sgn (x-y)):=by
 rcases Int.lt_trichotomy x y with h|h|h
 ·rw[h1 h,sgn_neg (by omega)]
  exact⟨rfl,rfl⟩
 ·subst h
  rw[qless_irr,Int.sub_self,sgn_zero]
  exact⟨rfl,by simp⟩
 ·have h3:=h2 h
  have h4:(f x == f y)=false:=by
   apply beq_eq_false_iff_ne.2
   intro e
   rw[e,qless_irr]at h3
   cases h3
  rw[qless_asym h3,h4,sgn_pos (by omega)]
  exact⟨rfl,rfl⟩
theorem cmN_sum {X Y Z P Q:Nm}(hX:okT X)(hY:okT Y)(hP:SumOf X Z P)(hQ:SumOf Y Z Q):cmN X Y=cmN P Q:=by
 obtain⟨F,f1,f2,f3,f4⟩:∃F,F≤X.2.2∧F≤Y.2.2∧F≤Z.2.2∧F≤0:=⟨min (min X.2.2 Y.2.2) (min Z.2.2 0),by omega,by omega,by omega,by omega⟩
 obtain⟨p1,p2⟩:=hP.2.2 F f1 f3 f4
 obtain⟨q1,q2⟩:=hQ.2.2 F f2 f3 f4
 rw[cmN_val hX hY f1 f2,cmN_val hP.1 hQ.1 p1 q1,p2,q2]
 congr 1
 omega
abbrev rng40 (a:Int):Prop:=0≤a∧a≤1099511627776
theorem FromN_64 (m:Int)(h:SH):SRun Tryz.prog 6 [I 64,I m] h fun r q=>r=.tuple #[S (fnum 64 m),I 0]∧q=h:=FromNumber_any 64 m h
set_option maxHeartbeats 4000000 in
theorem Orders_in (a b n:Int)(x y z:List UInt8)(ha:rng40 a)(hb:rng40 b)(hn:rng40 n)(hx:x.length≤9223372036854775807)(hy:y.length≤9223372036854775807)(hz:z.length≤9223372036854775807) :
  SRun Tryz.prog 3 [I a,I b,I n,S x,S y,S z] [] fun r q=>r=B true:=by
 have hV1:=fun h=>rValidD_any x h hx
 have hV2:=fun h=>rValidD_any y h hy
 have hV3:=fun h=>rValidD_any z h hz
 refine w_body6 Tryz.func3 rfl rfl ?_
 repeat'((fail_if_success (show SWp _ _ (Code.seq (Code.region 5 _ _) _) _ _ _));(fail_if_success (show SWp _ _ (Code.region 5 _ _) _ _ _));first|apply zF|apply zB|apply zE|refine jg ?_ ?_|(apply yR;exact rfl;exact rfl)|refine jq ?_ (c:=by exact⟨_,awakeCodec_any _,jN⟩)|(refine jc ?_ (c:=by exact⟨_,hV1 _,jN⟩);rintro _ _ (⟨(_|_),rfl,rfl,k1⟩))|(refine jc ?_ (c:=by exact⟨_,hV2 _,jN⟩);rintro _ _ (⟨(_|_),rfl,rfl,k2⟩))|(refine jc ?_ (c:=by exact⟨_,hV3 _,jN⟩);rintro _ _ (⟨(_|_),rfl,rfl,k3⟩))|refine jw ?_|refine jk ?_|refine ji ?_|(apply yB;exact rfl)|(apply zS;exact rfl)|apply zA|apply zP|apply zI|apply zN|exact jS|fail)
 all_goals first
  |exact jX
  |exact jF (k:=by exact rfl)
  |skip
 obtain⟨X,tX,nX,rfl⟩:=k1 rfl
 obtain⟨Y,tY,nY,rfl⟩:=k2 rfl
 obtain⟨Z,tZ,nZ,rfl⟩:=k3 rfl
 clear hV1 hV2 hV3 k1 k2 k3 hx hy hz
 repeat'((fail_if_success (show SWp _ _ (Code.seq (Code.region 6 _ _) _) _ _ _));(fail_if_success (show SWp _ _ (Code.region 6 _ _) _ _ _));first|apply zF|apply zB|apply zE|refine jg ?_ ?_|apply zA|exact jS|fail)
 refine w_meet (S:=Unit) (fun _=>[(0,I a),(1,I b),(2,I n),(3,S (ctx X)),(4,S (ctx Y)),(5,S (ctx Z)),(13,I (if a<b then -1 else 0))]) (fun _=>[]) (fun _=>True) ?_ ?_
 ·by_cases hab:a<b
  ·rw[if_pos hab]
   repeat'(first|apply zF|apply zB|apply zE|refine jg ?_ ?_|(apply yC;exact rfl;exact ‹_›)|apply zA|exact jS|fail)
   all_goals try exact jX
   exact⟨(),trivial,jB,jK⟩
  ·rw[if_neg hab]
   repeat'(first|apply zF|apply zB|apply zE|refine jg ?_ ?_|(apply yD;exact rfl;exact ‹_›)|apply zA|apply zI|exact jS|fail)
   all_goals try exact jX
   exact⟨(),trivial,jB,jK⟩
 rintro - -
 repeat'((fail_if_success (show SWp _ _ (Code.seq (Code.region 8 _ _) _) _ _ _));(fail_if_success (show SWp _ _ (Code.region 8 _ _) _ _ _));first|apply zF)
 refine w_meet (S:=Unit) (fun _=>[(0,I a),(1,I b),(2,I n),(3,S (ctx X)),(4,S (ctx Y)),(5,S (ctx Z)),(13,I (sgn (a-b)))]) (fun _=>[]) (fun _=>True) ?_ ?_
 ·rcases Int.lt_trichotomy a b with h|h|h
  ·rw[if_pos h,sgn_neg (by omega)]
   repeat'(first|apply zF|apply zB|apply zE|refine jg ?_ ?_|refine jf ?_|apply zA|apply zI|exact jS|fail)
   all_goals try exact jX
   exact⟨(),trivial,jB,jK⟩
  ·rw[if_neg (by omega),show sgn (a-b)=0 by rw[show a-b=0 by omega];rfl]
   repeat'(first|apply zF|apply zB|apply zE|refine jg ?_ ?_|refine jf ?_|apply zA|apply zI|exact jS|fail)
   all_goals try exact jX
   exact⟨(),trivial,jB,jK⟩
  ·rw[if_neg (by omega),sgn_pos (by omega)]
   repeat'(first|apply zF|apply zB|apply zE|refine jg ?_ ?_|(apply yC;exact rfl;exact ‹_›)|apply zA|exact jS|fail)
   all_goals try exact jX
   exact⟨(),trivial,jB,jK⟩
 rintro - -
 have hF1:=fun h=>FromN_64 (a+n) h
 have hF2:=fun h=>FromN_64 (b+n) h
 have hC:=fun h=>Compare_any (fnum 64 (a+n)) (fnum 64 (b+n)) h (by rw[fnum_len];decide) (by rw[fnum_len];decide)
 rw[cmpR_fnum (by omega) (by omega),show a+n-(b+n)=a-b by omega]at hC
 have hN1:=fun h=>Number_any (a+n) h (by omega)
 have hN2:=fun h=>Number_any (b+n) h (by omega)
 have o1:=ord_less (f:=fnum 64) (x:=a+n) (y:=b+n) (fun g=>fnum_less 64 _ _ (by omega) (by omega) g) (fun g=>fnum_less 64 _ _ (by omega) (by omega) g)
 have o2:=ord_less (f:=vnum) (x:=a+n) (y:=b+n) (fun g=>vnum_less (by omega) g (by omega)) (fun g=>vnum_less (by omega) g (by omega))
 rw[show a+n-(b+n)=a-b by omega]at o1 o2
 obtain⟨p1,-⟩:=o1
 obtain⟨p2,p3⟩:=o2
 have hS1:=fun h=>SumD_any X Z tX tZ nX nZ h
 have hS2:=fun h=>SumD_any Y Z tY tZ nY nZ h
 have hK1:=fun h=>Cmp_any X Y tX tY nX nY h
 have hK2:=fun P Q tP nP tQ nQ h=>Cmp_any P Q tP tQ nP nQ h
 generalize sgn (a-b)=w at *
 generalize fnum 64 (a+n)=u1 at *
 generalize fnum 64 (b+n)=u2 at *
 generalize vnum (a+n)=v1 at *
 generalize vnum (b+n)=v2 at *
 repeat'((fail_if_success (show SWp _ _ (Code.seq (Code.region 16 _ _) _) _ _ _));(fail_if_success (show SWp _ _ (Code.region 16 _ _) _ _ _));first|apply zF|apply zB|apply zE|refine jg ?_ ?_|(apply o_ar zC;exact rfl;exact rfl)|(apply yR;exact rfl;exact rfl)|refine jq ?_ (c:=by exact⟨_,hF1 _,jN⟩)|refine jq ?_ (c:=by exact⟨_,hF2 _,jN⟩)|refine jq ?_ (c:=by exact⟨_,hC _,jN⟩)|refine jq ?_ (c:=by exact⟨_,hN1 _,jN⟩)|refine jq ?_ (c:=by exact⟨_,hN2 _,jN⟩)|refine jw ?_|(apply o_gF;(iterate 3 exact rfl);(focus first|omega|exact fun g=>g p2|exact fun g=>g p3))|(apply yD;exact rfl;(focus first|exact fun g=>g p1))|apply zA|apply zI|exact jS|exact jW|fail)
 clear hF1 hF2 hC hN1 hN2 p1 p2 p3
 have hc:=fun P Q hP hQ=>cmN_sum (X:=X) (Y:=Y) (Z:=Z) (P:=P) (Q:=Q) tX tY hP hQ
 generalize ctx X=x at *
 generalize ctx Y=y at *
 generalize ctx Z=z at *
 repeat'((fail_if_success (show SWp _ _ (Code.seq (Code.region 18 _ _) _) _ _ _));(fail_if_success (show SWp _ _ (Code.region 18 _ _) _ _ _));first|apply zF|apply zB|apply zE|refine jg ?_ ?_|(refine jc ?_ (c:=by exact⟨_,hS1 _,jN⟩);rintro _ _ ⟨P,hP,rfl,rfl⟩)|(refine jc ?_ (c:=by exact⟨_,hS2 _,jN⟩);rintro _ _ ⟨Q,hQ,rfl,rfl⟩)|apply zA|exact jS|fail)
 all_goals try exact jX
 have hcc:=hc P Q hP hQ
 have key:∀M:Nm,(okN M∧txN M=(ctx M,0))∨txN M=([],9):=fun M=>by
  by_cases g:okN M
  ·exact .inl ⟨g,if_pos g⟩
  ·exact .inr (if_neg g)
 rcases key P with⟨nP,eP⟩|eP
 ·rcases key Q with⟨nQ,eQ⟩|eQ
  ·have hK:=fun h=>hK2 P Q hP.1 nP hQ.1 nQ h
   rw[eP,eQ]
   rw[hcc]at hK1
   generalize ctx P=p at *
   generalize ctx Q=q at *
   repeat'(first|apply zF|apply zB|apply zE|refine jg ?_ ?_|refine jq ?_ (c:=by exact⟨_,hK1 _,jN⟩)|refine jq ?_ (c:=by exact⟨_,hK _,jN⟩)|refine jw ?_|(apply zS;exact rfl)|apply zA|apply zI|apply zN|exact jS|fail)
   all_goals try exact jX
   exact jF (k:=by exact congrArg Value.bool (decide_eq_true rfl))
  ·rw[eP,eQ]
   repeat'(first|apply zF|apply zB|apply zE|refine jg ?_ ?_|refine jw ?_|(apply yB;exact rfl)|apply zA|apply zP|apply zN|exact jS|fail)
   all_goals try exact jX
   exact jF (k:=by exact rfl)
 ·rw[eP]
  repeat'(first|apply zF|apply zB|apply zE|refine jg ?_ ?_|refine jk ?_|(apply yB;exact rfl)|apply zA|apply zP|apply zN|exact jS|fail)
  all_goals try exact jX
  exact jF (k:=by exact rfl)
set_option maxHeartbeats 4000000 in
theorem Orders_out (a b n:Int)(x y z:List UInt8)(hr:¬(rng40 a∧rng40 b∧rng40 n))(hx:x.length≤9223372036854775807)(hy:y.length≤9223372036854775807)(hz:z.length≤9223372036854775807) :
  SRun Tryz.prog 3 [I a,I b,I n,S x,S y,S z] [] fun r q=>r=B true:=by
 unfold rng40 at hr
 have hV1:=fun h=>rValidD_any x h hx
 have hV2:=fun h=>rValidD_any y h hy
 have hV3:=fun h=>rValidD_any z h hz
 refine w_body6 Tryz.func3 rfl rfl ?_
 repeat'((fail_if_success (show SWp _ _ (Code.seq (Code.region 5 _ _) _) _ _ _));(fail_if_success (show SWp _ _ (Code.region 5 _ _) _ _ _));first|apply zF|apply zB|apply zE|refine jg ?_ ?_|(apply yR;exact rfl;exact rfl)|refine jq ?_ (c:=by exact⟨_,awakeCodec_any _,jN⟩)|refine jw ?_|refine jk ?_|(apply o_sT;(iterate 3 exact rfl);omega;exact rfl)|(apply o_guardF;(iterate 3 exact rfl);all_goals intro hc)|(apply yB;exact rfl)|(apply zS;exact rfl)|apply zA|apply zP|apply zI|apply zN|exact jS|fail)
 all_goals first
  |exact jX
  |exact jF (k:=by exact rfl)
theorem Orders_law (a b n:Int)(x y z:List UInt8)(_:-9223372036854775808≤a∧a≤9223372036854775807)(_:-9223372036854775808≤b∧b≤9223372036854775807)(_:-9223372036854775808≤n∧n≤9223372036854775807)
  (hx:x.length≤9223372036854775807) (hy:y.length≤9223372036854775807) (hz:z.length≤9223372036854775807) :
  SRun Tryz.prog 3 [I a,I b,I n,S x,S y,S z] [] fun r q=>r=B true:=by
 by_cases hr:rng40 a∧rng40 b∧rng40 n
 ·exact Orders_in a b n x y z hr.1 hr.2.1 hr.2.2 hx hy hz
 ·exact Orders_out a b n x y z hr hx hy hz
end Go.Proofs.YteddogfolceahaaGreatDoor
end
