/- Part 9 of the proof of the law TopCheapest: texts merged. No condition. -/
import Derived.Test.YteddogfolceahaaGreatZTopCheapestH
import Derived.RangeFuncNested
import Derived.RangeFuncBound
import Derived.RangeFuncCalls
import Derived.RangeFuncLeaves
import Derived.RangeFuncBox
import Derived.Shelf.Abstract
import Derived.Shelf.RegionOpen
import Derived.WalkKit
import Derived.OwnWalkIn
import Derived.TacticsInMore
import Derived.LoopNIn
import Derived.LoopIn
import Derived.Maps.AppendAt
import Derived.Shelf.Strings.Builder1
import Derived.Shelf.Strings.Builder2
import Derived.Shelf.Strings.BuilderF
import Derived.Shelf.Strings.Prefix
import Derived.Shelf.Bits.Mul64
import Derived.Shelf.Strings.Repeat
import Derived.Test.YteddogfolceahaaGreatProg
import Derived.Laws.IdiomCopy
import Derived.MapKept
set_option linter.unusedSimpArgs false
set_option linter.unusedVariables false
section
set_option maxRecDepth 4000
namespace Go.Proofs.YteddogfolceahaaGreat
open Go.Gh Go.RowKit

def le4 (x:BitVec 32):List UInt8:=[b8 ((x.toNat:Int)%256),b8 ((x.toNat:Int)/256%256),b8 ((x.toNat:Int)/65536%256),b8 ((x.toNat:Int)/16777216%256)]
theorem le4_len (x:BitVec 32):(le4 x).length=4:=rfl
theorem le4_sub (x:BitVec 32):SubAt [Y ((x.toNat:Int)%256),Y ((x.toNat:Int)/256%256),Y ((x.toNat:Int)/65536%256),Y ((x.toNat:Int)/16777216%256)] 0 (bytesV (le4 x)):=by
 have e:bytesV (le4 x)=[Y ((x.toNat:Int)%256),Y ((x.toNat:Int)/256%256),Y ((x.toNat:Int)/65536%256),Y ((x.toNat:Int)/16777216%256)]:=by
  unfold le4
  rw[show ∀a b c d:UInt8,[a,b,c,d]=[a]++([b]++([c]++[d]))from fun _ _ _ _=>rfl,bytesV_app,bytesV_app,bytesV_app,bytesV_one (by omega),bytesV_one (by omega),bytesV_one (by omega),bytesV_one (by omega)]
  rfl
 rw[e];exact zQ
theorem Seal_any (l:List UInt8)(h:SH)(hl:l.length≤1000000):SRun Tryz.prog 58 [S l] h fun r q=>r=S (l++le4 (crcV l))∧q=h:=by
 have hS:=fun h=>Sum_any l h (by omega)
 generalize crcV l=x at *
 refine zR Tryz.func58 rfl rfl ?_
 repeat'(first|apply zF|apply zB|apply zE|(apply o_g zC;exact rfl;exact rfl)|(apply o_ar zC;exact rfl;exact rfl)|(apply o_ex;exact rfl;exact rfl)|(apply zT zC;(iterate 5 exact rfl);(focus decide);exact rfl;(focus decide);(focus repeat(first|exact CatR.nil|(apply CatR.one;exact rfl;exact rfl)));exact rfl)|(apply o_toString zC;(iterate 6 exact rfl);(focus exact pk))|(apply zD;exact rfl;exact rfl;(focus first|exact rfl);exact rfl;(focus exact⟨_,hS _,by repeat with_reducible exact Take.nil⟩);rintro _ _ ⟨rfl,rfl⟩)|apply zA|apply zN|((with_reducible apply Sd.mk);first|exact True.intro|omega|(simp only[le4_len,List.length_nil];omega))|((with_reducible apply Ln.mk);first|rfl)|((with_reducible apply Wr.mk);first|exact IntKind.wrap_u8 _)|((with_reducible apply Ex.mk);first|rfl)|((with_reducible apply Su.mk);first|exact le4_sub x)|exact True.intro|intro A|exact rfl)
 (apply zL;(exact(show ResS _ _ _ _ [_] from⟨rfl,trivial⟩));(focus exact⟨rfl,rfl⟩);(focus repeat with_reducible first|exact Take.nil|apply Take.c|apply Take.drop))

def synN (l:List UInt8)(k:Nat):Nat→Nat
 |0=>0
 |i+1=>synN l k i+(bat l ((k+i:Nat):Int)).toNat*256^i
theorem synN_lt (l:List UInt8)(k:Nat):∀i,synN l k i<256^i
 |0=>by show 0<1;decide
 |i+1=>by
  have h1:=synN_lt l k i
  have h2:=bat_255 l ((k+i:Nat):Int)
  have h3:(bat l ((k+i:Nat):Int)).toNat≤255:=by omega
  have h4:=Nat.mul_le_mul_right (256^i) h3
  show synN l k i+_<256^(i+1)
  rw[Nat.pow_succ]
  omega
theorem or_add {a b n:Nat}(h:a<2^n):a ||| b*2^n=a+b*2^n:=by
 have h1:=Nat.shiftLeft_add_eq_or_of_lt h b
 rw[Nat.shiftLeft_eq]at h1
 rw[Nat.or_comm,←h1,Nat.add_comm]
theorem syn_step {l:List UInt8}{k i:Nat}(hi:i<4):(BitVec.ofInt 32 ((synN l k i:Nat):Int) ||| BitVec.ofInt 32 (((bat l ((k+i:Nat):Int)).toNat*256^i:Nat):Int)).toNat=synN l k (i+1):=by
 have h1:=synN_lt l k i
 have h2:=bat_255 l ((k+i:Nat):Int)
 have h3:(bat l ((k+i:Nat):Int)).toNat≤255:=by omega
 have h6:=Nat.mul_le_mul_right (256^i) h3
 have h4:256^i≤256^3:=Nat.pow_le_pow_right (by decide) (by omega)
 have h5:256^3=16777216:=rfl
 show _=synN l k i+_
 generalize synN l k i=a at *
 generalize (bat l ((k+i:Nat):Int)).toNat=b at *
 have hp:256^i=2^(8*i):=by rw[Nat.pow_mul]
 rw[BitVec.toNat_or,BitVec.toNat_ofInt,BitVec.toNat_ofInt]
 have e1:(((a:Nat):Int)%((2^32:Nat):Int)).toNat=a:=by omega
 have e2:(((b*256^i:Nat):Int)%((2^32:Nat):Int)).toNat=b*256^i:=by
  generalize b*256^i=c at *
  omega
 rw[e1,e2,hp]
 rw[hp]at h1
 exact or_add h1
theorem syndrome_val (l:List UInt8)(h:SH)(hl:l.length≤1000000)(h4:4≤l.length):SRun Tryz.prog 29 [S l] h fun r q=>r=UB (crcV (l.take (l.length-4))^^^BitVec.ofNat 32 (synN l (l.length-4) 4))∧q=h:=by
 obtain⟨k,hk⟩:∃k,l.length=k+4:=⟨l.length-4,by omega⟩
 rw[show l.length-4=k by omega]
 have hS:=fun h=>Sum_any (l.take k) h (by rw[List.length_take];omega)
 generalize crcV (l.take k)=c at *
 refine zR Tryz.func29 rfl rfl ?_
 repeat'(first|apply zF|apply zB|apply zE|(apply o_g zC;exact rfl;exact rfl)|(apply o_ar zC;exact rfl;exact rfl)|apply zA|apply zH|((with_reducible apply Sd.mk);first|exact True.intro)|((with_reducible apply Wr.mk);first|exact IntWalk.i64_in _ (by omega)))
 refine zZ (S:=Nat × Nat) (fun s=>[(0,S l),(3,I k),(4,.int .u32 ((s.2:Nat):Int)),(9,I s.1)]) (fun _=>h) (fun s=>s.1≤4∧s.2=synN l k s.1) (fun s=>4-s.1) (0,0) ⟨Nat.zero_le _,rfl⟩ ⟨rfl,congrArg some (congrArg (Value.int .i64) (by omega)),rfl,rfl,trivial⟩ (by repeat with_reducible first|exact Take.nil|apply Take.c|apply Take.drop) ?_
 rintro⟨i,v⟩ ⟨hi,he⟩
 dsimp only at hi he ⊢
 by_cases h8:i<4
 ·have hb:=bat_255 l ((k+i:Nat):Int)
  have hst:=syn_step (l:=l) (k:=k) h8
  rw[←he]at hst
  have hw:IntKind.u32.wrap (bat l (((k:Nat):Int)+(i:Int))*2^(min ((8*(i:Int)).toNat) IntKind.u32.bits))=(((bat l ((k+i:Nat):Int)).toNat*256^i:Nat):Int):=by
   rw[show(((k:Nat):Int)+(i:Int))=((k+i:Nat):Int)by omega]
   generalize bat l ((k+i:Nat):Int)=b at *
   obtain⟨m,rfl⟩:=Int.eq_ofNat_of_zero_le hb.1
   rw[Int.toNat_natCast]
   have hp:(2:Int)^(min ((8*(i:Int)).toNat) IntKind.u32.bits)=((256^i:Nat):Int):=by
    rw[show IntKind.u32.bits=32 from rfl,show(8*(i:Int)).toNat=8*i by omega,Nat.min_eq_left (by omega),show(256:Nat)^i=2^(8*i)by rw[Nat.pow_mul]]
    simp
   rw[hp]
   have h4:256^i≤256^3:=Nat.pow_le_pow_right (by decide) (by omega)
   have h5:256^3=16777216:=rfl
   have h6:=Nat.mul_le_mul (show m≤255 by omega) (show 256^i≤16777216 by omega)
   rw[←Int.natCast_mul]
   generalize m*256^i=t at *
   exact IntWalk.u32_in _ (by omega)
  have hb2:0≤bat l (((k:Nat):Int)+(i:Int))∧bat l (((k:Nat):Int)+(i:Int))≤255:=bat_255 _ _
  repeat'(first|apply zF|apply zB|apply zE|(apply o_g zC;exact rfl;exact rfl)|(apply o_ar zC;exact rfl;exact rfl)|(apply yC;exact rfl;(focus first|omega))|apply zA|apply zG|apply zI|apply zH|((with_reducible apply Sd.mk);first|exact True.intro|omega)|((with_reducible apply Wr.mk);first|exact hw|exact IntWalk.u32_in _ (by omega)|exact bw _|exact IntWalk.i64_in _ (by omega)))
  all_goals first|(exfalso;omega)|skip
  exact⟨(i+1,synN l k (i+1)),⟨h8,rfl⟩,by show 4-(i+1)<4-i;omega,⟨rfl,rfl,congrArg (fun n:Nat=>some (Value.int .u32 (n:Int))) hst,rfl,trivial⟩,(by repeat with_reducible first|exact Take.nil|apply Take.c|apply Take.drop)⟩
 ·obtain rfl:i=4:=by omega
  have hlt:=synN_lt l k 4
  rw[←he]at hlt ⊢
  have h256:256^4=4294967296:=rfl
  repeat'(first|apply zF|apply zB|apply zE|(apply o_g zC;exact rfl;exact rfl)|(apply o_ar zC;exact rfl;exact rfl)|(apply zD;exact rfl;exact rfl;(focus first|exact rfl);exact rfl;(focus exact⟨_,hS _,by repeat with_reducible exact Take.nil⟩);rintro _ _ ⟨rfl,rfl⟩)|(apply zS;exact rfl)|apply zA|apply zK|apply zJ|apply zN|apply zV|((with_reducible apply Sd.mk);first|exact True.intro|omega)|((with_reducible apply Wr.mk);first|exact bw _))
  all_goals first|(exfalso;omega)|skip
  (apply zL;(exact(show ResS _ _ _ _ [_] from⟨rfl,trivial⟩));(focus exact⟨congrArg (fun x:BitVec 32=>UB x) (show BitVec.ofInt 32 (c.toNat:Int)^^^BitVec.ofInt 32 (v:Int)=c^^^BitVec.ofNat 32 v by rw[ofInt_toNat,BitVec.ofInt_natCast]),rfl⟩);(focus repeat with_reducible first|exact Take.nil|apply Take.c|apply Take.drop))
theorem syndrome_any (l:List UInt8)(h:SH)(hl:l.length≤1000000)(h4:4≤l.length):SRun Tryz.prog 29 [S l] h fun r q=>∃x:BitVec 32,r=UB x∧(x=0#32↔(crcV (l.take (l.length-4))).toNat=synN l (l.length-4) 4)∧q=h :=
 (syndrome_val l h hl h4).mono fun r q ⟨e1,e2⟩=>⟨_,e1,by
  have hlt:=synN_lt l (l.length-4) 4
  have h256:256^4=4294967296:=rfl
  rw[BitVec.xor_eq_zero_iff]
  constructor
  ·intro g
   rw[g,BitVec.toNat_ofNat];omega
  ·intro g
   apply BitVec.eq_of_toNat_eq
   rw[g,BitVec.toNat_ofNat];omega,e2⟩

theorem bat_dropN (l:List UInt8)(k i:Nat):bat (l.drop k) (i:Int)=bat l ((k+i:Nat):Int):=by
 unfold bat
 rw[Int.toNat_natCast,Int.toNat_natCast,List.getD_eq_getElem?_getD,List.getD_eq_getElem?_getD,List.getElem?_drop]
theorem four_of {l:List UInt8}(h:l.length=4):∃a b c d,l=[a,b,c,d]:=by
 match l,h with
 |[a,b,c,d],_=>exact⟨a,b,c,d,rfl⟩
theorem le4_at (x:BitVec 32):bat (le4 x) 0=(x.toNat:Int)%256∧bat (le4 x) 1=(x.toNat:Int)/256%256∧bat (le4 x) 2=(x.toNat:Int)/65536%256∧bat (le4 x) 3=(x.toNat:Int)/16777216%256 :=
 ⟨b8_val (by omega),b8_val (by omega),b8_val (by omega),b8_val (by omega)⟩
theorem synN_four (l:List UInt8)(k:Nat):(synN l k 4:Int)=bat (l.drop k) 0+bat (l.drop k) 1*256+bat (l.drop k) 2*65536+bat (l.drop k) 3*16777216:=by
 have h0:=bat_255 l ((k+0:Nat):Int)
 have h1:=bat_255 l ((k+1:Nat):Int)
 have h2:=bat_255 l ((k+2:Nat):Int)
 have h3:=bat_255 l ((k+3:Nat):Int)
 have e0:=bat_dropN l k 0
 have e1:=bat_dropN l k 1
 have e2:=bat_dropN l k 2
 have e3:=bat_dropN l k 3
 have g0:bat (l.drop k) 0=bat l ((k+0:Nat):Int):=e0
 have g1:bat (l.drop k) 1=bat l ((k+1:Nat):Int):=e1
 have g2:bat (l.drop k) 2=bat l ((k+2:Nat):Int):=e2
 have g3:bat (l.drop k) 3=bat l ((k+3:Nat):Int):=e3
 rw[g0,g1,g2,g3]
 have e:synN l k 4=0+(bat l ((k+0:Nat):Int)).toNat*1+(bat l ((k+1:Nat):Int)).toNat*256+(bat l ((k+2:Nat):Int)).toNat*65536+(bat l ((k+3:Nat):Int)).toNat*16777216:=rfl
 rw[e]
 omega
theorem syn_le4 {l:List UInt8}{k:Nat}(hl:l.length=k+4)(x:BitVec 32):x.toNat=synN l k 4↔l.drop k=le4 x:=by
 have h4:=synN_four l k
 obtain⟨a,b,c,d,e⟩:=four_of (l:=l.drop k) (by rw[List.length_drop];omega)
 have hx:=x.isLt
 rw[e]at h4 ⊢
 have ha:bat [a,b,c,d] 0=a.toNat:=rfl
 have hb:bat [a,b,c,d] 1=b.toNat:=rfl
 have hc:bat [a,b,c,d] 2=c.toNat:=rfl
 have hd:bat [a,b,c,d] 3=d.toNat:=rfl
 have la:=a.toNat_lt
 have lb:=b.toNat_lt
 have lc:=c.toNat_lt
 have ld:=d.toNat_lt
 obtain⟨q0,q1,q2,q3⟩:=le4_at x
 constructor
 ·intro g
  have w:∀{p q:UInt8},(p.toNat:Int)=q.toNat→p=q:=fun h=>UInt8.toNat_inj.1 (by omega)
  have ex:le4 x=[b8 ((x.toNat:Int)%256),b8 ((x.toNat:Int)/256%256),b8 ((x.toNat:Int)/65536%256),b8 ((x.toNat:Int)/16777216%256)]:=rfl
  rw[ex,w (p:=a) (q:=b8 ((x.toNat:Int)%256)) (by rw[b8_val (by omega)];omega),w (p:=b) (q:=b8 ((x.toNat:Int)/256%256)) (by rw[b8_val (by omega)];omega),
   w (p:=c) (q:=b8 ((x.toNat:Int)/65536%256)) (by rw[b8_val (by omega)];omega),w (p:=d) (q:=b8 ((x.toNat:Int)/16777216%256)) (by rw[b8_val (by omega)];omega)]
 ·intro g
  rw[←g]at q0 q1 q2 q3
  omega
def opn (l:List UInt8):List UInt8 × Int:=if 4≤l.length∧l.drop (l.length-4)=le4 (crcV (l.take (l.length-4)))then(l.take (l.length-4),0)else([],12)
theorem Open_any (l:List UInt8)(h:SH)(hl:l.length≤1000000):SRun Tryz.prog 63 [S l] h fun r q=>r=.tuple #[S (opn l).1,I (opn l).2]∧q=h:=by
 unfold opn
 by_cases h4:4≤l.length
 ·obtain⟨k,hk⟩:∃k,l.length=k+4:=⟨l.length-4,by omega⟩
  have hS:∀h,SRun Tryz.prog 29 [S l] h fun r q=>∃x:BitVec 32,r=UB x∧((x.toNat:Int)=0↔l.drop (l.length-4)=le4 (crcV (l.take (l.length-4))))∧q=h:=fun h=>(syndrome_any l h hl h4).mono fun r q ⟨x,e1,e2,e3⟩=>⟨x,e1,by
   rw[←syn_le4 (by omega),←e2]
   constructor
   ·intro g;apply BitVec.eq_of_toNat_eq;show x.toNat=0;omega
   ·rintro rfl;rfl,e3⟩
  by_cases hc:l.drop (l.length-4)=le4 (crcV (l.take (l.length-4)))
  ·rw[if_pos ⟨h4,hc⟩]
   have hS2:∀h,SRun Tryz.prog 29 [S l] h fun r q=>r=.int .u32 0∧q=h:=fun h=>(hS h).mono fun r q ⟨x,e1,e2,e3⟩=>⟨by rw[e1];exact congrArg (Value.int .u32) (e2.2 hc),e3⟩
   clear hS
   refine zR Tryz.func63 rfl rfl ?_
   repeat'(first|apply zF|apply zB|apply zE|(apply o_g zC;exact rfl;exact rfl)|(apply o_ar zC;exact rfl;exact rfl)|(apply zD;exact rfl;exact rfl;(focus first|exact rfl);exact rfl;(focus exact⟨_,hS2 _,by repeat with_reducible exact Take.nil⟩);rintro _ _ ⟨rfl,rfl⟩)|(apply zU;exact rfl;exact rfl)|(apply o_gF;(iterate 3 exact rfl);(focus first|omega))|(apply zS;exact rfl)|apply zA|apply zI|apply zN|((with_reducible apply Sd.mk);first|exact True.intro|omega)|((with_reducible apply Wr.mk);first|exact IntWalk.i64_in _ (by omega)))
   all_goals first
    |(exfalso;omega)
    |contradiction
    |skip
   rw[show l.length-4=k by omega]
   (apply zL;(exact(show ResS _ _ _ _ [_,_] from⟨rfl,⟨rfl,trivial⟩⟩));(focus exact⟨by rw[show((l.length:Int)-4).toNat=k by omega];rfl,rfl⟩);(focus repeat with_reducible first|exact Take.nil|apply Take.c|apply Take.drop))
  ·rw[if_neg (fun g=>hc g.2)]
   have hS2:∀h,SRun Tryz.prog 29 [S l] h fun r q=>∃n:Int,r=.int .u32 n∧n≠0∧q=h:=fun h=>(hS h).mono fun r q ⟨x,e1,e2,e3⟩=>⟨_,e1,fun g=>hc (e2.1 g),e3⟩
   clear hS hc
   refine zR Tryz.func63 rfl rfl ?_
   repeat'(first|apply zF|apply zB|apply zE|(apply o_g zC;exact rfl;exact rfl)|(apply zD;exact rfl;exact rfl;(focus first|exact rfl);exact rfl;(focus exact⟨_,hS2 _,by repeat with_reducible exact Take.nil⟩);rintro _ _ ⟨n,rfl,hn,rfl⟩)|(apply zU;exact rfl;exact rfl)|(apply o_gF;(iterate 3 exact rfl);(focus first|omega))|(apply yC;exact rfl;(focus first|exact ‹_›))|apply zA|apply zP|apply zN|((with_reducible apply Sd.mk);first|exact True.intro))
   all_goals first
    |(exfalso;omega)
    |contradiction
    |(apply zL;(exact(show ResS _ _ _ _ [_,_] from⟨rfl,⟨rfl,trivial⟩⟩));(focus exact⟨rfl,rfl⟩);(focus repeat with_reducible first|exact Take.nil|apply Take.c|apply Take.drop))
 ·rw[if_neg (fun g=>h4 g.1)]
  refine zR Tryz.func63 rfl rfl ?_
  repeat'(first|apply zF|apply zB|apply zE|(apply o_g zC;exact rfl;exact rfl)|(apply yF;iterate 4 exact rfl)|(apply o_sT;(iterate 3 exact rfl);(focus first|omega);exact rfl)|(apply yB;exact rfl)|apply zA|apply zP|apply zN|((with_reducible apply Sd.mk);first|exact True.intro))
  all_goals first
   |(exfalso;omega)
   |(apply zL;(exact(show ResS _ _ _ _ [_,_] from⟨rfl,⟨rfl,trivial⟩⟩));(focus exact⟨rfl,rfl⟩);(focus repeat with_reducible first|exact Take.nil|apply Take.c|apply Take.drop))

theorem vText_any (l:List UInt8)(h:SH)(hl:l.length≤1000000):SRun Tryz.prog 59 [S l] h fun r q=>r=S (vnum l.length++l)∧q=h:=by
 have hN:=fun h=>Number_any (l.length:Int) h (by omega)
 have hs1:=vnum_len (n:=(l.length:Int)) (by omega)
 have hs2:=(vk_ok (n:=(l.length:Int)) (by omega)).2
 generalize vnum (l.length:Int)=V at *
 refine zR Tryz.func59 rfl rfl ?_
 repeat'(first|apply zF|apply zB|apply zE|(apply o_g zC;exact rfl;exact rfl)|(apply zD;exact rfl;exact rfl;(focus first|exact rfl);exact rfl;(focus exact⟨_,hN _,by repeat with_reducible exact Take.nil⟩);rintro _ _ ⟨rfl,rfl⟩)|apply zA|apply zN|((with_reducible apply Sd.mk);first|exact True.intro|omega))
 all_goals first
  |(exfalso;omega)
  |(apply zL;(exact(show ResS _ _ _ _ [_] from⟨rfl,trivial⟩));(focus exact⟨rfl,rfl⟩);(focus repeat with_reducible first|exact Take.nil|apply Take.c|apply Take.drop))
def tkR (l:List UInt8)(e x:Int):List UInt8 × List UInt8 × Int:=if e≠0 then([],l,e)else if x<0 then([],l,2)else if l.length<x then([],l,12)else(l.take x.toNat,l.drop x.toNat,0)
theorem rTakeG_any (n:Nat)(l:List UInt8)(e x:Int)(h:SH)(hl:l.length≤1000000):SRun Tryz.prog 50 [gptr n 0 2,I x] (rdB n l e::h) fun r q=>r=S (tkR l e x).1∧q=rdB n (tkR l e x).2.1 (tkR l e x).2.2::h:=by
 unfold tkR
 by_cases he:e=0
 ·subst he
  rw[if_neg (fun k=>k rfl)]
  by_cases h1:x<0
  ·rw[if_pos h1]
   refine zY Tryz.func50 rfl rfl ?_
   repeat'(first|apply zF|apply zB|apply zE|(apply o_g zC;exact rfl;exact rfl)|(apply zM zC;(iterate 3 exact rfl);(focus exact pk))|(apply zD;exact rfl;exact rfl;(focus first|exact rfl);exact rfl;(focus exact⟨_,rfail_any _ _ _ _ _,by repeat with_reducible exact Take.nil⟩);rintro _ _ rfl)|(apply zS;exact rfl)|(apply yC;exact rfl;(focus first|exact ‹_›))|apply zA|apply zG|apply zN|apply zH|((with_reducible apply Sd.mk);first|exact True.intro)|((with_reducible apply Ln.mk);first|rfl)|((with_reducible apply Ce.mk);first|rfl)|exact True.intro|exact rfl)
   all_goals first
    |(exfalso;omega)
    |(apply zL;(exact(show ResS _ _ _ _ [_] from⟨rfl,trivial⟩));(focus exact⟨rfl,rfl⟩);(focus repeat with_reducible first|exact Take.nil|apply Take.c|apply Take.drop))
    |contradiction
  rw[if_neg h1]
  by_cases h2:(l.length:Int)<x
  ·rw[if_pos h2]
   refine zY Tryz.func50 rfl rfl ?_
   repeat'(first|apply zF|apply zB|apply zE|(apply o_g zC;exact rfl;exact rfl)|(apply zM zC;(iterate 3 exact rfl);(focus exact pk))|(apply zD;exact rfl;exact rfl;(focus first|exact rfl);exact rfl;(focus exact⟨_,rfail_any _ _ _ _ _,by repeat with_reducible exact Take.nil⟩);rintro _ _ rfl)|(apply zS;exact rfl)|(apply yC;exact rfl;(focus first|exact ‹_›))|(apply yD;exact rfl;(focus first|omega))|apply zA|apply zG|apply zN|apply zH|((with_reducible apply Sd.mk);first|exact True.intro)|((with_reducible apply Ln.mk);first|rfl)|((with_reducible apply Ce.mk);first|rfl)|exact True.intro|exact rfl)
   all_goals first
    |(exfalso;omega)
    |(apply zL;(exact(show ResS _ _ _ _ [_] from⟨rfl,trivial⟩));(focus exact⟨rfl,rfl⟩);(focus repeat with_reducible first|exact Take.nil|apply Take.c|apply Take.drop))
    |contradiction
  rw[if_neg h2]
  exact rTake_any n l x h (by omega) (by omega)
 ·rw[if_pos he]
  refine zY Tryz.func50 rfl rfl ?_
  repeat'(first|apply zF|apply zB|apply zE|(apply o_g zC;exact rfl;exact rfl)|(apply zM zC;(iterate 3 exact rfl);(focus exact pk))|(apply yC;exact rfl;(focus first|exact ‹_›))|apply zA|apply zG|apply zI|apply zN|apply zH|((with_reducible apply Sd.mk);first|exact True.intro)|((with_reducible apply Ln.mk);first|rfl)|((with_reducible apply Ce.mk);first|rfl)|exact True.intro|exact rfl)
  all_goals first
   |(exfalso;omega)
   |contradiction
   |(apply zL;(exact(show ResS _ _ _ _ [_] from⟨rfl,trivial⟩));(focus exact⟨rfl,rfl⟩);(focus repeat with_reducible first|exact Take.nil|apply Take.c|apply Take.drop))
def txt (l:List UInt8):Option (List UInt8 × List UInt8) :=
 if(rdN l 4096).2.2=0∧(rdN l 4096).1≤(rdN l 4096).2.1.length then some ((rdN l 4096).2.1.take (rdN l 4096).1.toNat,(rdN l 4096).2.1.drop (rdN l 4096).1.toNat)else none
def txtR (l:List UInt8)(r:Value)(n:Nat)(q:SH)(h:SH):Prop:=match txt l with
 |some (s,d)=>r=S s∧q=rdB n d 0::h
 |none=>∃e,e≠0∧r=S []∧q=rdB n l e::h
theorem rText_any (n:Nat)(l:List UInt8)(h:SH)(hl:l.length≤1000000):SRun Tryz.prog 62 [gptr n 0 2,I 4096] (rdB n l 0::h) fun r q=>txtR l r n q h:=by
 have hN:=fun h=>rNumber_any n l 4096 h hl
 obtain⟨k1,k2⟩:=rdN_ok l 4096
 obtain⟨T,hT⟩:∃T,txt l=T:=⟨_,rfl⟩
 unfold txtR
 rw[hT]
 unfold txt at hT
 generalize rdN l 4096=V at *
 obtain⟨x,d,e⟩:=V
 dsimp only at *
 have hK:=fun h=>rTakeG_any n d e x h (by omega)
 have hz:e≠0→tkR d e x=([],d,e):=fun g=>if_pos g
 by_cases he:e=0
 ·subst he
  have hx:=k2 rfl
  by_cases h2:x≤d.length
  ·rw[if_pos ⟨rfl,h2⟩]at hT
   subst hT
   rw[show tkR d 0 x=(d.take x.toNat,d.drop x.toNat,0)by unfold tkR;rw[if_neg (fun k=>k rfl),if_neg (by omega),if_neg (by omega)]]at hK
   refine zY Tryz.func62 rfl rfl ?_
   repeat'(first|apply zF|apply zB|apply zE|(apply o_g zC;exact rfl;exact rfl)|(apply zM zC;(iterate 3 exact rfl);(focus exact pk))|(apply o_makeFunc;iterate 3 exact rfl)|(apply zD;exact rfl;exact rfl;(focus first|exact rfl);exact rfl;(focus exact⟨_,hN _,by repeat with_reducible exact Take.nil⟩);rintro _ _ ⟨rfl,rfl⟩)|(apply zD;exact rfl;exact rfl;(focus first|exact rfl);exact rfl;(focus exact⟨_,hK _,by repeat with_reducible exact Take.nil⟩);rintro _ _ ⟨rfl,rfl⟩)|(apply zS;exact rfl)|apply zA|apply zI|apply zN|((with_reducible apply Sd.mk);first|exact True.intro)|((with_reducible apply Ln.mk);first|rfl)|((with_reducible apply Ce.mk);first|rfl)|exact True.intro|exact rfl)
   all_goals first
    |contradiction
    |(apply zL;(exact(show ResS _ _ _ _ [_] from⟨rfl,trivial⟩));(focus exact⟨rfl,rfl⟩);(focus repeat with_reducible first|exact Take.nil|apply Take.c|apply Take.drop))
  ·rw[if_neg (fun g=>h2 g.2)]at hT
   subst hT
   rw[show tkR d 0 x=([],d,12)by unfold tkR;rw[if_neg (fun k=>k rfl),if_neg (by omega),if_pos (by omega)]]at hK
   refine zY Tryz.func62 rfl rfl ?_
   repeat'(first|apply zF|apply zB|apply zE|(apply o_g zC;exact rfl;exact rfl)|(apply zM zC;(iterate 3 exact rfl);(focus exact pk))|(apply zX zC;(iterate 4 exact rfl);(focus exact up))|(apply o_makeFunc;iterate 3 exact rfl)|(apply zD;exact rfl;exact rfl;(focus first|exact rfl);exact rfl;(focus exact⟨_,hN _,by repeat with_reducible exact Take.nil⟩);rintro _ _ ⟨rfl,rfl⟩)|(apply zD;exact rfl;exact rfl;(focus first|exact rfl);exact rfl;(focus exact⟨_,hK _,by repeat with_reducible exact Take.nil⟩);rintro _ _ ⟨rfl,rfl⟩)|(apply yB;exact rfl)|apply zA|apply zP|apply zN|((with_reducible apply Sd.mk);first|exact True.intro)|((with_reducible apply Ln.mk);first|rfl)|((with_reducible apply Ce.mk);first|rfl)|((with_reducible apply Se.mk);first|(focus(repeat(first|exact SetAt.zero));done))|exact True.intro|exact rfl)
   all_goals first
    |contradiction
    |(apply zL;(exact(show ResS _ _ _ _ [_] from⟨rfl,trivial⟩));(focus exact⟨12,by decide,rfl,rfl⟩);(focus repeat with_reducible first|exact Take.nil|apply Take.c|apply Take.drop))
 ·rw[if_neg (fun g=>he g.1)]at hT
  subst hT
  rw[hz he]at hK
  refine zY Tryz.func62 rfl rfl ?_
  repeat'(first|apply zF|apply zB|apply zE|(apply o_g zC;exact rfl;exact rfl)|(apply zM zC;(iterate 3 exact rfl);(focus exact pk))|(apply zX zC;(iterate 4 exact rfl);(focus exact up))|(apply o_makeFunc;iterate 3 exact rfl)|(apply zD;exact rfl;exact rfl;(focus first|exact rfl);exact rfl;(focus exact⟨_,hN _,by repeat with_reducible exact Take.nil⟩);rintro _ _ ⟨rfl,rfl⟩)|(apply zD;exact rfl;exact rfl;(focus first|exact rfl);exact rfl;(focus exact⟨_,hK _,by repeat with_reducible exact Take.nil⟩);rintro _ _ ⟨rfl,rfl⟩)|(apply yC;exact rfl;(focus first|exact ‹_›))|apply zA|apply zP|apply zN|((with_reducible apply Sd.mk);first|exact True.intro)|((with_reducible apply Ln.mk);first|rfl)|((with_reducible apply Ce.mk);first|rfl)|((with_reducible apply Se.mk);first|(focus(repeat(first|exact SetAt.zero));done))|exact True.intro|exact rfl)
  all_goals first
   |contradiction
   |(apply zL;(exact(show ResS _ _ _ _ [_] from⟨rfl,trivial⟩));(focus exact⟨e,he,rfl,rfl⟩);(focus repeat with_reducible first|exact Take.nil|apply Take.c|apply Take.drop))

def hd2 (k:Int):List UInt8:=[b8 165,b8 k]
theorem hd2_len (k:Int):(hd2 k).length=2:=rfl
theorem hd2_sub {k:Int}(hk:0≤k∧k≤255):SubAt [Y 165,Y k] 0 (bytesV (hd2 k)):=by
 have e:bytesV (hd2 k)=[Y 165,Y k]:=by
  unfold hd2
  rw[show ∀a b:UInt8,[a,b]=[a]++[b] from fun _ _=>rfl,bytesV_app,bytesV_one (by omega),bytesV_one (by omega)]
  rfl
 rw[e];exact zQ
def frm (k:Int)(b:List UInt8):List UInt8:=hd2 k++(vnum b.length++b)
def sl (t:List UInt8):List UInt8:=t++le4 (crcV t)
abbrev frV (k:Int)(c:List UInt8):Value:=.agg ⟨[I k,S c]⟩
def wrp (k:Int)(c:List UInt8):List UInt8 × Int :=
 if k<0∨15<k then([],2)else if 4096<c.length then([],9)else(if(lzE c).1.length<c.length then sl (frm (k+16) (lzE c).1)else sl (frm k c),0)
theorem Wrap_any (k:Int)(c:List UInt8)(h:SH)(hl:c.length≤9223372036854775807):SRun Tryz.prog 26 [frV k c] h fun r q=>r=.tuple #[S (wrp k c).1,I (wrp k c).2]∧q=h:=by
 unfold wrp
 by_cases hk:k<0∨15<k
 ·rw[if_pos hk]
  rcases hk with hk|hk
  all_goals
   refine zR Tryz.func26 rfl rfl ?_
   repeat'(first|apply zF|apply zB|apply zE|(apply o_g zC;exact rfl;exact rfl)|(apply zM zC;(iterate 3 exact rfl);(focus exact pk))|(apply o_box (tt:=tyT);iterate 5 exact rfl)|(apply zU;exact rfl;exact rfl)|(apply yF;iterate 4 exact rfl)|(apply o_gF;(iterate 3 exact rfl);(focus first|omega))|(apply o_sT;(iterate 3 exact rfl);(focus first|omega);exact rfl)|(apply yB;exact rfl)|(apply yC;exact rfl;(focus first|omega))|apply zA|apply zP|apply zN|((with_reducible apply Sd.mk);first|exact True.intro)|((with_reducible apply Ln.mk);first|rfl)|((with_reducible apply Ce.mk);first|rfl)|exact True.intro|intro A|exact rfl)
   all_goals first
    |(exfalso;omega)
    |(apply zL;(exact(show ResS _ _ _ _ [_,_] from⟨rfl,⟨rfl,trivial⟩⟩));(focus exact⟨rfl,rfl⟩);(focus repeat with_reducible first|exact Take.nil|apply Take.c|apply Take.drop))
 rw[if_neg hk]
 have hE:=fun h=>Encode_any' c h hl
 by_cases h4:4096<c.length
 ·rw[if_pos h4]
  rw[show lzE c=([],9)from if_pos h4]at hE
  refine zR Tryz.func26 rfl rfl ?_
  repeat'(first|apply zF|apply zB|apply zE|(apply o_g zC;exact rfl;exact rfl)|(apply zM zC;(iterate 3 exact rfl);(focus exact pk))|(apply o_box (tt:=tyT);iterate 5 exact rfl)|(apply zD;exact rfl;exact rfl;(focus first|exact rfl);exact rfl;(focus exact⟨_,hE _,by repeat with_reducible exact Take.nil⟩);rintro _ _ ⟨rfl,rfl⟩)|(apply zU;exact rfl;exact rfl)|(apply o_gF;(iterate 3 exact rfl);(focus first|omega))|(apply yB;exact rfl)|(apply yD;exact rfl;(focus first|omega))|apply zA|apply zP|apply zI|apply zN|((with_reducible apply Sd.mk);first|exact True.intro)|((with_reducible apply Ln.mk);first|rfl)|((with_reducible apply Ce.mk);first|rfl)|exact True.intro|intro A|exact rfl)
  all_goals first
   |(exfalso;omega)
   |contradiction
   |(apply zL;(exact(show ResS _ _ _ _ [_,_] from⟨rfl,⟨rfl,trivial⟩⟩));(focus exact⟨rfl,rfl⟩);(focus repeat with_reducible first|exact Take.nil|apply Take.c|apply Take.drop))
 rw[if_neg h4]
 obtain⟨z,hz⟩:∃z,lzE c=(z,0):=⟨_,if_neg h4⟩
 rw[hz]at hE ⊢
 dsimp only at hE ⊢
 by_cases hs:z.length<c.length
 ·rw[if_pos hs]
  have hT:=fun h=>vText_any z h (by omega)
  have hs1:=vnum_len (n:=(z.length:Int)) (by omega)
  have hs2:=(vk_ok (n:=(z.length:Int)) (by omega)).2
  have hS:=fun h=>Seal_any (hd2 (k+16)++(vnum (z.length:Int)++z)) h (by rw[List.length_append,List.length_append,hd2_len];omega)
  have hsl:sl (frm (k+16) z)=hd2 (k+16)++(vnum (z.length:Int)++z)++le4 (crcV (hd2 (k+16)++(vnum (z.length:Int)++z))):=rfl
  rw[hsl]
  have hsub:=hd2_sub (k:=k+16) (by omega)
  generalize le4 (crcV (hd2 (k+16)++(vnum (z.length:Int)++z)))=L at *
  generalize vnum (z.length:Int)=V at *
  refine zR Tryz.func26 rfl rfl ?_
  repeat'(first|apply zF|apply zB|apply zE|(apply yH;(focus kernel_rfl);(focus kernel_rfl))|(apply o_g zC;exact rfl;exact rfl)|(apply o_ar zC;exact rfl;exact rfl)|(apply zM zC;(iterate 3 exact rfl);(focus exact pk))|(apply o_box (tt:=tyT);iterate 5 exact rfl)|(apply zT zC;(iterate 5 exact rfl);(focus decide);exact rfl;(focus decide);(focus repeat(first|exact CatR.nil|(apply CatR.one;exact rfl;exact rfl)));exact rfl)|(apply o_toString zC;(iterate 6 exact rfl);(focus exact pk))|(apply zD;exact rfl;exact rfl;(focus first|exact rfl);exact rfl;(focus exact⟨_,hE _,by repeat with_reducible exact Take.nil⟩);rintro _ _ ⟨rfl,rfl⟩)|(apply yS;(iterate 4 exact rfl);(focus exact⟨_,hT (lockS h),by repeat(first|with_reducible exact Take.nil|with_reducible apply yL|with_reducible apply Take.drop)⟩);(focus exact fun _ _ h=>h.1);(focus(repeat(first|exact Flat.c rfl))))|(apply yS;(iterate 4 exact rfl);(focus exact⟨_,hS (lockS h),by repeat(first|with_reducible exact Take.nil|with_reducible apply yL|with_reducible apply Take.drop)⟩);(focus exact fun _ _ h=>h.1);(focus(repeat(first|exact Flat.c rfl))))|(apply zU;exact rfl;exact rfl)|(apply o_gF;(iterate 3 exact rfl);(focus first|omega))|(apply zS;exact rfl)|(apply yC;exact rfl;(focus first|omega))|(apply yD;exact rfl;(focus first|omega))|apply zA|apply zI|apply zN|((with_reducible apply Sd.mk);first|exact True.intro|(rw[List.length_append,hd2_len];omega))|((with_reducible apply Ln.mk);first|rfl)|((with_reducible apply Wr.mk);first|exact IntWalk.i64_in _ (by omega)|exact IntWalk.u8_in _ (by omega))|((with_reducible apply Ce.mk);first|rfl)|((with_reducible apply Su.mk);first|exact hsub)|exact True.intro|exact Rd.mk ⟨_,hT (lockS h),by repeat(first|with_reducible exact Take.nil|with_reducible apply yL|with_reducible apply Take.drop)⟩|exact Or.inl rfl|apply And.intro|apply Or.inr|intro A|exact rfl)
  all_goals first
   |(exfalso;omega)
   |contradiction
   |(apply zL;(exact(show ResS _ _ _ _ [_,_] from⟨rfl,⟨rfl,trivial⟩⟩));(focus exact⟨rfl,rfl⟩);(focus repeat with_reducible first|exact Take.nil|apply Take.c|apply Take.drop))
 ·rw[if_neg hs]
  have hT:=fun h=>vText_any c h (by omega)
  have hs1:=vnum_len (n:=(c.length:Int)) (by omega)
  have hs2:=(vk_ok (n:=(c.length:Int)) (by omega)).2
  have hS:=fun h=>Seal_any (hd2 k++(vnum (c.length:Int)++c)) h (by rw[List.length_append,List.length_append,hd2_len];omega)
  have hsl:sl (frm k c)=hd2 k++(vnum (c.length:Int)++c)++le4 (crcV (hd2 k++(vnum (c.length:Int)++c))):=rfl
  rw[hsl]
  have hsub:=hd2_sub (k:=k) (by omega)
  generalize le4 (crcV (hd2 k++(vnum (c.length:Int)++c)))=L at *
  generalize vnum (c.length:Int)=V at *
  refine zR Tryz.func26 rfl rfl ?_
  repeat'(first|apply zF|apply zB|apply zE|(apply yH;(focus kernel_rfl);(focus kernel_rfl))|(apply o_g zC;exact rfl;exact rfl)|(apply o_ar zC;exact rfl;exact rfl)|(apply zM zC;(iterate 3 exact rfl);(focus exact pk))|(apply o_box (tt:=tyT);iterate 5 exact rfl)|(apply zT zC;(iterate 5 exact rfl);(focus decide);exact rfl;(focus decide);(focus repeat(first|exact CatR.nil|(apply CatR.one;exact rfl;exact rfl)));exact rfl)|(apply o_toString zC;(iterate 6 exact rfl);(focus exact pk))|(apply zD;exact rfl;exact rfl;(focus first|exact rfl);exact rfl;(focus exact⟨_,hE _,by repeat with_reducible exact Take.nil⟩);rintro _ _ ⟨rfl,rfl⟩)|(apply yS;(iterate 4 exact rfl);(focus exact⟨_,hT (lockS h),by repeat(first|with_reducible exact Take.nil|with_reducible apply yL|with_reducible apply Take.drop)⟩);(focus exact fun _ _ h=>h.1);(focus(repeat(first|exact Flat.c rfl))))|(apply yS;(iterate 4 exact rfl);(focus exact⟨_,hS (lockS h),by repeat(first|with_reducible exact Take.nil|with_reducible apply yL|with_reducible apply Take.drop)⟩);(focus exact fun _ _ h=>h.1);(focus(repeat(first|exact Flat.c rfl))))|(apply zU;exact rfl;exact rfl)|(apply o_gF;(iterate 3 exact rfl);(focus first|omega))|(apply zS;exact rfl)|(apply yD;exact rfl;(focus first|omega))|apply zA|apply zI|apply zN|((with_reducible apply Sd.mk);first|exact True.intro|(rw[List.length_append,hd2_len];omega))|((with_reducible apply Ln.mk);first|rfl)|((with_reducible apply Wr.mk);first|exact IntWalk.u8_in _ (by omega))|((with_reducible apply Ce.mk);first|rfl)|((with_reducible apply Su.mk);first|exact hsub)|exact True.intro|exact Rd.mk ⟨_,hT (lockS h),by repeat(first|with_reducible exact Take.nil|with_reducible apply yL|with_reducible apply Take.drop)⟩|exact Or.inl rfl|apply And.intro|apply Or.inr|intro A|exact rfl)
  all_goals first
   |(exfalso;omega)
   |contradiction
   |(apply zL;(exact(show ResS _ _ _ _ [_,_] from⟨rfl,⟨rfl,trivial⟩⟩));(focus exact⟨rfl,rfl⟩);(focus repeat with_reducible first|exact Take.nil|apply Take.c|apply Take.drop))

def bdy (d b:List UInt8):Option (List UInt8):=if 16≤bat d 1 then(if(lzD b 4096).2=0 then some (lzD b 4096).1 else none)else some b
def prs (d:List UInt8):Option (Int × List UInt8 × Nat × Bool) :=
 if d.length<2∨bat d 0≠165∨32≤bat d 1 then none else
 match txt (d.drop 2)with
 |none=>none
 |some (b,r)=>if r.length<4 then none else if(opn (d.take (d.length-(r.length-4)))).2≠0 then none else
  match bdy d b with
  |none=>none
  |some c=>if wrp (bat d 1%16) c=(d.take (d.length-(r.length-4)),0)then some (bat d 1%16,c,d.length-(r.length-4),decide (16≤bat d 1))else none
def prV :Option (Int × List UInt8 × Nat × Bool)→Value
 |none=>.tuple ⟨[frV 0 [],I 0,B false,B false]⟩
 |some (k,c,n,s)=>.tuple ⟨[frV k c,I n,B s,B true]⟩
theorem txt_len {l b r:List UInt8}(h:txt l=some (b,r)):b.length≤4096∧r.length≤l.length:=by
 obtain⟨k1,k2⟩:=rdN_ok l 4096
 unfold txt at h
 split at h
 ·rename_i g
  have:=k2 g.1
  obtain⟨rfl,rfl⟩:=Prod.mk.inj (Option.some.inj h)
  rw[List.length_take,List.length_drop]
  exact⟨by omega,by omega⟩
 ·cases h
theorem lzD_le {b:List UInt8}(hb:b.length≤1000000)(m:Int):(lzD b m).1.length≤4096:=by
 have h1:=rdN_ok b 4096
 unfold lzD
 split
 ·exact Nat.zero_le _
 ·rename_i g0
  have h2:=h1.2 (Classical.byContradiction g0)
  split
  ·exact Nat.zero_le _
  ·split
   ·exact Nat.zero_le _
   ·rename_i g
    split
    ·have:=lzR_len (l:=(rdN b 4096).2.1) (n:=(rdN b 4096).1.toNat) (by omega) (by simpa using g)
     show(lzR _ _).1.length≤4096
     omega
    ·exact Nat.zero_le _
theorem none_any (h:SH):SRun Tryz.prog 61 [] h fun r q=>r=prV none∧q=h:=by
 refine w_body0 Tryz.func61 rfl rfl ?_
 repeat'(first|apply zF|apply zB|apply zE|(apply o_g zC;exact rfl;exact rfl)|(apply yE zC;(iterate 4 exact rfl);(focus exact⟨rfl⟩);(focus exact up))|(apply yG zC;iterate 5 exact rfl)|(apply yT zC;exact rfl;exact rfl;(focus first|with_reducible exact pl33);exact rfl;(focus repeat(first|exact BuildR.nil));exact rfl)|apply zA|apply zN|((with_reducible apply Sd.mk);first|exact True.intro)|((with_reducible apply Ln.mk);first|rfl)|((with_reducible apply Pu.mk);first|exact yA rfl)|exact True.intro|intro A)
 (apply zL;(exact(show ResS _ _ _ _ [_,_,_,_] from(res_cell zC rfl rfl rfl (by exact pk) (by first|rfl|exact ‹_›|omega|(simp ;first|done|omega)) (by first|rfl|exact ‹_›|omega|(simp ;first|done|omega)) ⟨rfl,⟨rfl,⟨rfl,trivial⟩⟩⟩)));(focus exact⟨rfl,rfl⟩);(focus repeat with_reducible first|exact Take.nil|apply Take.c|apply Take.drop))
set_option maxHeartbeats 4000000 in
theorem parse_any (d:List UInt8)(h:SH)(hl:d.length≤1000000):SRun Tryz.prog 28 [S d] h fun r q=>r=prV (prs d)∧q=h:=by
 obtain⟨R,hR⟩:∃R,prs d=R:=⟨_,rfl⟩
 rw[hR]
 unfold prs at hR
 have hn:∀h,SRun Tryz.prog 61 [] h fun r q=>r=.tuple ⟨[frV 0 [],I 0,B false,B false]⟩∧q=h:=none_any
 have hb0:=bat_255 d 0
 have hb1:=bat_255 d 1
 by_cases h1:d.length<2∨bat d 0≠165∨32≤bat d 1
 ·rw[if_pos h1]at hR
  subst hR
  by_cases g1:d.length<2
  ·refine zR Tryz.func28 rfl rfl ?_
   repeat'(first|apply zF|apply zB|apply zE|(apply o_g zC;exact rfl;exact rfl)|(apply yE zC;(iterate 4 exact rfl);(focus exact⟨rfl⟩);(focus exact up))|(apply yG zC;iterate 5 exact rfl)|(apply zD;exact rfl;exact rfl;(focus first|exact rfl);exact rfl;(focus exact⟨_,hn _,by repeat with_reducible exact Take.nil⟩);rintro _ _ ⟨rfl,rfl⟩)|(apply yF;iterate 4 exact rfl)|(apply o_sT;(iterate 3 exact rfl);(focus first|omega);exact rfl)|(apply yB;exact rfl)|apply zA|apply zP|apply zN|((with_reducible apply Sd.mk);first|exact True.intro)|((with_reducible apply Ln.mk);first|rfl)|((with_reducible apply Pu.mk);first|exact yA rfl)|exact True.intro|intro A)
   all_goals first
    |(exfalso;omega)
    |(apply zL;(exact(show ResS _ _ _ _ [_,_,_,_] from(res_cell zC rfl rfl rfl (by exact pk) (by first|rfl|exact ‹_›|omega|(simp ;first|done|omega)) (by first|rfl|exact ‹_›|omega|(simp ;first|done|omega)) ⟨rfl,⟨rfl,⟨rfl,trivial⟩⟩⟩)));(focus exact⟨rfl,rfl⟩);(focus repeat with_reducible first|exact Take.nil|apply Take.c|apply Take.drop))
  by_cases g2:bat d 0=165
  ·refine zR Tryz.func28 rfl rfl ?_
   repeat'(first|apply zF|apply zB|apply zE|(apply o_g zC;exact rfl;exact rfl)|(apply yE zC;(iterate 4 exact rfl);(focus exact⟨rfl⟩);(focus exact up))|(apply yG zC;iterate 5 exact rfl)|(apply zD;exact rfl;exact rfl;(focus first|exact rfl);exact rfl;(focus exact⟨_,hn _,by repeat with_reducible exact Take.nil⟩);rintro _ _ ⟨rfl,rfl⟩)|(apply zU;exact rfl;exact rfl)|(apply o_gF;(iterate 3 exact rfl);(focus first|omega))|(apply yC;exact rfl;(focus first|omega))|apply zA|apply zP|apply zN|((with_reducible apply Sd.mk);first|exact True.intro|omega)|((with_reducible apply Ln.mk);first|rfl)|((with_reducible apply Pu.mk);first|exact yA rfl)|exact True.intro|intro A)
   all_goals first
    |(exfalso;omega)
    |(apply zL;(exact(show ResS _ _ _ _ [_,_,_,_] from(res_cell zC rfl rfl rfl (by exact pk) (by first|rfl|exact ‹_›|omega|(simp ;first|done|omega)) (by first|rfl|exact ‹_›|omega|(simp ;first|done|omega)) ⟨rfl,⟨rfl,⟨rfl,trivial⟩⟩⟩)));(focus exact⟨rfl,rfl⟩);(focus repeat with_reducible first|exact Take.nil|apply Take.c|apply Take.drop))
  ·refine zR Tryz.func28 rfl rfl ?_
   repeat'(first|apply zF|apply zB|apply zE|(apply o_g zC;exact rfl;exact rfl)|(apply yE zC;(iterate 4 exact rfl);(focus exact⟨rfl⟩);(focus exact up))|(apply yG zC;iterate 5 exact rfl)|(apply zD;exact rfl;exact rfl;(focus first|exact rfl);exact rfl;(focus exact⟨_,hn _,by repeat with_reducible exact Take.nil⟩);rintro _ _ ⟨rfl,rfl⟩)|(apply zU;exact rfl;exact rfl)|(apply yF;iterate 4 exact rfl)|(apply o_gF;(iterate 3 exact rfl);(focus first|omega))|(apply o_sT;(iterate 3 exact rfl);(focus first|omega);exact rfl)|(apply yB;exact rfl)|apply zA|apply zP|apply zN|((with_reducible apply Sd.mk);first|exact True.intro|omega)|((with_reducible apply Ln.mk);first|rfl)|((with_reducible apply Pu.mk);first|exact yA rfl)|exact True.intro|intro A)
   all_goals first
    |(exfalso;omega)
    |(apply zL;(exact(show ResS _ _ _ _ [_,_,_,_] from(res_cell zC rfl rfl rfl (by exact pk) (by first|rfl|exact ‹_›|omega|(simp ;first|done|omega)) (by first|rfl|exact ‹_›|omega|(simp ;first|done|omega)) ⟨rfl,⟨rfl,⟨rfl,trivial⟩⟩⟩)));(focus exact⟨rfl,rfl⟩);(focus repeat with_reducible first|exact Take.nil|apply Take.c|apply Take.drop))
 rw[if_neg h1]at hR
 have hd2:(d.drop 2).length≤1000000:=by rw[List.length_drop];omega
 have hX:=fun n h=>rText_any n (d.drop 2) h hd2
 have hK:=fun n l e h hl=>rTakeG_any n l e 4 h hl
 obtain⟨T,hT⟩:∃T,txt (d.drop 2)=T:=⟨_,rfl⟩
 have htl:=fun b r (g:txt (d.drop 2)=some (b,r))=>txt_len g
 unfold txtR at hX
 rw[hT]at hR hX htl
 cases T with
 |none =>
  dsimp only at hR hX
  subst hR
  have hK2:∀n e h,e≠0→SRun Tryz.prog 50 [gptr n 0 2,I 4] (rdB n (d.drop 2) e::h) fun r q=>r=S []∧q=rdB n (d.drop 2) e::h:=fun n e h he=>by
   have:=hK n (d.drop 2) e h hd2
   rw[show tkR (d.drop 2) e 4=([],d.drop 2,e)from if_pos he]at this
   exact this
  refine zR Tryz.func28 rfl rfl ?_
  repeat'(first|apply zF|apply zB|apply zE|(apply o_g zC;exact rfl;exact rfl)|(apply yE zC;(iterate 4 exact rfl);(focus exact⟨rfl⟩);(focus exact up))|(apply yG zC;iterate 5 exact rfl)|(apply zD;exact rfl;exact rfl;(focus first|exact rfl);exact rfl;(focus exact⟨_,hn _,by repeat with_reducible exact Take.nil⟩);rintro _ _ ⟨rfl,rfl⟩)|(apply zD;exact rfl;exact rfl;(focus first|exact rfl);exact rfl;(focus exact⟨_,yN _ _,by repeat with_reducible exact Take.nil⟩);rintro _ _ ⟨n,rfl,rfl⟩)|(apply zD;exact rfl;exact rfl;(focus first|exact rfl);exact rfl;(focus exact⟨_,hX _ _,by repeat with_reducible first|exact Take.nil|apply Take.c⟩);rintro _ _ ⟨e,he,rfl,rfl⟩)|(apply zD;exact rfl;exact rfl;(focus first|exact rfl);exact rfl;(focus exact⟨_,hK2 _ _ _ he,by repeat with_reducible exact Take.nil⟩);rintro _ _ ⟨rfl,rfl⟩)|(apply zD;exact rfl;exact rfl;(focus first|exact rfl);exact rfl;(focus exact⟨_,rErr_any _ _ _ _,by repeat with_reducible exact Take.nil⟩);rintro _ _ ⟨rfl,rfl⟩)|(apply zU;exact rfl;exact rfl)|(apply o_gF;(iterate 3 exact rfl);(focus first|omega))|(apply yC;exact rfl;(focus first|exact ‹_›))|(apply yD;exact rfl;(focus first|omega))|apply zA|apply zP|apply zI|apply zN|((with_reducible apply Sd.mk);first|exact True.intro|omega)|((with_reducible apply Ln.mk);first|rfl)|((with_reducible apply Pu.mk);first|exact yA rfl)|exact True.intro|intro A)
  all_goals first
   |(exfalso;omega)
   |contradiction
   |(apply zL;(exact(show ResS _ _ _ _ [_,_,_,_] from(res_cell zC rfl rfl rfl (by exact pk) (by first|rfl|exact ‹_›|omega|(simp ;first|done|omega)) (by first|rfl|exact ‹_›|omega|(simp ;first|done|omega)) ⟨rfl,⟨rfl,⟨rfl,trivial⟩⟩⟩)));(focus exact⟨rfl,rfl⟩);(focus repeat with_reducible first|exact Take.nil|apply Take.c|apply Take.drop))
 |some T =>
  obtain⟨b,r⟩:=T
  dsimp only at hR hX
  obtain⟨hbl,hrl⟩:=htl b r rfl
  rw[List.length_drop]at hrl
  by_cases h4:r.length<4
  ·rw[if_pos h4]at hR
   subst hR
   have hK2:∀n h,SRun Tryz.prog 50 [gptr n 0 2,I 4] (rdB n r 0::h) fun r' q=>r'=S []∧q=rdB n r 12::h:=fun n h=>by
    have:=hK n r 0 h (by omega)
    rw[show tkR r 0 4=([],r,12)by unfold tkR;rw[if_neg (fun k=>k rfl),if_neg (by omega),if_pos (by omega)]]at this
    exact this
   refine zR Tryz.func28 rfl rfl ?_
   repeat'(first|apply zF|apply zB|apply zE|(apply o_g zC;exact rfl;exact rfl)|(apply yE zC;(iterate 4 exact rfl);(focus exact⟨rfl⟩);(focus exact up))|(apply yG zC;iterate 5 exact rfl)|(apply zD;exact rfl;exact rfl;(focus first|exact rfl);exact rfl;(focus exact⟨_,hn _,by repeat with_reducible exact Take.nil⟩);rintro _ _ ⟨rfl,rfl⟩)|(apply zD;exact rfl;exact rfl;(focus first|exact rfl);exact rfl;(focus exact⟨_,yN _ _,by repeat with_reducible exact Take.nil⟩);rintro _ _ ⟨n,rfl,rfl⟩)|(apply zD;exact rfl;exact rfl;(focus first|exact rfl);exact rfl;(focus exact⟨_,hX _ _,by repeat with_reducible first|exact Take.nil|apply Take.c⟩);rintro _ _ ⟨rfl,rfl⟩)|(apply zD;exact rfl;exact rfl;(focus first|exact rfl);exact rfl;(focus exact⟨_,hK2 _ _,by repeat with_reducible exact Take.nil⟩);rintro _ _ ⟨rfl,rfl⟩)|(apply zD;exact rfl;exact rfl;(focus first|exact rfl);exact rfl;(focus exact⟨_,rErr_any _ _ _ _,by repeat with_reducible exact Take.nil⟩);rintro _ _ ⟨rfl,rfl⟩)|(apply zU;exact rfl;exact rfl)|(apply o_gF;(iterate 3 exact rfl);(focus first|omega))|(apply yB;exact rfl)|(apply yD;exact rfl;(focus first|omega))|apply zA|apply zP|apply zI|apply zN|((with_reducible apply Sd.mk);first|exact True.intro|omega)|((with_reducible apply Ln.mk);first|rfl)|((with_reducible apply Pu.mk);first|exact yA rfl)|exact True.intro|intro A)
   all_goals first
    |(exfalso;omega)
    |contradiction
    |(apply zL;(exact(show ResS _ _ _ _ [_,_,_,_] from(res_cell zC rfl rfl rfl (by exact pk) (by first|rfl|exact ‹_›|omega|(simp ;first|done|omega)) (by first|rfl|exact ‹_›|omega|(simp ;first|done|omega)) ⟨rfl,⟨rfl,⟨rfl,trivial⟩⟩⟩)));(focus exact⟨rfl,rfl⟩);(focus repeat with_reducible first|exact Take.nil|apply Take.c|apply Take.drop))
  rw[if_neg h4]at hR
  have hK2:∀n h,SRun Tryz.prog 50 [gptr n 0 2,I 4] (rdB n r 0::h) fun r' q=>r'=S (r.take 4)∧q=rdB n (r.drop 4) 0::h:=fun n h=>by
   have:=hK n r 0 h (by omega)
   rw[show tkR r 0 4=(r.take 4,r.drop 4,0)by unfold tkR;rw[if_neg (fun k=>k rfl),if_neg (by omega),if_neg (by omega)];rfl]at this
   exact this
  have hr4:(r.drop 4).length=r.length-4:=List.length_drop ..
  have hN:((d.length:Int)-((r.drop 4).length:Int)).toNat=d.length-(r.length-4):=by omega
  have hNi:(d.length:Int)-((r.drop 4).length:Int)=((d.length-(r.length-4):Nat):Int):=by omega
  rw[←hN]at hR
  have hO:=fun h=>Open_any (d.take ((d.length:Int)-((r.drop 4).length:Int)).toNat) h (by rw[List.length_take];omega)
  generalize opn (d.take ((d.length:Int)-((r.drop 4).length:Int)).toNat)=O at *
  obtain⟨o1,o2⟩:=O
  dsimp only at hR hO
  by_cases ho:o2=0
  ·subst ho
   rw[if_neg (fun k=>k rfl)]at hR
   have hr16:(bat d 1).tmod 16=bat d 1%16:=Int.tmod_eq_emod_of_nonneg hb1.1
   unfold bdy at hR
   by_cases hs:16≤bat d 1
   ·rw[if_pos hs]at hR
    have hD:=fun h=>Decode_any' b 4096 h (by omega)
    have hle:=lzD_le (b:=b) (by omega) 4096
    obtain⟨⟨c,e⟩,hc⟩:∃V,lzD b 4096=V:=⟨_,rfl⟩
    rw[hc]at hR hD hle
    dsimp only at hR hD hle
    by_cases he:e=0
    ·subst he
     rw[if_pos rfl]at hR
     dsimp only at hR
     have hW:=fun h=>Wrap_any (bat d 1%16) c h (by omega)
     obtain⟨⟨w,e⟩,hw⟩:∃V,wrp (bat d 1%16) c=V:=⟨_,rfl⟩
     rw[hw]at hR hW
     dsimp only at hW
     by_cases hq:e=0∧w=d.take ((d.length:Int)-((r.drop 4).length:Int)).toNat
     ·obtain⟨rfl,hq⟩:=hq
      rw[if_pos (by rw[hq]),hN,decide_eq_true hs]at hR
      subst hR
      clear hw
      subst hq
      refine zR Tryz.func28 rfl rfl ?_
      repeat'(first|apply zF|apply zB|apply zE|(apply o_g zC;exact rfl;exact rfl)|(apply o_ar zC;exact rfl;exact rfl)|(apply o_ex;exact rfl;exact rfl)|(apply yQ zC;(iterate 3 exact rfl);(focus exact pk))|(apply zX zC;(iterate 4 exact rfl);(focus exact up))|(apply yE zC;(iterate 4 exact rfl);(focus exact⟨rfl⟩);(focus exact up))|(apply yG zC;iterate 5 exact rfl)|(apply yT zC;exact rfl;exact rfl;(focus first|with_reducible exact pl33);exact rfl;(focus repeat(first|exact BuildR.nil|(apply BuildR.one;exact rfl;exact rfl;(first|(focus(repeat(first|exact SetAt.zero|apply SetAt.succ));done)))));exact rfl)|(apply zD;exact rfl;exact rfl;(focus first|exact rfl);exact rfl;(focus exact⟨_,hn _,by repeat with_reducible exact Take.nil⟩);rintro _ _ ⟨rfl,rfl⟩)|(apply zD;exact rfl;exact rfl;(focus first|exact rfl);exact rfl;(focus exact⟨_,yN _ _,by repeat with_reducible exact Take.nil⟩);rintro _ _ ⟨n,rfl,rfl⟩)|(apply zD;exact rfl;exact rfl;(focus first|exact rfl);exact rfl;(focus exact⟨_,hX _ _,by repeat with_reducible first|exact Take.nil|apply Take.c⟩);rintro _ _ ⟨rfl,rfl⟩)|(apply zD;exact rfl;exact rfl;(focus first|exact rfl);exact rfl;(focus exact⟨_,hK2 _ _,by repeat with_reducible exact Take.nil⟩);rintro _ _ ⟨rfl,rfl⟩)|(apply zD;exact rfl;exact rfl;(focus first|exact rfl);exact rfl;(focus exact⟨_,rErr_any _ _ _ _,by repeat with_reducible exact Take.nil⟩);rintro _ _ ⟨rfl,rfl⟩)|(apply zD;exact rfl;exact rfl;(focus first|exact rfl);exact rfl;(focus exact⟨_,rLeft_any _ _ _ _,by repeat with_reducible exact Take.nil⟩);rintro _ _ ⟨rfl,rfl⟩)|(apply zD;exact rfl;exact rfl;(focus first|exact rfl);exact rfl;(focus exact⟨_,hO _,by repeat with_reducible exact Take.nil⟩);rintro _ _ ⟨rfl,rfl⟩)|(apply zD;exact rfl;exact rfl;(focus first|exact rfl);exact rfl;(focus exact⟨_,hD _,by repeat with_reducible exact Take.nil⟩);rintro _ _ ⟨rfl,rfl⟩)|(apply zD;exact rfl;exact rfl;(focus first|exact rfl);exact rfl;(focus exact⟨_,hW _,by repeat with_reducible exact Take.nil⟩);rintro _ _ ⟨rfl,rfl⟩)|(apply zU;exact rfl;exact rfl)|(apply o_gF;(iterate 3 exact rfl);(focus first|omega))|(apply zS;exact rfl)|(apply yC;exact rfl;(focus first|omega))|(apply yD;exact rfl;(focus first|omega))|(apply w_ifN;exact rfl;all_goals intro hc)|apply zA|apply zP|apply zI|apply zN|((with_reducible apply Sd.mk);first|exact True.intro|omega)|((with_reducible apply Ln.mk);first|rfl)|((with_reducible apply Wr.mk);first|exact IntWalk.i64_in _ (by omega))|((with_reducible apply Ex.mk);first|exact Int.tmod_eq_emod_of_nonneg (by omega))|((with_reducible apply Se.mk);first|(focus(repeat(first|exact SetAt.zero|apply SetAt.succ));done))|((with_reducible apply Pu.mk);first|exact yA rfl)|((with_reducible apply Su.mk);first|exact zQ)|exact True.intro|intro A|exact rfl)
      all_goals first
       |(exfalso;omega)
       |contradiction
       |(apply zL;(exact(show ResS _ _ _ _ [_,_,_,_] from(res_cell zC rfl rfl rfl (by exact pk) (by first|rfl|exact ‹_›|omega|(simp ;first|done|omega)) (by first|rfl|exact ‹_›|omega|(simp ;first|done|omega)) ⟨rfl,⟨rfl,⟨rfl,trivial⟩⟩⟩)));(focus exact⟨by rw[hNi,decide_eq_true hs];rfl,rfl⟩);(focus repeat with_reducible first|exact Take.nil|apply Take.c|apply Take.drop))
     ·rw[if_neg (fun k=>hq ⟨congrArg Prod.snd k,congrArg Prod.fst k⟩)]at hR
      subst hR
      refine zR Tryz.func28 rfl rfl ?_
      repeat'(first|apply zF|apply zB|apply zE|(apply o_g zC;exact rfl;exact rfl)|(apply o_ar zC;exact rfl;exact rfl)|(apply o_ex;exact rfl;exact rfl)|(apply yQ zC;(iterate 3 exact rfl);(focus exact pk))|(apply zX zC;(iterate 4 exact rfl);(focus exact up))|(apply yE zC;(iterate 4 exact rfl);(focus exact⟨rfl⟩);(focus exact up))|(apply yG zC;iterate 5 exact rfl)|(apply yT zC;exact rfl;exact rfl;(focus first|with_reducible exact pl33);exact rfl;(focus repeat(first|exact BuildR.nil|(apply BuildR.one;exact rfl;exact rfl;(first|(focus(repeat(first|exact SetAt.zero|apply SetAt.succ));done)))));exact rfl)|(apply zD;exact rfl;exact rfl;(focus first|exact rfl);exact rfl;(focus exact⟨_,hn _,by repeat with_reducible exact Take.nil⟩);rintro _ _ ⟨rfl,rfl⟩)|(apply zD;exact rfl;exact rfl;(focus first|exact rfl);exact rfl;(focus exact⟨_,yN _ _,by repeat with_reducible exact Take.nil⟩);rintro _ _ ⟨n,rfl,rfl⟩)|(apply zD;exact rfl;exact rfl;(focus first|exact rfl);exact rfl;(focus exact⟨_,hX _ _,by repeat with_reducible first|exact Take.nil|apply Take.c⟩);rintro _ _ ⟨rfl,rfl⟩)|(apply zD;exact rfl;exact rfl;(focus first|exact rfl);exact rfl;(focus exact⟨_,hK2 _ _,by repeat with_reducible exact Take.nil⟩);rintro _ _ ⟨rfl,rfl⟩)|(apply zD;exact rfl;exact rfl;(focus first|exact rfl);exact rfl;(focus exact⟨_,rErr_any _ _ _ _,by repeat with_reducible exact Take.nil⟩);rintro _ _ ⟨rfl,rfl⟩)|(apply zD;exact rfl;exact rfl;(focus first|exact rfl);exact rfl;(focus exact⟨_,rLeft_any _ _ _ _,by repeat with_reducible exact Take.nil⟩);rintro _ _ ⟨rfl,rfl⟩)|(apply zD;exact rfl;exact rfl;(focus first|exact rfl);exact rfl;(focus exact⟨_,hO _,by repeat with_reducible exact Take.nil⟩);rintro _ _ ⟨rfl,rfl⟩)|(apply zD;exact rfl;exact rfl;(focus first|exact rfl);exact rfl;(focus exact⟨_,hD _,by repeat with_reducible exact Take.nil⟩);rintro _ _ ⟨rfl,rfl⟩)|(apply zD;exact rfl;exact rfl;(focus first|exact rfl);exact rfl;(focus exact⟨_,hW _,by repeat with_reducible exact Take.nil⟩);rintro _ _ ⟨rfl,rfl⟩)|(apply zU;exact rfl;exact rfl)|(apply yF;iterate 4 exact rfl)|(apply o_gF;(iterate 3 exact rfl);(focus first|omega))|(apply o_guardFN;(iterate 3 exact rfl);all_goals intro hc)|(apply yB;exact rfl)|(apply zS;exact rfl)|(apply yC;exact rfl;(focus first|omega))|(apply yD;exact rfl;(focus first|omega))|(apply w_ifN;exact rfl;all_goals intro hc)|apply zA|apply zP|apply zI|apply zN|((with_reducible apply Sd.mk);first|exact True.intro|omega)|((with_reducible apply Ln.mk);first|rfl)|((with_reducible apply Wr.mk);first|exact IntWalk.i64_in _ (by omega))|((with_reducible apply Ex.mk);first|exact Int.tmod_eq_emod_of_nonneg (by omega))|((with_reducible apply Se.mk);first|(focus(repeat(first|exact SetAt.zero|apply SetAt.succ));done))|((with_reducible apply Pu.mk);first|exact yA rfl)|((with_reducible apply Su.mk);first|exact zQ)|exact True.intro|intro A|exact rfl)
      all_goals first
       |(exfalso;omega)
       |contradiction
       |(exfalso;exact hq ⟨by assumption,by assumption⟩)
       |(apply zL;(exact(show ResS _ _ _ _ [_,_,_,_] from(res_cell zC rfl rfl rfl (by exact pk) (by first|rfl|exact ‹_›|omega|(simp ;first|done|omega)) (by first|rfl|exact ‹_›|omega|(simp ;first|done|omega)) ⟨rfl,⟨rfl,⟨rfl,trivial⟩⟩⟩)));(focus exact⟨rfl,rfl⟩);(focus repeat with_reducible first|exact Take.nil|apply Take.c|apply Take.drop))
    ·rw[if_neg he]at hR
     dsimp only at hR
     subst hR
     refine zR Tryz.func28 rfl rfl ?_
     repeat'(first|apply zF|apply zB|apply zE|(apply o_g zC;exact rfl;exact rfl)|(apply o_ar zC;exact rfl;exact rfl)|(apply o_ex;exact rfl;exact rfl)|(apply yE zC;(iterate 4 exact rfl);(focus exact⟨rfl⟩);(focus exact up))|(apply yG zC;iterate 5 exact rfl)|(apply yT zC;exact rfl;exact rfl;(focus first|with_reducible exact pl33);exact rfl;(focus repeat(first|exact BuildR.nil|(apply BuildR.one;exact rfl;exact rfl;(first|(focus(repeat(first|exact SetAt.zero|apply SetAt.succ));done)))));exact rfl)|(apply zD;exact rfl;exact rfl;(focus first|exact rfl);exact rfl;(focus exact⟨_,hn _,by repeat with_reducible exact Take.nil⟩);rintro _ _ ⟨rfl,rfl⟩)|(apply zD;exact rfl;exact rfl;(focus first|exact rfl);exact rfl;(focus exact⟨_,yN _ _,by repeat with_reducible exact Take.nil⟩);rintro _ _ ⟨n,rfl,rfl⟩)|(apply zD;exact rfl;exact rfl;(focus first|exact rfl);exact rfl;(focus exact⟨_,hX _ _,by repeat with_reducible first|exact Take.nil|apply Take.c⟩);rintro _ _ ⟨rfl,rfl⟩)|(apply zD;exact rfl;exact rfl;(focus first|exact rfl);exact rfl;(focus exact⟨_,hK2 _ _,by repeat with_reducible exact Take.nil⟩);rintro _ _ ⟨rfl,rfl⟩)|(apply zD;exact rfl;exact rfl;(focus first|exact rfl);exact rfl;(focus exact⟨_,rErr_any _ _ _ _,by repeat with_reducible exact Take.nil⟩);rintro _ _ ⟨rfl,rfl⟩)|(apply zD;exact rfl;exact rfl;(focus first|exact rfl);exact rfl;(focus exact⟨_,rLeft_any _ _ _ _,by repeat with_reducible exact Take.nil⟩);rintro _ _ ⟨rfl,rfl⟩)|(apply zD;exact rfl;exact rfl;(focus first|exact rfl);exact rfl;(focus exact⟨_,hO _,by repeat with_reducible exact Take.nil⟩);rintro _ _ ⟨rfl,rfl⟩)|(apply zD;exact rfl;exact rfl;(focus first|exact rfl);exact rfl;(focus exact⟨_,hD _,by repeat with_reducible exact Take.nil⟩);rintro _ _ ⟨rfl,rfl⟩)|(apply zU;exact rfl;exact rfl)|(apply o_gF;(iterate 3 exact rfl);(focus first|omega))|(apply zS;exact rfl)|(apply yC;exact rfl;(focus first|omega))|(apply yD;exact rfl;(focus first|omega))|apply zA|apply zP|apply zI|apply zN|((with_reducible apply Sd.mk);first|exact True.intro|omega)|((with_reducible apply Ln.mk);first|rfl)|((with_reducible apply Wr.mk);first|exact IntWalk.i64_in _ (by omega))|((with_reducible apply Ex.mk);first|exact Int.tmod_eq_emod_of_nonneg (by omega))|((with_reducible apply Pu.mk);first|exact yA rfl)|exact True.intro|intro A)
     all_goals first
      |(exfalso;omega)
      |contradiction
      |(apply zL;(exact(show ResS _ _ _ _ [_,_,_,_] from(res_cell zC rfl rfl rfl (by exact pk) (by first|rfl|exact ‹_›|omega|(simp ;first|done|omega)) (by first|rfl|exact ‹_›|omega|(simp ;first|done|omega)) ⟨rfl,⟨rfl,⟨rfl,trivial⟩⟩⟩)));(focus exact⟨rfl,rfl⟩);(focus repeat with_reducible first|exact Take.nil|apply Take.c|apply Take.drop))
   ·rw[if_neg hs]at hR
    dsimp only at hR
    have hW:=fun h=>Wrap_any (bat d 1%16) b h (by omega)
    obtain⟨⟨w,e⟩,hw⟩:∃V,wrp (bat d 1%16) b=V:=⟨_,rfl⟩
    rw[hw]at hR hW
    dsimp only at hW
    by_cases hq:e=0∧w=d.take ((d.length:Int)-((r.drop 4).length:Int)).toNat
    ·obtain⟨rfl,hq⟩:=hq
     rw[if_pos (by rw[hq]),hN,decide_eq_false hs]at hR
     subst hR
     clear hw
     subst hq
     refine zR Tryz.func28 rfl rfl ?_
     repeat'(first|apply zF|apply zB|apply zE|(apply o_g zC;exact rfl;exact rfl)|(apply o_ar zC;exact rfl;exact rfl)|(apply o_ex;exact rfl;exact rfl)|(apply yQ zC;(iterate 3 exact rfl);(focus exact pk))|(apply yE zC;(iterate 4 exact rfl);(focus exact⟨rfl⟩);(focus exact up))|(apply yG zC;iterate 5 exact rfl)|(apply yT zC;exact rfl;exact rfl;(focus first|with_reducible exact pl33);exact rfl;(focus repeat(first|exact BuildR.nil|(apply BuildR.one;exact rfl;exact rfl;(first|(focus(repeat(first|exact SetAt.zero|apply SetAt.succ));done)))));exact rfl)|(apply zD;exact rfl;exact rfl;(focus first|exact rfl);exact rfl;(focus exact⟨_,hn _,by repeat with_reducible exact Take.nil⟩);rintro _ _ ⟨rfl,rfl⟩)|(apply zD;exact rfl;exact rfl;(focus first|exact rfl);exact rfl;(focus exact⟨_,yN _ _,by repeat with_reducible exact Take.nil⟩);rintro _ _ ⟨n,rfl,rfl⟩)|(apply zD;exact rfl;exact rfl;(focus first|exact rfl);exact rfl;(focus exact⟨_,hX _ _,by repeat with_reducible first|exact Take.nil|apply Take.c⟩);rintro _ _ ⟨rfl,rfl⟩)|(apply zD;exact rfl;exact rfl;(focus first|exact rfl);exact rfl;(focus exact⟨_,hK2 _ _,by repeat with_reducible exact Take.nil⟩);rintro _ _ ⟨rfl,rfl⟩)|(apply zD;exact rfl;exact rfl;(focus first|exact rfl);exact rfl;(focus exact⟨_,rErr_any _ _ _ _,by repeat with_reducible exact Take.nil⟩);rintro _ _ ⟨rfl,rfl⟩)|(apply zD;exact rfl;exact rfl;(focus first|exact rfl);exact rfl;(focus exact⟨_,rLeft_any _ _ _ _,by repeat with_reducible exact Take.nil⟩);rintro _ _ ⟨rfl,rfl⟩)|(apply zD;exact rfl;exact rfl;(focus first|exact rfl);exact rfl;(focus exact⟨_,hO _,by repeat with_reducible exact Take.nil⟩);rintro _ _ ⟨rfl,rfl⟩)|(apply zD;exact rfl;exact rfl;(focus first|exact rfl);exact rfl;(focus exact⟨_,hW _,by repeat with_reducible exact Take.nil⟩);rintro _ _ ⟨rfl,rfl⟩)|(apply zU;exact rfl;exact rfl)|(apply o_gF;(iterate 3 exact rfl);(focus first|omega))|(apply zS;exact rfl)|(apply yD;exact rfl;(focus first|omega))|(apply w_ifN;exact rfl;all_goals intro hc)|apply zA|apply zP|apply zI|apply zN|((with_reducible apply Sd.mk);first|exact True.intro|omega)|((with_reducible apply Ln.mk);first|rfl)|((with_reducible apply Wr.mk);first|exact IntWalk.i64_in _ (by omega))|((with_reducible apply Ex.mk);first|exact Int.tmod_eq_emod_of_nonneg (by omega))|((with_reducible apply Pu.mk);first|exact yA rfl)|((with_reducible apply Su.mk);first|exact zQ)|exact True.intro|intro A|exact rfl)
     all_goals first
      |(exfalso;omega)
      |contradiction
      |(apply zL;(exact(show ResS _ _ _ _ [_,_,_,_] from(res_cell zC rfl rfl rfl (by exact pk) (by first|rfl|exact ‹_›|omega|(simp ;first|done|omega)) (by first|rfl|exact ‹_›|omega|(simp ;first|done|omega)) ⟨rfl,⟨rfl,⟨rfl,trivial⟩⟩⟩)));(focus exact⟨by rw[hNi,decide_eq_false hs];rfl,rfl⟩);(focus repeat with_reducible first|exact Take.nil|apply Take.c|apply Take.drop))
    ·rw[if_neg (fun k=>hq ⟨congrArg Prod.snd k,congrArg Prod.fst k⟩)]at hR
     subst hR
     refine zR Tryz.func28 rfl rfl ?_
     repeat'(first|apply zF|apply zB|apply zE|(apply o_g zC;exact rfl;exact rfl)|(apply o_ar zC;exact rfl;exact rfl)|(apply o_ex;exact rfl;exact rfl)|(apply yQ zC;(iterate 3 exact rfl);(focus exact pk))|(apply yE zC;(iterate 4 exact rfl);(focus exact⟨rfl⟩);(focus exact up))|(apply yG zC;iterate 5 exact rfl)|(apply yT zC;exact rfl;exact rfl;(focus first|with_reducible exact pl33);exact rfl;(focus repeat(first|exact BuildR.nil|(apply BuildR.one;exact rfl;exact rfl;(first|(focus(repeat(first|exact SetAt.zero|apply SetAt.succ));done)))));exact rfl)|(apply zD;exact rfl;exact rfl;(focus first|exact rfl);exact rfl;(focus exact⟨_,hn _,by repeat with_reducible exact Take.nil⟩);rintro _ _ ⟨rfl,rfl⟩)|(apply zD;exact rfl;exact rfl;(focus first|exact rfl);exact rfl;(focus exact⟨_,yN _ _,by repeat with_reducible exact Take.nil⟩);rintro _ _ ⟨n,rfl,rfl⟩)|(apply zD;exact rfl;exact rfl;(focus first|exact rfl);exact rfl;(focus exact⟨_,hX _ _,by repeat with_reducible first|exact Take.nil|apply Take.c⟩);rintro _ _ ⟨rfl,rfl⟩)|(apply zD;exact rfl;exact rfl;(focus first|exact rfl);exact rfl;(focus exact⟨_,hK2 _ _,by repeat with_reducible exact Take.nil⟩);rintro _ _ ⟨rfl,rfl⟩)|(apply zD;exact rfl;exact rfl;(focus first|exact rfl);exact rfl;(focus exact⟨_,rErr_any _ _ _ _,by repeat with_reducible exact Take.nil⟩);rintro _ _ ⟨rfl,rfl⟩)|(apply zD;exact rfl;exact rfl;(focus first|exact rfl);exact rfl;(focus exact⟨_,rLeft_any _ _ _ _,by repeat with_reducible exact Take.nil⟩);rintro _ _ ⟨rfl,rfl⟩)|(apply zD;exact rfl;exact rfl;(focus first|exact rfl);exact rfl;(focus exact⟨_,hO _,by repeat with_reducible exact Take.nil⟩);rintro _ _ ⟨rfl,rfl⟩)|(apply zD;exact rfl;exact rfl;(focus first|exact rfl);exact rfl;(focus exact⟨_,hW _,by repeat with_reducible exact Take.nil⟩);rintro _ _ ⟨rfl,rfl⟩)|(apply zU;exact rfl;exact rfl)|(apply yF;iterate 4 exact rfl)|(apply o_gF;(iterate 3 exact rfl);(focus first|omega))|(apply o_guardFN;(iterate 3 exact rfl);all_goals intro hc)|(apply yB;exact rfl)|(apply zS;exact rfl)|(apply yD;exact rfl;(focus first|omega))|(apply w_ifN;exact rfl;all_goals intro hc)|apply zA|apply zP|apply zI|apply zN|((with_reducible apply Sd.mk);first|exact True.intro|omega)|((with_reducible apply Ln.mk);first|rfl)|((with_reducible apply Wr.mk);first|exact IntWalk.i64_in _ (by omega))|((with_reducible apply Ex.mk);first|exact Int.tmod_eq_emod_of_nonneg (by omega))|((with_reducible apply Pu.mk);first|exact yA rfl)|((with_reducible apply Su.mk);first|exact zQ)|exact True.intro|intro A|exact rfl)
     all_goals first
      |(exfalso;omega)
      |contradiction
      |(exfalso;exact hq ⟨by assumption,by assumption⟩)
      |(apply zL;(exact(show ResS _ _ _ _ [_,_,_,_] from(res_cell zC rfl rfl rfl (by exact pk) (by first|rfl|exact ‹_›|omega|(simp ;first|done|omega)) (by first|rfl|exact ‹_›|omega|(simp ;first|done|omega)) ⟨rfl,⟨rfl,⟨rfl,trivial⟩⟩⟩)));(focus exact⟨rfl,rfl⟩);(focus repeat with_reducible first|exact Take.nil|apply Take.c|apply Take.drop))
  ·rw[if_pos ho]at hR
   subst hR
   refine zR Tryz.func28 rfl rfl ?_
   repeat'(first|apply zF|apply zB|apply zE|(apply o_g zC;exact rfl;exact rfl)|(apply o_ar zC;exact rfl;exact rfl)|(apply yE zC;(iterate 4 exact rfl);(focus exact⟨rfl⟩);(focus exact up))|(apply yG zC;iterate 5 exact rfl)|(apply zD;exact rfl;exact rfl;(focus first|exact rfl);exact rfl;(focus exact⟨_,hn _,by repeat with_reducible exact Take.nil⟩);rintro _ _ ⟨rfl,rfl⟩)|(apply zD;exact rfl;exact rfl;(focus first|exact rfl);exact rfl;(focus exact⟨_,yN _ _,by repeat with_reducible exact Take.nil⟩);rintro _ _ ⟨n,rfl,rfl⟩)|(apply zD;exact rfl;exact rfl;(focus first|exact rfl);exact rfl;(focus exact⟨_,hX _ _,by repeat with_reducible first|exact Take.nil|apply Take.c⟩);rintro _ _ ⟨rfl,rfl⟩)|(apply zD;exact rfl;exact rfl;(focus first|exact rfl);exact rfl;(focus exact⟨_,hK2 _ _,by repeat with_reducible exact Take.nil⟩);rintro _ _ ⟨rfl,rfl⟩)|(apply zD;exact rfl;exact rfl;(focus first|exact rfl);exact rfl;(focus exact⟨_,rErr_any _ _ _ _,by repeat with_reducible exact Take.nil⟩);rintro _ _ ⟨rfl,rfl⟩)|(apply zD;exact rfl;exact rfl;(focus first|exact rfl);exact rfl;(focus exact⟨_,rLeft_any _ _ _ _,by repeat with_reducible exact Take.nil⟩);rintro _ _ ⟨rfl,rfl⟩)|(apply zD;exact rfl;exact rfl;(focus first|exact rfl);exact rfl;(focus exact⟨_,hO _,by repeat with_reducible exact Take.nil⟩);rintro _ _ ⟨rfl,rfl⟩)|(apply zU;exact rfl;exact rfl)|(apply o_gF;(iterate 3 exact rfl);(focus first|omega))|(apply zS;exact rfl)|(apply yC;exact rfl;(focus first|omega))|(apply yD;exact rfl;(focus first|omega))|apply zA|apply zP|apply zI|apply zN|((with_reducible apply Sd.mk);first|exact True.intro|omega)|((with_reducible apply Ln.mk);first|rfl)|((with_reducible apply Wr.mk);first|exact IntWalk.i64_in _ (by omega))|((with_reducible apply Pu.mk);first|exact yA rfl)|exact True.intro|intro A)
   all_goals first
    |(exfalso;omega)
    |contradiction
    |(apply zL;(exact(show ResS _ _ _ _ [_,_,_,_] from(res_cell zC rfl rfl rfl (by exact pk) (by first|rfl|exact ‹_›|omega|(simp ;first|done|omega)) (by first|rfl|exact ‹_›|omega|(simp ;first|done|omega)) ⟨rfl,⟨rfl,⟨rfl,trivial⟩⟩⟩)));(focus exact⟨rfl,rfl⟩);(focus repeat with_reducible first|exact Take.nil|apply Take.c|apply Take.drop))
def unwV :Option (Int × List UInt8 × Nat × Bool)→Value
 |none=>.tuple ⟨[frV 0 [],I 0,I 12]⟩
 |some (k,c,n,_)=>.tuple ⟨[frV k c,I n,I 0]⟩
theorem Unwrap_any (d:List UInt8)(h:SH)(hl:d.length≤1000000):SRun Tryz.prog 10 [S d] h fun r q=>r=unwV (prs d)∧q=h:=by
 have hP:=fun h=>parse_any d h hl
 cases hp:prs d with
 |none =>
  rw[hp]at hP
  refine zR Tryz.func10 rfl rfl ?_
  repeat'(first|apply zF|apply zB|apply zE|(apply o_g zC;exact rfl;exact rfl)|(apply yR;exact rfl;exact rfl)|(apply yE zC;(iterate 4 exact rfl);(focus exact⟨rfl⟩);(focus exact up))|(apply yG zC;iterate 5 exact rfl)|(apply yT zC;exact rfl;exact rfl;(focus first|with_reducible exact pl33);exact rfl;(focus repeat(first|exact BuildR.nil));exact rfl)|(apply zD;exact rfl;exact rfl;(focus first|exact rfl);exact rfl;(focus exact⟨_,hP _,by repeat with_reducible exact Take.nil⟩);rintro _ _ ⟨rfl,rfl⟩)|(apply yB;exact rfl)|apply zA|apply zP|apply zN|((with_reducible apply Sd.mk);first|exact True.intro)|((with_reducible apply Ln.mk);first|rfl)|((with_reducible apply Pu.mk);first|exact yA rfl)|exact True.intro|intro A)
  all_goals first
   |contradiction
   |(apply zL;(exact(show ResS _ _ _ _ [_,_,_] from(res_cell zC rfl rfl rfl (by exact pk) (by first|rfl|exact ‹_›|omega|(simp ;first|done|omega)) (by first|rfl|exact ‹_›|omega|(simp ;first|done|omega)) ⟨rfl,⟨rfl,trivial⟩⟩)));(focus exact⟨rfl,rfl⟩);(focus repeat with_reducible first|exact Take.nil|apply Take.c|apply Take.drop))
 |some V =>
  obtain⟨k,c,n,s⟩:=V
  rw[hp]at hP
  refine zR Tryz.func10 rfl rfl ?_
  repeat'(first|apply zF|apply zB|apply zE|(apply o_g zC;exact rfl;exact rfl)|(apply yR;exact rfl;exact rfl)|(apply yQ zC;(iterate 3 exact rfl);(focus exact pk))|(apply yE zC;(iterate 4 exact rfl);(focus exact⟨rfl⟩);(focus exact up))|(apply yG zC;iterate 5 exact rfl)|(apply zD;exact rfl;exact rfl;(focus first|exact rfl);exact rfl;(focus exact⟨_,hP _,by repeat with_reducible exact Take.nil⟩);rintro _ _ ⟨rfl,rfl⟩)|(apply zS;exact rfl)|apply zA|apply zI|apply zN|((with_reducible apply Sd.mk);first|exact True.intro)|((with_reducible apply Ln.mk);first|rfl)|((with_reducible apply Pu.mk);first|exact yA rfl)|((with_reducible apply Su.mk);first|exact zQ)|exact True.intro|intro A|exact rfl)
  all_goals first
   |contradiction
   |(apply zL;(exact(show ResS _ _ _ _ [_,_,_] from(res_cell zC rfl rfl rfl (by exact pk) (by first|rfl|exact ‹_›|omega|(simp ;first|done|omega)) (by first|rfl|exact ‹_›|omega|(simp ;first|done|omega)) ⟨rfl,⟨rfl,trivial⟩⟩)));(focus exact⟨rfl,rfl⟩);(focus repeat with_reducible first|exact Take.nil|apply Take.c|apply Take.drop))
end Go.Proofs.YteddogfolceahaaGreat
end
section
set_option maxRecDepth 4000
namespace Go.Gh
open Go.RowKit

theorem vrel_det {φ:Nat→Loc}{L:Lens}{as0:List Value}{vs:Array Value}(hc:as0.all yJ=true)(h:VRel φ L as0 vs):vs=as0.toArray:=by
 obtain⟨hs,hg⟩:=h
 refine Array.ext (by simpa using hs) fun i hi hi'=>?_
 have hl:i<as0.length:=by simpa using hi'
 obtain⟨v,g1,g2⟩:=hg i as0[i] (by simp[hl])
 have:=Val.det ((List.all_eq_true.1 hc) as0[i] (List.getElem_mem hl)) g2
 rw[Array.getElem?_eq_getElem hi]at g1
 simp only[Option.some.injEq]at g1
 rw[g1,this];simp
theorem srun_lib {P:Program}{f:FuncId}{as0:List Value}{v:Value}{h:SH}(hc:as0.all yJ=true)(hv:yJ v=true)
  (k:∀w:World,Calls P f as0.toArray w fun e w'=>e=.returned v∧Below w.heap.size w w'):SRun P f as0 h fun r q=>r=v∧q=h:=by
 unfold SRun
 intro H i
 unfold Run
 intro B0 w0 φs Ls φ w vs he hr hvs
 rw[vrel_det hc hvs]
 refine(k w).mono ?_
 rintro e w' ⟨rfl,hb⟩
 exact⟨φ,v,H,v,he,hr.later hb,rfl,Val.const hv,h,⟨rfl,rfl⟩,i⟩
end Go.Gh
end
section
set_option maxRecDepth 4000
namespace Go.Proofs.YteddogfolceahaaGreat
open Go.Gh Go.RowKit Go.Shelf

attribute [local go_sem] Oper.semAt_some

def KpB (Bn:Nat)(X Y:World):Prop:=Y.heap[Bn]?=X.heap[Bn]?∧X.heap.size≤Y.heap.size
theorem KpB.t {Bn:Nat}{X Y Z:World}(h:KpB Bn X Y)(k:KpB Bn Y Z):KpB Bn X Z:=⟨k.1.trans h.1,Nat.le_trans h.2 k.2⟩
theorem KpB.cell {Bn:Nat}{X Y:World}{v:Value}(h:KpB Bn X Y)(hc:X.cell? ⟨Bn,0,none⟩=some v):Y.cell? ⟨Bn,0,none⟩=some v:=(World.cell?_of_block (w:=X) (a:=⟨Bn,0,none⟩) h.1).trans hc
theorem KpB.below {Bn:Nat}{X Y:World}(h:Below X.heap.size X Y)(hB:Bn<X.heap.size):KpB Bn X Y:=⟨h.block Bn hB,h.size⟩

attribute [local go_sem] Oper.semAt_some

end Go.Proofs.YteddogfolceahaaGreat
end
section
set_option maxRecDepth 4000
namespace Go.Proofs.YteddogfolceahaaGreat
open Go.Gh Go.RowKit

theorem wrp_len {k:Int}{c:List UInt8}(h:(wrp k c).2=0):(0≤k∧k≤15)∧c.length≤4096∧7≤(wrp k c).1.length∧(wrp k c).1.length≤4120:=by
 unfold wrp at h ⊢
 split at h
 ·exact absurd h (by decide)
 ·split at h
  ·exact absurd h (by decide)
  ·rename_i h1 h2
   rw[if_neg h1,if_neg h2]
   have hf:∀(k:Int) (b:List UInt8),b.length≤4096→7≤(sl (frm k b)).length∧(sl (frm k b)).length≤4120:=fun k b hb=>by
    have hs1:=vnum_len (n:=(b.length:Int)) (by omega)
    have hs2:=(vk_ok (n:=(b.length:Int)) (by omega)).2
    unfold sl frm
    rw[List.length_append,List.length_append,List.length_append,le4_len,hd2_len]
    omega
   refine⟨by omega,by omega,?_⟩
   show 7≤(if(lzE c).1.length<c.length then sl (frm (k+16) (lzE c).1)else sl (frm k c)).length∧(if(lzE c).1.length<c.length then sl (frm (k+16) (lzE c).1)else sl (frm k c)).length≤4120
   split
   ·exact hf _ _ (by omega)
   ·exact hf _ _ (by omega)
theorem prs_ok {d:List UInt8}{k:Int}{c:List UInt8}{n:Nat}{s:Bool}(h:prs d=some (k,c,n,s)):wrp k c=(d.take n,0)∧n≤d.length∧7≤n∧bat d 0=165∧s=decide (16≤bat d 1):=by
 unfold prs at h
 split at h
 ·cases h
 ·rename_i h1
  split at h
  ·cases h
  ·rename_i b r hx
   split at h
   ·cases h
   ·split at h
    ·cases h
    ·split at h
     ·cases h
     ·rename_i h2 h3 _ c' hb
      split at h
      ·rename_i hw
       cases h
       have hl:=wrp_len (k:=bat d 1%16) (c:=c) (by rw[hw])
       rw[hw]at hl
       dsimp only at hl
       rw[List.length_take]at hl
       exact⟨hw,by omega,by omega,by omega,rfl⟩
      ·cases h

def qn (q:Nat):Nat:=q+(2048-q)/32
def qs :Nat→Nat
 |0=>1024
 |t+1=>qn (qs t)
def lnC :Nat:=4294967295^64
def Paid (e:Enc)(G:Nat):Prop:=(256^e.out.length)^64*lnC≤e.size.toNat^64*2^G
theorem Paid.mono {e:Enc}{G H:Nat}(h:Paid e G)(g:G≤H):Paid e H :=
 Nat.le_trans h (Nat.mul_le_mul_left _ (Nat.pow_le_pow_right (by decide) g))

def PathQ (t:List Int)(v:Int)(q:Nat):Nat→Nat→Prop
 |0,_=>True
 |k+1,j=>j<t.length∧t[j]! = (if v/2^k%2=0 then(q:Int)else 2048-q)∧PathQ t v q k (2*j+(v/2^k%2).toNat)
theorem set_far {t:List Int}{j i:Nat}{x:Int}(h:j≠i):(t.set j x)[i]! = t[i]!:=by
 rw[List.getElem!_eq_getElem?_getD,List.getElem!_eq_getElem?_getD,List.getElem?_set_ne h]
theorem set_here {t:List Int}{j:Nat}{x:Int}(h:j<t.length):(t.set j x)[j]! = x:=by
 rw[List.getElem!_eq_getElem?_getD,List.getElem?_set_self h];rfl
theorem PathQ.set {t:List Int}{v:Int}{q i:Nat}{x:Int}:∀(k j:Nat),i<j→PathQ t v q k j→PathQ (t.set i x) v q k j
 |0,_,_,_=>trivial
 |k+1,j,hij,h=>⟨by rw[List.length_set];exact h.1,by rw[set_far (by omega)];exact h.2.1,PathQ.set k _ (by omega) h.2.2⟩
theorem tenc_low {v:Int}:∀(k:Nat) {t:List Int} {e:Enc} {j i:Nat},i<j→(tenc v k t e j).1[i]! = t[i]!
 |0,_,_,_,_,_=>rfl
 |k+1,t,e,j,i,h=>by
  have:=tenc_low (v:=v) k (t:=t.set j (adp t[j]! (v/2^k%2))) (e:=ebit e t[j]! (v/2^k%2)) (j:=2*j+(v/2^k%2).toNat) (i:=i) (by omega)
  exact this.trans (set_far (by omega))
theorem tenc_len2 {v:Int}:∀(k:Nat) {t:List Int} {e:Enc} {j:Nat},(tenc v k t e j).1.length=t.length
 |0,_,_,_=>rfl
 |k+1,t,e,j=>(tenc_len2 k (t:=t.set j (adp t[j]! (v/2^k%2)))).trans List.length_set
theorem adp_q {q:Nat}(h:1≤q∧q≤2047)(b:Int)(hb:b=0∨b=1):adp (if b=0 then(q:Int)else 2048-q) b=if b=0 then(qn q:Int)else 2048-qn q:=by
 unfold adp qn
 rcases hb with rfl|rfl
 ·rw[if_pos rfl,if_pos rfl,if_pos rfl]
  have:clp (q:Int)=q:=by unfold clp;omega
  rw[this];omega
 ·rw[if_neg (by decide),if_neg (by decide),if_neg (by decide)]
  have:clp (2048-(q:Int))=2048-q:=by unfold clp;omega
  rw[this];omega
theorem PathQ.next {v:Int}{q:Nat}(hq:1≤q∧q≤2047):∀(k:Nat) {t:List Int} {e:Enc} {j:Nat},1≤j→PathQ t v q k j→PathQ (tenc v k t e j).1 v (qn q) k j
 |0,_,_,_,_,_=>trivial
 |k+1,t,e,j,hj,h=>by
  obtain⟨h1,h2,h3⟩:=h
  have hb:=bit01 v k
  show PathQ (tenc v k (t.set j (adp t[j]! (v/2^k%2))) (ebit e t[j]! (v/2^k%2)) (2*j+(v/2^k%2).toNat)).1 v (qn q) (k+1) j
  refine⟨by rw[tenc_len2,List.length_set];exact h1,?_,?_⟩
  ·rw[tenc_low k (by omega),set_here h1,h2]
   exact adp_q hq _ hb
  ·exact PathQ.next hq k (by omega) (PathQ.set k _ (by omega) h3)

def InT (lo:Nat)(t:List Int):Prop:=∀i,i<t.length→(lo:Int)≤t[i]!∧t[i]!≤2048-lo
theorem InT.le {lo lo':Nat}{t:List Int}(h:InT lo t)(hl:lo'≤lo):InT lo' t:=fun i hi=>by have:=h i hi;omega
end Go.Proofs.YteddogfolceahaaGreat
end
section
namespace Go.Proofs
open Go.Shelf
def Tryz.lays105_ren :Go.Shelf.Ren:=⟨fun|105=>168|212=>188|99=>189|165=>190|166=>191|170=>192|169=>193|263=>225|264=>226|206=>227|240=>228|241=>229|276=>233|277=>234|n=>n,fun|9=>9|3=>3|4=>4|20=>20|0=>0|46=>125|109=>261|5=>5|72=>266|76=>270|51=>24|146=>283|53=>178|148=>285|70=>264|37=>37|75=>269|127=>287|164=>292|80=>103|n=>n,fun|n=>n⟩
theorem Tryz.lays105 :Go.Proofs.Lays.n105 Tryz.prog Tryz.lays105_ren:={
 mixed:=by kernel_rfl
 f99:=Tryz.func189.trans (congrArg some (by kernel_rfl))
 f105:=Tryz.func168.trans (congrArg some (by kernel_rfl))
 f165:=Tryz.func190.trans (congrArg some (by kernel_rfl))
 f166:=Tryz.func191.trans (congrArg some (by kernel_rfl))
 f169:=Tryz.func193.trans (congrArg some (by kernel_rfl))
 f170:=Tryz.func192.trans (congrArg some (by kernel_rfl))
 f206:=Tryz.func227.trans (congrArg some (by kernel_rfl))
 f212:=Tryz.func188.trans (congrArg some (by kernel_rfl))
 f240:=Tryz.func228.trans (congrArg some (by kernel_rfl))
 f241:=Tryz.func229.trans (congrArg some (by kernel_rfl))
 f263:=Tryz.func225.trans (congrArg some (by kernel_rfl))
 f264:=Tryz.func226.trans (congrArg some (by kernel_rfl))
 f276:=Tryz.func233.trans (congrArg some (by kernel_rfl))
 f277:=Tryz.func234.trans (congrArg some (by kernel_rfl))
 t0:=Tryz.underlying0
 a0:=Tryz.isAgg0
 z0:=Tryz.sizeOf0
 v0:=Tryz.zeroValue0
 t3:=Tryz.underlying3
 a3:=Tryz.isAgg3
 z3:=Tryz.sizeOf3
 v3:=Tryz.zeroValue3
 t4:=Tryz.underlying4
 a4:=Tryz.isAgg4
 z4:=Tryz.sizeOf4
 v4:=Tryz.zeroValue4
 t5:=Tryz.underlying5
 a5:=Tryz.isAgg5
 z5:=Tryz.sizeOf5
 v5:=Tryz.zeroValue5
 t9:=Tryz.underlying9
 a9:=Tryz.isAgg9
 z9:=Tryz.sizeOf9
 v9:=Tryz.zeroValue9
 t20:=Tryz.underlying20
 a20:=Tryz.isAgg20
 z20:=Tryz.sizeOf20
 v20:=Tryz.zeroValue20
 t37:=Tryz.underlying37
 a37:=Tryz.isAgg37
 z37:=Tryz.sizeOf37
 v37:=Tryz.zeroValue37
 t46:=Tryz.underlying125
 a46:=Tryz.isAgg125
 z46:=Tryz.sizeOf125
 v46:=Tryz.zeroValue125
 t51:=Tryz.underlying24
 a51:=Tryz.isAgg24
 z51:=Tryz.sizeOf24
 v51:=Tryz.zeroValue24
 t53:=Tryz.underlying178
 a53:=Tryz.isAgg178
 z53:=Tryz.sizeOf178
 v53:=Tryz.zeroValue178
 t70:=Tryz.underlying264
 a70:=Tryz.isAgg264
 z70:=Tryz.sizeOf264
 v70:=Tryz.zeroValue264
 t72:=Tryz.underlying266
 a72:=Tryz.isAgg266
 z72:=Tryz.sizeOf266
 v72:=Tryz.zeroValue266
 t75:=Tryz.underlying269
 a75:=Tryz.isAgg269
 z75:=Tryz.sizeOf269
 v75:=Tryz.zeroValue269
 t76:=Tryz.underlying270
 a76:=Tryz.isAgg270
 z76:=Tryz.sizeOf270
 v76:=Tryz.zeroValue270
 t109:=Tryz.underlying261
 a109:=Tryz.isAgg261
 z109:=Tryz.sizeOf261
 v109:=Tryz.zeroValue261
 t127:=Tryz.underlying287
 a127:=Tryz.isAgg287
 z127:=Tryz.sizeOf287
 v127:=Tryz.zeroValue287
 t146:=Tryz.underlying283
 a146:=Tryz.isAgg283
 z146:=Tryz.sizeOf283
 v146:=Tryz.zeroValue283
 t148:=Tryz.underlying285
 a148:=Tryz.isAgg285
 z148:=Tryz.sizeOf285
 v148:=Tryz.zeroValue285
 t164:=Tryz.underlying292
 a164:=Tryz.isAgg292
 z164:=Tryz.sizeOf292
 v164:=Tryz.zeroValue292 }
theorem Tryz.Builder_Extra_105 :Builder.Extra Tryz.prog Tryz.lays105_ren:={
 sizeBuilder:=by kernel_rfl
 liesBuilder:=by kernel_rfl
 t5:=Tryz.underlying5
 a5:=Tryz.isAgg5
 z5:=Tryz.sizeOf5
 v5:=Tryz.zeroValue5
 infoByte:=by kernel_rfl
 cellsByte:=by kernel_rfl
 sizeByte:=by kernel_rfl
 neB5:=by decide }
open Go.RowKit Go.Lib in
theorem Tryz.strings_Repeat (s:ByteArray)(c:Nat)(w:World)(hc:c≤9223372036854775807)(hlen:s.size*c≤140737488355328) :
  Calls Tryz.prog 168 #[.string s,.int .i64 c] w fun e w'=>e=.returned (.string ⟨(Lib.repeatL s.data.toList c).toArray⟩)∧Below w.heap.size w w':=Any.strings_Repeat Tryz.lays105 Tryz.Builder_Extra_105 s c w hc hlen
end Go.Proofs
end
section
set_option maxRecDepth 4000
namespace Go.Proofs.YteddogfolceahaaGreat
open Go.Gh Go.RowKit

theorem Repeat_any (l:List UInt8)(n:Nat)(h:SH)(hn:n≤9223372036854775807)(hl:l.length*n≤140737488355328):SRun Tryz.prog 168 [S l,I n] h fun r q=>r=S (Lib.repeatL l n)∧q=h :=
 srun_lib rfl rfl fun w=>Tryz.strings_Repeat ⟨⟨l⟩⟩ n w hn hl

theorem lzD_most {c:List UInt8}(hl:c.length≤4096)(h0:c≠[]):lzD (lzE c).1 4096=(c,0):=by
 have h1:=lzE_ne hl h0
 rw[h1]
 show lzD (wrt c.length (pcs c)) 4096=_
 rw[(lzD_wrt hl (by omega) (pcs_cov hl) 4096).1,if_neg (by omega),if_pos h1]

abbrev Fr1 :Type:=Int × List UInt8
abbrev frC (x:Fr1):List Value:=[I x.1,S x.2]
def encF :List Fr1→List UInt8→List UInt8 × Int
 |[],o=>(o,0)
 |x::r,o=>if(wrp x.1 x.2).2≠0 then([],(wrp x.1 x.2).2)else encF r (o++(wrp x.1 x.2).1)
def decF :Nat→List UInt8→List Fr1→Option (List Fr1)
 |0,_,o=>some o
 |f+1,d,o=>if d=[] then some o else match prs d with
  |none=>none
  |some (k,c,n,_)=>decF f (d.drop n) (o++[(k,c)])
theorem wrp_1 (k:Int)(c:List UInt8):(wrp k c).1.length≤4120:=by
 by_cases h:(wrp k c).2=0
 ·exact(wrp_len h).2.2.2
 ·unfold wrp at h ⊢
  split
  ·exact Nat.zero_le _
  ·split
   ·exact Nat.zero_le _
   ·rename_i h1 h2
    rw[if_neg h1,if_neg h2]at h
    exact absurd rfl h
theorem drop_bangF {α:Type}[Inhabited α]{l:List α}{i:Nat}(h:i<l.length):l.drop i=l[i]!::l.drop (i+1):=by
 rw[getElem!_pos l i h];exact List.drop_eq_getElem_cons h
theorem frC_len (l:List Fr1):(recs frC l).length=2*l.length:=by
 induction l with
 |nil=>rfl
 |cons x r ih=>show(frC x++recs frC r).length=2*(r.length+1);rw[List.length_append,ih];show 2+_=_;omega
theorem EncodeF_any (l:List Fr1)(v:Value)(h:SH)(hv:Has h (recs frC l) 2 l.length v)(hl:l.length≤1000)(hc:∀x∈l,x.2.length≤9223372036854775807) :
  SRun Tryz.prog 7 [v] h fun r q=>r=.tuple #[S (encF l []).1,I (encF l []).2]∧q=h:=by
 obtain⟨ad,fl,rfl,hh⟩:=hv
 have hlb:=frC_len l
 obtain⟨R,hR⟩:∃R,encF l []=R:=⟨_,rfl⟩
 rw[hR]
 refine zR Tryz.func7 rfl rfl ?_
 repeat'(first|apply zF|apply zB|apply zE|(apply o_g zC;exact rfl;exact rfl)|apply zA|apply zH|((with_reducible apply Sd.mk);first|exact True.intro))
 refine zZ (S:=Nat × List UInt8) (fun s=>[(4,S s.2),(9,.slice ad l.length fl),(10,I l.length),(11,I s.1)]) (fun _=>h) (fun s=>s.1≤l.length∧s.2.length≤4120*s.1∧encF (l.drop s.1) s.2=R) (fun s=>l.length-s.1)
  (0,[]) ⟨Nat.zero_le _,Nat.zero_le _,hR⟩ (by repeat'(first|exact trivial|refine⟨rfl,?_⟩|refine⟨congrArg some ?_,?_⟩)) (by repeat with_reducible first|exact Take.nil|apply Take.c|apply Take.drop) ?_
 rintro⟨i,o⟩ ⟨hi,ho,he⟩
 dsimp only at hi ho he ⊢
 by_cases hil:i<l.length
 ·obtain⟨A',ro,h1,rfl,hp⟩:=hh (by omega)
  have hx:=hc _ (bang_mem hil)
  rw[drop_bangF hil]at he
  generalize hz:l[i]! = z at he hx
  have hW:=fun h=>Wrap_any l[i]!.1 l[i]!.2 h (by rw[hz];exact hx)
  rw[hz]at hW
  have hwl:=wrp_1 z.1 z.2
  have he:(if(wrp z.1 z.2).2≠0 then([],(wrp z.1 z.2).2)else encF (l.drop (i+1)) (o++(wrp z.1 z.2).1))=R:=he
  generalize wrp z.1 z.2=T at *
  obtain⟨t,e⟩:=T
  dsimp only at he hW hwl
  have hW:∀h,SRun Tryz.prog 26 [.agg ⟨frC l[i]!⟩] h fun r q=>r=.tuple #[S t,I e]∧q=h:=fun h=>by rw[hz];exact hW h
  by_cases h0:e=0
  ·subst h0
   rw[if_neg (fun k=>k rfl)]at he
   repeat'(first|apply zF|apply zB|apply zE|(apply o_g zC;exact rfl;exact rfl)|(apply o_ar zC;exact rfl;exact rfl)|(apply yQ zC;(iterate 3 exact rfl);(focus exact pk))|(apply yE zC;(iterate 4 exact rfl);(focus exact⟨rfl⟩);(focus exact up))|(apply yG zC;iterate 5 exact rfl)|(apply zD;exact rfl;exact rfl;(focus first|exact rfl);exact rfl;(focus exact⟨_,hW _,by repeat with_reducible exact Take.nil⟩);rintro _ _ ⟨rfl,rfl⟩)|(apply zS;exact rfl)|(apply yC;exact rfl;(focus first|omega))|apply zA|apply zG|apply zI|apply zH|((with_reducible apply Sd.mk);first|exact True.intro|omega)|((with_reducible apply Ln.mk);first|rfl|omega)|((with_reducible apply Wr.mk);first|exact IntWalk.i64_in _ (by omega))|((with_reducible apply Pu.mk);first|exact yA rfl)|((with_reducible apply Su.mk);first|exact zQ|exact subAt_recZ (fun _=>rfl) (by omega))|exact True.intro|intro A|exact rfl)
   all_goals first
    |(exfalso;omega)
    |contradiction
    |exact⟨(i+1,o++t),⟨hil,by show(o++t).length≤_;rw[List.length_append];omega,he⟩,by show l.length-(i+1)<l.length-i;omega,(by repeat'(first|exact trivial|refine⟨rfl,?_⟩|refine⟨congrArg some ?_,?_⟩)),(by repeat with_reducible first|exact Take.nil|apply Take.c|apply Take.drop)⟩
  ·rw[if_pos h0]at he
   subst he
   repeat'(first|apply zF|apply zB|apply zE|(apply o_g zC;exact rfl;exact rfl)|(apply yQ zC;(iterate 3 exact rfl);(focus exact pk))|(apply yE zC;(iterate 4 exact rfl);(focus exact⟨rfl⟩);(focus exact up))|(apply yG zC;iterate 5 exact rfl)|(apply zD;exact rfl;exact rfl;(focus first|exact rfl);exact rfl;(focus exact⟨_,hW _,by repeat with_reducible exact Take.nil⟩);rintro _ _ ⟨rfl,rfl⟩)|(apply yC;exact rfl;(focus first|omega))|apply zA|apply zP|apply yP|apply zI|apply zN|apply zH|((with_reducible apply Sd.mk);first|exact True.intro|omega)|((with_reducible apply Ln.mk);first|rfl|omega)|((with_reducible apply Pu.mk);first|exact yA rfl)|((with_reducible apply Su.mk);first|exact zQ|exact subAt_recZ (fun _=>rfl) (by omega))|exact True.intro|intro A|exact rfl)
   all_goals first
    |(exfalso;omega)
    |contradiction
    |(apply zL;(exact(show ResS _ _ _ _ [_,_] from⟨rfl,⟨rfl,trivial⟩⟩));(focus exact⟨rfl,rfl⟩);(focus repeat with_reducible first|exact Take.nil|apply Take.c|apply Take.drop))
 ·obtain rfl:i=l.length:=by omega
  rw[List.drop_length]at he
  have he:(o,0)=R:=he
  subst he
  repeat'(first|apply zF|apply zB|apply zE|(apply o_g zC;exact rfl;exact rfl)|(apply yD;exact rfl;(focus first|omega))|apply zA|apply zK|apply zJ|apply zN|apply zV|((with_reducible apply Sd.mk);first|exact True.intro))
  all_goals first
   |(exfalso;omega)
   |(apply zL;(exact(show ResS _ _ _ _ [_,_] from⟨rfl,⟨rfl,trivial⟩⟩));(focus exact⟨rfl,rfl⟩);(focus repeat with_reducible first|exact Take.nil|apply Take.c|apply Take.drop))
inductive FrO (h:SH):List Fr1→Value→SH→Prop
 |nil:FrO h [] (.slice none 0 0) h
 |some (A:Nat) (l:List Fr1):FrO h l (gsl A 0 (2*l.length) l.length 2) ((A,⟨recs frC l,false⟩)::h)
theorem FrO.has {h q:SH}{l:List Fr1}{v:Value}(g:FrO h l v q):Has q (recs frC l) 2 l.length v∧Take q h:=by
 cases g with
 |nil=>exact⟨⟨none,0,rfl,fun k=>absurd rfl k⟩,.nil⟩
 |some A l=>exact⟨⟨_,_,rfl,fun _=>⟨A,false,h,rfl,.head⟩⟩,.drop .nil⟩
theorem DecodeF_any (d:List UInt8)(h:SH)(hl:d.length≤1000000):SRun Tryz.prog 11 [S d] h fun r q =>
  match decF d.length d []with
  |none=>r=.tuple #[.slice none 0 0,I 12]∧q=h
  |some l=>∃v,r=.tuple #[v,I 0]∧Has q (recs frC l) 2 l.length v∧Take q h:=by
 obtain⟨R,hR⟩:∃R,decF d.length d []=R:=⟨_,rfl⟩
 rw[hR]
 refine zR Tryz.func11 rfl rfl ?_
 repeat'(first|apply zF|apply zB|apply zE|(apply o_g zC;exact rfl;exact rfl)|apply zA|apply zH|((with_reducible apply Sd.mk);first|exact True.intro))
 refine zZ (S:=Nat × List UInt8 × List Fr1 × Value × SH) (fun s=>[(0,S s.2.1),(4,s.2.2.2.1)]) (fun s=>s.2.2.2.2) (fun s=>s.2.1.length≤s.1∧s.2.1.length≤1000000∧s.2.2.1.length+s.2.1.length≤1000000∧FrO h s.2.2.1 s.2.2.2.1 s.2.2.2.2∧decF s.1 s.2.1 s.2.2.1=R) (fun s=>s.1)
  (d.length,d,[],.slice none 0 0,h) ⟨Nat.le_refl _,hl,by show 0+d.length≤_;omega,.nil,hR⟩ (by repeat'(first|exact trivial|refine⟨rfl,?_⟩|refine⟨congrArg some ?_,?_⟩)) (by repeat with_reducible first|exact Take.nil|apply Take.c|apply Take.drop) ?_
 rintro⟨f,d,l,v,q⟩ ⟨hf,hd,hs,hg,he⟩
 dsimp only at hf hd hs hg he ⊢
 by_cases h0:d=[]
 ·subst h0
  have he:some l=R:=by
   cases f with
   |zero=>exact he
   |succ f=>exact he
  subst he
  repeat'(first|apply zF|apply zB|apply zE|(apply o_g zC;exact rfl;exact rfl)|(apply zS;exact rfl)|apply zA|apply zK|apply zJ|apply zN|apply zV|((with_reducible apply Sd.mk);first|exact True.intro))
  all_goals first
   |contradiction
   |(apply zL;(exact(show ResS _ _ _ _ [_,_] from⟨rfl,⟨rfl,trivial⟩⟩));(focus exact⟨v,rfl,hg.has⟩);(focus repeat with_reducible first|exact Take.nil|apply Take.c|apply Take.drop))
 ·obtain⟨f,rfl⟩:∃f',f=f'+1:=⟨f-1,by have:=List.length_pos_iff.2 h0;omega⟩
  have hU:=fun h=>Unwrap_any d h hd
  have he:(match prs d with
   |none=>none
   |some (k,c,n,_)=>decF f (d.drop n) (l++[(k,c)]))=R:=by
   rw[←he]
   exact(if_neg h0).symm
  cases hp:prs d with
  |none =>
   rw[hp]at hU he
   dsimp only at he
   subst he
   have hU:∀h,SRun Tryz.prog 10 [S d] h fun r q=>r=.tuple ⟨[frV 0 [],I 0,I 12]⟩∧q=h:=hU
   repeat'(first|apply zF|apply zB|apply zE|(apply o_g zC;exact rfl;exact rfl)|(apply yE zC;(iterate 4 exact rfl);(focus exact⟨rfl⟩);(focus exact up))|(apply yG zC;iterate 5 exact rfl)|(apply zD;exact rfl;exact rfl;(focus first|exact rfl);exact rfl;(focus exact⟨_,hU _,by repeat with_reducible exact Take.nil⟩);rintro _ _ ⟨rfl,rfl⟩)|(apply yB;exact rfl)|(apply yC;exact rfl;(focus first|omega))|apply zA|apply zP|apply yP|apply zI|apply zN|apply zH|((with_reducible apply Sd.mk);first|exact True.intro)|((with_reducible apply Ln.mk);first|rfl)|((with_reducible apply Pu.mk);first|exact yA rfl)|exact True.intro|intro A)
   all_goals first
    |contradiction
    |(apply zL;(exact(show ResS _ _ _ _ [_,_] from⟨rfl,⟨rfl,trivial⟩⟩));(focus exact⟨rfl,rfl⟩);(focus repeat with_reducible first|exact Take.nil|apply Take.c|apply Take.drop))
   all_goals exact hg.has.2
  |some V =>
   obtain⟨k,c,n,s⟩:=V
   obtain⟨_,p1,p2,_⟩:=prs_ok hp
   rw[hp]at hU he
   dsimp only at he
   have hU:∀h,SRun Tryz.prog 10 [S d] h fun r q=>r=.tuple ⟨[frV k c,I n,I 0]⟩∧q=h:=hU
   have hdl:(d.drop n).length=d.length-n:=List.length_drop
   cases hg with
   |nil =>
    repeat'(first|apply zF|apply zB|apply zE|(apply o_g zC;exact rfl;exact rfl)|(apply yQ zC;(iterate 3 exact rfl);(focus exact pk))|(apply yE zC;(iterate 4 exact rfl);(focus exact⟨rfl⟩);(focus exact up))|(apply yG zC;iterate 5 exact rfl)|(apply zT zC;(iterate 5 exact rfl);(focus decide);exact rfl;(focus decide);(focus repeat(first|exact CatR.last rfl));exact rfl)|(apply o_append_nil zC;(iterate 5 exact rfl);(focus exact⟨by decide⟩);(focus exact pk))|(apply zD;exact rfl;exact rfl;(focus first|exact rfl);exact rfl;(focus exact⟨_,hU _,by repeat with_reducible exact Take.nil⟩);rintro _ _ ⟨rfl,rfl⟩)|(apply zS;exact rfl)|(apply yC;exact rfl;(focus first|omega))|apply zA|apply zG|apply zI|apply zH|((with_reducible apply Sd.mk);first|exact True.intro|omega|(constructor <;> first|omega|(unfold maxLen;omega)))|((with_reducible apply Ln.mk);first|rfl)|((with_reducible apply Pu.mk);first|exact yA rfl)|((with_reducible apply Su.mk);first|exact zQ)|exact True.intro|intro A|exact rfl)
    all_goals first
     |contradiction
     |(exfalso;omega)
     |skip
    rename_i q0 a1 a2
    exact⟨(f,d.drop n,[(k,c)],gsl A 0 2 1 2,(A,⟨recs frC [(k,c)],false⟩)::q0),⟨by show(d.drop n).length≤f;omega,by show(d.drop n).length≤_;omega,by show 1+(d.drop n).length≤_;omega,.some A [(k,c)],he⟩,by show f<f+1;omega,(by repeat'(first|exact trivial|refine⟨rfl,?_⟩|refine⟨congrArg some ?_,?_⟩)),(by repeat(first|with_reducible exact Take.nil|with_reducible apply Take.c|((with_reducible apply Take.cE);first|exact rfl|(apply blkE;(focus first|exact rfl|exact yI rfl|exact yO rfl|exact congrArg (fun v=>[v]) (gslE rfl rfl (by first|rfl|exact ‹_›|omega|(simp ;first|done|omega)) (by first|rfl|exact ‹_›|omega|(simp ;first|done|omega)) rfl))))|with_reducible apply Take.drop))⟩
   |some A0 l =>
    have hlb:=frC_len l
    repeat'(first|apply zF|apply zB|apply zE|(apply o_g zC;exact rfl;exact rfl)|(apply yQ zC;(iterate 3 exact rfl);(focus exact pk))|(apply yE zC;(iterate 4 exact rfl);(focus exact⟨rfl⟩);(focus exact up))|(apply yG zC;iterate 5 exact rfl)|(apply zT zC;(iterate 5 exact rfl);(focus decide);exact rfl;(focus decide);(focus repeat(first|exact CatR.last rfl));exact rfl)|(apply o_append zC;(iterate 5 exact rfl);(focus exact⟨by decide⟩);(focus exact up);(focus exact pk))|(apply zD;exact rfl;exact rfl;(focus first|exact rfl);exact rfl;(focus exact⟨_,hU _,by repeat with_reducible exact Take.nil⟩);rintro _ _ ⟨rfl,rfl⟩)|(apply zS;exact rfl)|(apply yC;exact rfl;(focus first|omega))|apply zA|apply zG|apply zI|apply zH|((with_reducible apply Sd.mk);first|exact True.intro|omega|(constructor <;> first|omega|(unfold maxLen;omega)))|((with_reducible apply Ln.mk);first|rfl|omega)|((with_reducible apply Pu.mk);first|exact yA rfl)|((with_reducible apply Su.mk);first|exact zQ)|exact True.intro|intro A|exact rfl)
    all_goals first
     |contradiction
     |(exfalso;omega)
     |skip
    exact⟨(f,d.drop n,l++[(k,c)],gsl A0 0 (2*(l++[(k,c)]).length) (l++[(k,c)]).length 2,(A0,⟨recs frC (l++[(k,c)]),false⟩)::h),⟨by show(d.drop n).length≤f;omega,by show(d.drop n).length≤_;omega,by show(l++[(k,c)]).length+(d.drop n).length≤_;rw[List.length_append,List.length_singleton];omega,.some A0 (l++[(k,c)]),he⟩,by show f<f+1;omega,
     ⟨rfl,congrArg some (gslE rfl rfl (by simp;omega) (by simp) rfl),trivial⟩,.consE (by repeat(first|exact .head|apply Pick.tail)) (blkE (yI rfl)) (by repeat(first|exact Take.nil|apply Take.drop))⟩

theorem edir_ok3 {n k:Nat}{e:Enc}(h:EncOk n e)(x v:Int)(hx:x≤k):EncOk (n+2*k) (edir e x v):=by
 unfold edir
 split
 ·exact h.mono (by omega)
 ·exact(ebits_ok h).mono (by omega)
theorem nenc_ok3 {n:Nat}{t:List Int}{e:Enc}(h:EncOk n e)(v:Int)(hv:0≤v∧v<4096):EncOk (n+(12+2*(blen v.toNat-1))) (nenc t e v).2:=by
 have h6:=tenc_ok (v:=(blen (ncut v).toNat:Int)) (k:=6) (t:=t) (j:=1) h
 have hc:ncut v=v:=if_neg (by omega)
 rw[hc]at h6
 show EncOk _ (if 2≤blen (ncut v).toNat then _ else _)
 rw[hc]
 split
 ·exact(edir_ok3 (k:=blen v.toNat-1) h6.1 ((blen v.toNat:Int)-1) v (by omega)).mono (by omega)
 ·exact h6.1.mono (by omega)
theorem blen_self (m:Nat):blen m≤m:=blen_le Nat.lt_two_pow_self
theorem wst_ok3 {n:Nat}{s:Ms × Enc}{t:Pc}(hx:MsOk s.1)(hok:EncOk n s.2)(ht:vPb t)(hd:t.2.1≤200):MsOk (wst s t).1∧EncOk (n+20*t.1.toNat) (wst s t).2:=by
 refine⟨(wst_ok hx hok ht).1,?_⟩
 obtain⟨hv,hy⟩:=ht
 unfold wst
 split
 ·have h1:=tenc_ok (v:=0) (k:=1) (t:=s.1.K) (j:=1) hok
  have h2:=benc_ok (v:=t.2.2) h1.1 hx.P hx.c
  exact h2.1.mono (by rcases hv with g|g <;> omega)
 ·rename_i h0
  have g:2≤t.1∧t.1<4000∧1≤t.2.1:=by rcases hv with g|g <;> omega
  have h1:=tenc_ok (v:=1) (k:=1) (t:=s.1.K) (j:=1) hok
  have h2:=nenc_ok3 (t:=s.1.L) h1.1 (t.1-2) (by omega)
  have h3:=nenc_ok3 (t:=s.1.D) h2 (t.2.1-1) (by omega)
  have b1:=blen_self (t.1-2).toNat
  have b2:blen (t.2.1-1).toNat≤8:=blen_le (by show _<256;omega)
  exact h3.mono (by omega)
theorem wrun_ok3 :∀{l:List Pc} {n:Nat} {s:Ms × Enc},MsOk s.1→EncOk n s.2→(∀t∈l,vPb t)→(∀t∈l,t.2.1≤200)→EncOk (n+20*psum l) (wrun l s).2
 |[],n,s,hx,hok,_,_=>hok
 |t::r,n,s,hx,hok,ht,hd=>by
  have h1:=wst_ok3 hx hok (ht t (by simp)) (hd t (by simp))
  have h2:=wrun_ok3 (l:=r) h1.1 h1.2 (fun u hu=>ht u (by simp[hu])) (fun u hu=>hd u (by simp[hu]))
  rw[wrun_cons]
  exact h2.mono (by show _≤n+20*(t.1.toNat+psum r);omega)
theorem cov_near {l:List UInt8}{w:Int}:∀{ps:List Pc} {i:Nat},Cov l w i ps→∀t∈ps,t.2.1≤l.length
 |[],_,_,t,ht=>by cases ht
 |a::r,i,h,t,ht=>by
  rcases List.mem_cons.1 ht with rfl|ht
  ·rcases h.1 with⟨h1,rfl⟩|⟨n,d,rfl,h1,h2,h3,h4,h5,h6,_⟩
   ·show(0:Int)≤_;omega
   ·dsimp only;omega
  ·exact cov_near h.2 t ht
theorem lzE_len3 {l:List UInt8}(hl:l.length≤200):(lzE l).1.length≤4096∧(lzE l).1≠[]:=by
 by_cases h0:l=[]
 ·subst h0;rw[zx1];exact⟨by decide,by decide⟩
 ·rw[lzE_ne (by omega) h0]
  have hc:=pcs_cov (l:=l) (by omega)
  have hn:=cov_near hc
  have h1:=wrun_ok3 (s:=zs0) ms0_ok encZ_ok (cov_vPb (by omega) hc) (fun t ht=>by have:=hn t ht;omega)
  have h2:=cov_psum (by omega) hc
  have h3:=h1.out
  have h4:=vnum_len (n:=(l.length:Int)) (by omega)
  have h5:=(vk_ok (n:=(l.length:Int)) (by omega)).2
  show(vnum l.length++fin (wrun (pcs l) zs0).2).length≤_∧vnum l.length++fin (wrun (pcs l) zs0).2≠[]
  have e:(vnum (l.length:Int)++fin (wrun (pcs l) zs0).2).length≤4096∧1≤(vnum (l.length:Int)++fin (wrun (pcs l) zs0).2).length:=by
   rw[List.length_append,fin_len]
   omega
  exact⟨e.1,fun g=>by rw[g]at e;exact absurd e.2 (by decide)⟩
end Go.Proofs.YteddogfolceahaaGreat
end
section
set_option maxRecDepth 4000
namespace Go.Gh
open Go.RowKit Go.MapKept

section
variable {P:Program} {N:Fr} {ops:Array Oper} {Q:Post} {rest:List Oper} {o:Oper} {a:AF} {H:Heap} {α:Type}
theorem a_slice3e (T:TypeId)(x lo hi mx:Operand){A off n len fl E s b:Nat}{z:Option Value}{i' j k:IntKind}{i:Int}(ho:o.op=.slice T x (some lo) (some hi) (some mx))(hx:ev a x=some (gsl A off n len fl))
  (hlo:ev a lo=some (.int i' i)) (hhi:ev a hi=some (.int j i)) (hmx:ev a mx=some (.int k i)) (hT:P.underlying T=some (.slice E)) (hI:tinf P E=some (z,s,b)) (h1:0≤i∧i≤len):APure P N o a H sempty:=by
 refine⟨fun B0 w0 φ w ac r hf=>?_⟩
 have hu:=zW hf hx
 have e1:=(zW hf hlo).scalar rfl
 have e2:=(zW hf hhi).scalar rfl
 have e3:=(zW hf hmx).scalar rfl
 generalize hv:ac.eval x=u at hu
 cases hu with
 |slc _ _ _ m _ _ cap c hL hle hc hm hh =>
  refine⟨.slice (some c) 0 0,.sdead _ _ (by omega),fun w _=>?_⟩
  unfold execOp
  simp only[ho,hv,e1,e2,e3,Instr.sliceAt,Instr.slice,Option.map_some,Sem.run_bind,run_underlying hT,Result.andThen_ok,Instr.sliceBounds,Instr.sliceBound,asIntOf,Sem.run_pure,
   Sem.run_ite,if_pos (show 0≤i∧i≤(cap:Int)from⟨by omega,by omega⟩),if_pos (show 0≤i∧i≤(i.toNat:Int)from⟨by omega,by omega⟩),run_sizeOf hI]
  simp
theorem exec_copy {ρ:Operand→Value}{t u:TypeId}{x y:Operand}{v:Value}{w w':World}(ho:o.op=.call { callee:=.builtin .copy,args:=#[x,y],argTypes:=#[t,u] })
  (hr:(Builtin.copy_ #[t,u] o.type #[ρ x,ρ y]).run P w=.ok v w'):(execOp ρ o).run P w=.ok (.value v) w':=by
 unfold execOp
 simp only[ho,resolve,invoke,builtin,Sem.run_bind,Sem.run_pure,Result.andThen_ok,List.map_toArray,List.map_cons,List.map_nil,hr]
theorem e_copyf (T U:TypeId)(x y:Operand){A off n len fl A2 off2 n2 k E b:Nat}{z:Option Value}{cells vs:List Value}{g2:Blk}
  (ho:o.op=.call { callee:=.builtin .copy,args:=#[x,y],argTypes:=#[T,U] }) (hx:ev a x=some (gsl A off n len fl)) (hy:ev a y=some (.slice (some ⟨A2,off2,none⟩) k (n2+1)))
  (hT:P.underlying T=some (.slice E)) (hI:tinf P E=some (z,1,b)) (hA:H[A]?=some (some ⟨cells,false⟩)) (hn:cells.length=n) (hA2:H[A2]?=some (some g2)) (hn2:g2.cells.length=n2)
  (hk:len=k) (hl:vs.length=k) (hfit:off+k≤cells.length) (hc:∀(i:Nat) v,vs[i]?=some v→g2.cells[off2+i]?=some v) (h1:vs.all one=true) :
  AEff P N o a H (I k) (H.set A (some ⟨lset cells off vs,false⟩)):=by
 subst hk
 refine eff_value (fun B0 w0 φ w ac r hf=>?_)
 obtain⟨cap,hu,hlc,hcm,hsz,hmp⟩:=slc_cells r hA hn (zW hf hx)
 have hfull:∃cap2,ac.eval y=.slice (some ⟨(φ A2).b,(φ A2).base+off2,none⟩) len cap2∧(φ A2).mp=false:=by
  have hv:=zW hf hy
  generalize ac.eval y=u at hv
  cases hv with
  |full _ _ m _ _ c hL hv hm h =>
   rw[lens_of hA2]at hL
   simp only[Option.some.injEq]at hL
   obtain⟨e1,e2⟩:=h (by omega)
   exact⟨len,by rw[e1],e2⟩
 obtain⟨cap2,hu2,hmp2⟩:=hfull
 obtain⟨us,hus,hucell⟩:=cells_rel r hA2 hmp2 off2 hc
 have hul:us.length=vs.length:=by have:=hus.size;simpa using this
 have hone:=vrel_one hus h1
 obtain⟨c,T',fz,k1,k2,k3,k4,k5⟩:=(r.blk A _ hA).ex hmp
 obtain⟨_,hbase⟩:=r.own A _ hA rfl
 simp only at k3 k5
 obtain⟨i,hi,e1,e2,e3⟩:=tinf_some hI
 obtain⟨φ',w',g1,g2',g3⟩:=store_rel (P:=P) (off:=off) (vs:=vs) (us:=us) r hA hmp (by omega) hus hone
 refine⟨φ',.int .i64 len,w',g2',g3,.int _ _,exec_copy ho ?_⟩
 have hload:=run_loadCells_list (P:=P) w ⟨(φ A2).b,(φ A2).base+off2,none⟩ us hucell
 rw[hu,hu2]
 have hmin:Nat.min len len=us.length:=by rw[hul,hl];exact Nat.min_self _
 simp[Builtin.copy_,run_underlying hT,Builtin.lenOf,Builtin.firstCells,sizeOf,typeInfo,hi,e2,hmin,hload,g1,goInt]
 omega
theorem e_copy0 (T U:TypeId)(x y:Operand){A2 off2 n2 E b:Nat}{z:Option Value}{g2:Blk}
  (ho:o.op=.call { callee:=.builtin .copy,args:=#[x,y],argTypes:=#[T,U] }) (hx:ev a x=some sempty) (hy:ev a y=some (.slice (some ⟨A2,off2,none⟩) 0 (n2+1)))
  (hT:P.underlying T=some (.slice E)) (hI:tinf P E=some (z,1,b)):APure P N o a H (I 0):=by
 refine⟨fun B0 w0 φ w ac r hf=>?_⟩
 have hx':=zW hf hx
 have hy':=zW hf hy
 obtain⟨i,hi,e1,e2,e3⟩:=tinf_some hI
 refine⟨I 0,.int _ _,fun w1 _=>exec_copy ho ?_⟩
 generalize ac.eval x=u at hx'
 generalize ac.eval y=u2 at hy'
 cases hx' with
 |sdead c cap hm =>
  cases hy' with
  |full _ _ m _ _ c2 hL hv hm h =>
   have hload:=run_loadCells_list (P:=P) w1 c2 [] (by simp)
   simp at hload
   simp[Builtin.copy_,run_underlying hT,Builtin.lenOf,Builtin.firstCells,sizeOf,typeInfo,hi,e2,hload,storeCells,goInt]
theorem a_lookupc [DecidableEq α](T:TypeId)(x k:Operand){A K E s b:Nat}{d:TypeDesc}{kf:α→Value}{l:List (α × Value)}{ro:Bool}{z:Value}{c:α}(ho:o.op=.lookup T x k true)(hx:ev a x=some (.map (some A)))(hk:ev a k=some (kf c))
  (hA:H[A]?=some (some ⟨mapC kf l,ro⟩)) (hT:P.underlying T=some (.map K E)) (hK:P.underlying K=some d) (KF:KeyF d kf) (hI:tinf P E=some (some z,s,b)) (hz:yJ z=true):APure P N o a H (.tuple #[(mget l c).getD z,B (mget l c).isSome]):=by
 refine⟨fun B0 w0 φ w ac r hf=>?_⟩
 obtain⟨h1,_,_,es,cl,h2,h3⟩:=map_obj r KF hA (zW hf hx)
 have h4:=(zW hf hk).scalar (KF.sc c)
 have two:∀{u v:Value} {b:Bool},Val φ (lens H) u v→Val φ (lens H) (.tuple #[u,B b]) (.tuple #[v,.bool b]):=fun {u v b} h=>by
  refine .tuple _ _ rfl fun i hi hi'=>?_
  match i,hi with
  |0,_=>exact h
  |1,_=>exact .bool b
 rcases h3.find KF c 0 with⟨g1,g2⟩|⟨j,e,v,g1,g2,g3,g4,g5⟩
 ·refine⟨.tuple #[z,.bool false],by rw[g2];exact two (Val.const hz),fun w1 hb=>?_⟩
  have h2':w1.heap[(φ A).b]?=some (.map es cl):=by rw[hb.block _ (r.lt hA)];exact h2
  unfold execOp
  simp only[ho,h1,h4,Instr.lookup,Sem.run_bind,run_underlying hT,Result.andThen_ok,MapKept.run_getObj_map h2',Sem.run_pure,run_checkKey hK (KF.is c),run_findKey hK g1,run_zeroValue hI,if_true]
 ·refine⟨.tuple #[e.val,.bool true],by rw[g4];exact two g5,fun w1 hb=>?_⟩
  have h2':w1.heap[(φ A).b]?=some (.map es cl):=by rw[hb.block _ (r.lt hA)];exact h2
  unfold execOp
  simp only[ho,h1,h4,Instr.lookup,Sem.run_bind,run_underlying hT,Result.andThen_ok,MapKept.run_getObj_map h2',Sem.run_pure,run_checkKey hK (KF.is c),run_findKey hK g1,if_true]
theorem e_insert [DecidableEq α](T:TypeId)(x k y:Operand){A K E:Nat}{d:TypeDesc}{kf:α→Value}{l:List (α × Value)}{c:α}{v:Value}(ho:o.op=.insert T x k y)(hx:ev a x=some (.map (some A)))(hk:ev a k=some (kf c))(hy:ev a y=some v)
  (hA:H[A]?=some (some ⟨mapC kf l,false⟩)) (hT:P.underlying T=some (.map K E)) (hK:P.underlying K=some d) (KF:KeyF d kf):AEff P N o a H undef (H.set A (some ⟨mapC kf (mput l c v),false⟩)):=by
 refine⟨fun B0 w0 φ w ac hr hf=>?_⟩
 have h:=(e_mapUpdate (P:=P) (N:=N) (o:={ o with op:=.mapUpdate T x k y }) T x k y rfl hx hk hy hA hT hK KF).go B0 w0 φ w ac hr hf
 have e:execOp ac.eval o=execOp ac.eval { o with op:=.mapUpdate T x k y }:=by unfold execOp;rw[ho]
 rw[e];exact h
end
section
variable {P:Program} {tt:TT} {sz:Nat} {ops:Array Oper} {Q:SPost} {rest:List Oper} {a:AF} {h h' h1:SH} {m:Mode} {t:Nat} {ty:TypeId} {pos:String} {aft:Array Edge}
theorem o_slice3e {T:Nat}{x w y z:Operand}{A off n len fl E s1 b1 s b:Nat}{z1 z2:Option Value}{i' j kk:IntKind}{i:Int}{tk:TK}(ht:tt.Ok P)(hx:ev a x=some (gsl A off n len fl))(hw:ev a w=some (.int i' i))(hy:ev a y=some (.int j i))(hz:ev a z=some (.int kk i))
  (hT:tt.get T=some ⟨.slice E,s1,b1,z1⟩) (hE:tt.get E=some ⟨tk,s,b,z2⟩) (hi:Sd (0≤i∧i≤len)) (hN:Nat.blt t sz=true) (k:GO m.next P sz ops Q rest ((t,sempty)::a) h):GO m P sz ops Q (⟨some t,.slice T x (some w) (some y) (some z),ty,pos,aft,none⟩::rest) a h :=
 o_pure (fun _ _ _ hag=>let ⟨_,hI,_⟩:=te_inf (TT.get_ok ht hE);a_slice3e T x w y z rfl ((hag.ev (by simp[Op.operands,Call.operands])).trans hx) ((hag.ev (by simp[Op.operands,Call.operands])).trans hw) ((hag.ev (by simp[Op.operands,Call.operands])).trans hy) ((hag.ev (by simp[Op.operands,Call.operands])).trans hz) (te_slice (TT.get_ok ht hT) rfl) hI hi.1) hN k
theorem o_copy0 {T U:Nat}{x y:Operand}{A2 off2 n2 E s1 b1 b:Nat}{z1 z2:Option Value}{tk:TK}(ht:tt.Ok P)(hx:ev a x=some sempty)(hy:ev a y=some (.slice (some ⟨A2,off2,none⟩) 0 (n2+1)))(hT:tt.get T=some ⟨.slice E,s1,b1,z1⟩)(hE:tt.get E=some ⟨tk,1,b,z2⟩)
  (hN:Nat.blt t sz=true) (k:GO m.next P sz ops Q rest ((t,I 0)::a) h):GO m P sz ops Q (⟨some t,.call { callee:=.builtin .copy,args:=#[x,y],argTypes:=#[T,U] },ty,pos,aft,none⟩::rest) a h :=
 o_pure (fun _ _ _ hag=>let ⟨_,hI,_⟩:=te_inf (TT.get_ok ht hE);e_copy0 T U x y (g2:=⟨[],true⟩) rfl ((hag.ev (by simp[Op.operands,Call.operands])).trans hx) ((hag.ev (by simp[Op.operands,Call.operands])).trans hy) (te_slice (TT.get_ok ht hT) rfl) hI) hN k
theorem o_copyf {T U:Nat}{x y:Operand}{A off n len fl A2 off2 n2 kk E s1 b1 b:Nat}{z1 z2:Option Value}{tk:TK}{cells cells' vs:List Value}{g2:Blk}(ht:tt.Ok P)(hx:ev a x=some (gsl A off n len fl))(hy:ev a y=some (.slice (some ⟨A2,off2,none⟩) kk (n2+1)))
  (hT:tt.get T=some ⟨.slice E,s1,b1,z1⟩) (hE:tt.get E=some ⟨tk,1,b,z2⟩) (hu:Upd h A ⟨cells,false⟩ ⟨cells',false⟩ h') (hp:Pick h A2 g2 h1) (hn:Ln (cells.length=n)) (hn2:Ln (g2.cells.length=n2)) (hk:Ln (len=kk)) (hl:Ln (vs.length=kk))
  (hpu:Pu (PutAt cells off vs cells')) (hc:Su (SubAt g2.cells off2 vs)) (h1':vs.all one=true) (hN:Nat.blt t sz=true) (hok:m.efOk ops h') (k:GO (m.ef h) P sz ops Q rest ((t,I kk)::a) h') :
  GO m P sz ops Q (⟨some t,.call { callee:=.builtin .copy,args:=#[x,y],argTypes:=#[T,U] },ty,pos,aft,none⟩::rest) a h:=by
 obtain⟨⟨h2,rfl⟩⟩:=hpu
 have hn1:=hn.1
 have hl1:=hl.1
 obtain⟨_,hI,_⟩:=te_inf (TT.get_ok ht hE)
 exact o_upd2 hN hu hp (fun _ _ _ hA hA2 hag=>e_copyf T U x y rfl ((hag.ev (by simp[Op.operands,Call.operands])).trans hx) ((hag.ev (by simp[Op.operands,Call.operands])).trans hy) (te_slice (TT.get_ok ht hT) rfl) hI hA hn.1 hA2 hn2.1 hk.1 hl.1 (by omega) hc.1 h1') hok k
end
section
variable {P:Program} {tt:TT} {sz:Nat} {ops:Array Oper} {Q:SPost} {rest:List Oper} {a:AF} {h h' h1:SH} {t:Nat} {ty:TypeId} {pos:String} {aft:Array Edge} {α:Type} {v:Value}
theorem o_lookupc [DecidableEq α]{T:Nat}{x y:Operand}{A K E s b:Nat}{tk:TK}{d:TypeDesc}{kf:α→Value}{l:List (α × Value)}{ro:Bool}{z:Value}{c:α}{f:Bool}(ht:tt.Ok P)(hx:ev a x=some (.map (some A)))(hp:Pick h A ⟨mapC kf l,ro⟩ h1)(hk:ev a y=some (kf c))
  (hT:P.underlying T=some (.map K E)) (hK:P.underlying K=some d) (KF:KeyF d kf) (hE:tt.get E=some ⟨tk,s,b,some z⟩) (hz:yJ z=true) (hr:(mget l c).getD z=v∧(mget l c).isSome=f) (hN:Nat.blt t sz=true)
  (k:GO .seq P sz ops Q rest ((t,.tuple #[v,B f])::a) h):GO .seq P sz ops Q (⟨some t,.lookup T x y true,ty,pos,aft,none⟩::rest) a h:=by
 obtain⟨_,hI,hz'⟩:=te_inf (TT.get_ok ht hE)
 obtain⟨rfl,rfl⟩:=hr
 exact o_read (m:=.seq) (fun h'=>∃h1,Pick h' A ⟨mapC kf l,ro⟩ h1) ⟨_,hp⟩ (fun _ _ _ _ _ i ⟨_,hp⟩ hag=>a_lookupc T x y rfl ((hag.ev (by simp[Op.operands,Call.operands])).trans hx) ((hag.ev (by simp[Op.operands,Call.operands])).trans hk) (i.look hp) hT hK KF (hz' _ rfl▸hI) hz) hN trivial k
theorem o_insert [DecidableEq α]{T:Nat}{x y z:Operand}{A K E:Nat}{d:TypeDesc}{kf:α→Value}{l:List (α × Value)}{c:α}(hx:ev a x=some (.map (some A)))(hu:Upd h A ⟨mapC kf l,false⟩ ⟨mapC kf (mput l c v),false⟩ h')(hk:ev a y=some (kf c))(hv:ev a z=some v)
  (hT:P.underlying T=some (.map K E)) (hK:P.underlying K=some d) (KF:KeyF d kf) (k:GO .seq P sz ops Q rest a h'):GO .seq P sz ops Q (⟨none,.insert T x y z,ty,pos,aft,none⟩::rest) a h :=
 o_upd (m:=.seq) rfl hu (fun _ _ _ hA hag=>e_insert T x y z rfl ((hag.ev (by simp[Op.operands,Call.operands])).trans hx) ((hag.ev (by simp[Op.operands,Call.operands])).trans hk) ((hag.ev (by simp[Op.operands,Call.operands])).trans hv) hA hT hK KF) trivial k
theorem o_insert0 [DecidableEq α]{T:Nat}{x y z:Operand}{A K E:Nat}{d:TypeDesc}{kf:α→Value}{c:α}(hx:ev a x=some (.map (some A)))(hu:Upd h A ⟨[],false⟩ ⟨mapC kf [(c,v)],false⟩ h')(hk:ev a y=some (kf c))(hv:ev a z=some v)
  (hT:P.underlying T=some (.map K E)) (hK:P.underlying K=some d) (KF:KeyF d kf) (k:GO .seq P sz ops Q rest a h'):GO .seq P sz ops Q (⟨none,.insert T x y z,ty,pos,aft,none⟩::rest) a h :=
 o_insert (l:=[]) hx hu hk hv hT hK KF k
end
end Go.Gh
end
section
set_option maxRecDepth 4000
namespace Go.Gh
open Go.RowKit

abbrev prF (x:Int × Int):List Value:=[I x.1,I x.2]
end Go.Gh
end
section
set_option maxRecDepth 4000
namespace Go.Proofs.YteddogfolceahaaGreat
open Go.Gh Go.RowKit

inductive GrO {α:Type}(f:α→Value)(h:SH):List α→Value→SH→Prop
 |nil:GrO f h [] (.slice none 0 0) h
 |some (A:Nat) (l:List α):GrO f h l (gsl A 0 l.length l.length 1) ((A,⟨l.map f,false⟩)::h)
section
variable {α:Type} {f:α→Value} {h q:SH} {l:List α} {v:Value}
theorem GrO.has (g:GrO f h l v q):Has q (l.map f) 1 l.length v∧Take q h:=by
 cases g with
 |nil=>exact⟨⟨none,0,rfl,fun k=>absurd rfl k⟩,.nil⟩
 |some A l=>exact⟨⟨_,_,rfl,fun _=>⟨A,false,h,by rw[Nat.one_mul],.head⟩⟩,.drop .nil⟩
theorem GrO.ofc {A n k:Nat}{c:List Value}(hc:c=l.map f)(hn:l.length=n)(hk:k=n):GrO f h l (gsl A 0 k n 1) ((A,⟨c,false⟩)::h):=by
 subst hc hn hk;exact .some A l
theorem GrO.sl (g:GrO f h l v q):∃ad fl,v=.slice ad l.length fl:=by
 obtain⟨ad,fl,e,_⟩:=g.has.1;exact⟨ad,fl,e⟩
end
theorem tk_bang {α:Type}[Inhabited α]{l:List α}{i:Nat}(h:i<l.length):l.take (i+1)=l.take i++[l[i]!]:=by
 rw[getElem!_pos l i h,List.take_succ_eq_append_getElem h]
theorem mm_bang {α:Type}[Inhabited α]{l:List α}{i:Nat}(h:i<l.length):l[i]!∈l:=by rw[getElem!_pos l i h];exact List.getElem_mem h
theorem set_prog {α:Type}[Inhabited α]{X:List α}{z:α}{i:Nat}(h:i<X.length):(X.take i++List.replicate (X.length-i) z).set i X[i]! = X.take (i+1)++List.replicate (X.length-(i+1)) z:=by
 have e1:(X.take i).length=i:=by simp;omega
 rw[List.set_append_right i X[i]! (by omega),e1,Nat.sub_self,show X.length-i=(X.length-(i+1))+1 by omega,List.replicate_succ,List.set_cons_zero,tk_bang h,List.append_assoc];rfl
theorem ihas_bang {α:Type}[Inhabited α]{p:α→Prop}{l:List α}(h:∀x∈l,p x){i:Nat}(hi:i<l.length):p l[i]!:=h _ (mm_bang hi)
def gps :Int→List Int→List Int
 |_,[]=>[]
 |a,t::r=>(t-a-1)::gps t r
theorem gps_len :∀(L:List Int) (a:Int),(gps a L).length=L.length
 |[],_=>rfl
 |t::r,a=>congrArg (·+1) (gps_len r t)
abbrev tok (x:Int):Prop:=0≤x∧x≤1099511627776
theorem gaps_any (L:List Int)(v:Value)(h:SH)(hv:Has h (nodes L) 1 L.length v)(hl:L.length≤4096)(hb:∀x∈L,tok x) :
  SRun Tryz.prog 89 [v] h fun r q=>∃A,r=gsl A 0 L.length L.length 1∧q=(A,⟨nodes (gps (-1) L),false⟩)::h:=by
 obtain⟨ad,fl,rfl,hh⟩:=hv
 have hlb:(nodes L).length=L.length:=by simp
 have hgl:=gps_len L (-1)
 obtain⟨X,hX⟩:∃X,gps (-1) L=X:=⟨_,rfl⟩
 rw[hX]at hgl ⊢
 have hz:zrow (I 0) (((L.length:Nat):Int).toNat*1)=nodes (X.take 0++List.replicate (X.length-0) 0):=by
  rw[List.take_zero,List.nil_append,Nat.sub_zero,hgl];exact map_zrow (f:=iV) 0 rfl rfl _
 refine zR Tryz.func89 rfl rfl ?_
 repeat'(first|apply zF|apply zB|apply zE|(apply o_g zC;exact rfl;exact rfl)|(apply o_makeSlice zC;(iterate 6 exact rfl);(focus decide);(focus first|omega);(focus first|exact hz);exact rfl)|apply zA|apply zH|((with_reducible apply Sd.mk);first|exact True.intro)|intro A)
 all_goals first|(exfalso;omega)|skip
 refine zZ (S:=Nat × Int) (fun s=>[(3,I s.2),(4,gsl A 0 (L.length*1) L.length 1),(10,.slice ad L.length fl),(11,I L.length),(12,I s.1)])
  (fun s=>(A,⟨nodes (X.take s.1++List.replicate (X.length-s.1) 0),false⟩)::h) (fun s=>s.1≤L.length∧-1≤s.2∧s.2≤1099511627776∧X.drop s.1=gps s.2 (L.drop s.1)) (fun s=>L.length-s.1) (0,-1) ⟨Nat.zero_le _,Int.le_refl _,by decide,hX.symm⟩ (by repeat'(first|exact trivial|refine⟨rfl,?_⟩|refine⟨congrArg some ?_,?_⟩)) (by repeat with_reducible first|exact Take.nil|apply Take.c|apply Take.drop) ?_
 rintro⟨i,a⟩ ⟨hi,ha1,ha2,hd⟩
 dsimp only at hi ha1 ha2 hd ⊢
 by_cases hil:i<L.length
 ·obtain⟨A',ro,h1,rfl,hp⟩:=hh (by omega)
  have hxb:=ihas_bang hb hil
  rw[drop_bang hil,drop_bang (show i<X.length by omega)]at hd
  obtain⟨hd1,hd2⟩:=List.cons.inj hd
  have hst:=set_prog (X:=X) (z:=0) (i:=i) (by omega)
  have hcl:(nodes L)[0+((i:Int)).toNat*1]?=some (I L[i]!):=yM hil
  rw[hd1]at hst
  generalize L[i]! = x at *
  have hml:(X.take i++List.replicate (X.length-i) 0).length=L.length:=by simp;omega
  have hlen:(nodes (X.take i++List.replicate (X.length-i) 0)).length=L.length*1:=by rw[List.length_map,hml,Nat.mul_one]
  have hset:SetAt (nodes (X.take i++List.replicate (X.length-i) 0)) (0+((i:Int)).toNat*1) (I (x-a-1)) (nodes (X.take (i+1)++List.replicate (X.length-(i+1)) 0)):=by
   rw[←hst];exact setAt_mapZ (by omega)
  repeat'(first|apply zF|apply zB|apply zE|(apply o_g zC;exact rfl;exact rfl)|(apply o_ar zC;exact rfl;exact rfl)|(apply zM zC;(iterate 3 exact rfl);(focus exact pk))|(apply zX zC;(iterate 4 exact rfl);(focus exact up))|(apply yC;exact rfl;(focus first|omega))|apply zA|apply zG|apply zI|apply zH|((with_reducible apply Sd.mk);first|exact True.intro|omega)|((with_reducible apply Ln.mk);first|omega|(simp[hlb,hlen];first|done|omega))|((with_reducible apply Wr.mk);first|exact IntWalk.i64_in _ (by omega))|((with_reducible apply Ce.mk);first|exact hcl)|((with_reducible apply Se.mk);first|exact hset)|exact True.intro|exact rfl)
  all_goals first
   |(exfalso;omega)
   |exact⟨(i+1,x),⟨hil,by show -1≤x;omega,by show x≤_;omega,hd2⟩,by show L.length-(i+1)<L.length-i;omega,(by repeat'(first|exact trivial|refine⟨rfl,?_⟩|refine⟨congrArg some ?_,?_⟩)),(by repeat with_reducible first|exact Take.nil|apply Take.c|apply Take.drop)⟩
 ·obtain rfl:i=L.length:=by omega
  have hfin:X.take L.length++List.replicate (X.length-L.length) 0=X:=by rw[←hgl,List.take_length,Nat.sub_self];simp
  rw[hfin]
  repeat'(first|apply zF|apply zB|apply zE|(apply o_g zC;exact rfl;exact rfl)|(apply yD;exact rfl;(focus first|omega))|apply zA|apply zK|apply zJ|apply zN|apply zV|((with_reducible apply Sd.mk);first|exact True.intro))
  all_goals first
   |(exfalso;omega)
   |(apply zL;(exact(show ResS _ _ _ _ [_] from⟨rfl,trivial⟩));(focus exact⟨A,congrArg (fun z=>gsl A 0 z L.length 1) (Nat.mul_one _),rfl⟩);(focus repeat with_reducible first|exact Take.nil|apply Take.c|apply Take.drop))
def jns :Int→List Int→List Int
 |_,[]=>[]
 |a,g::r=>(a+(g+1))::jns (a+(g+1)) r
def jok :Int→List Int→Prop
 |_,[]=>True
 |a,g::r=>(tok g∧a+(g+1)≤1099511627776)∧jok (a+(g+1)) r
instance decJok :∀(a:Int) (l:List Int),Decidable (jok a l)
 |_,[]=>inferInstanceAs (Decidable True)
 |a,g::r=>@instDecidableAnd _ (jok (a+(g+1)) r) inferInstance (decJok _ r)
theorem jns_len :∀(L:List Int) (a:Int),(jns a L).length=L.length
 |[],_=>rfl
 |t::r,a=>congrArg (·+1) (jns_len r _)
theorem join_any (L:List Int)(v:Value)(h:SH)(hv:Has h (nodes L) 1 L.length v)(hl:L.length≤4096)(hj:jok (-1) L) :
  SRun Tryz.prog 101 [v] h fun r q=>∃A,r=.tuple #[gsl A 0 L.length L.length 1,B true]∧q=(A,⟨nodes (jns (-1) L),false⟩)::h:=by
 obtain⟨ad,fl,rfl,hh⟩:=hv
 have hlb:(nodes L).length=L.length:=by simp
 have hgl:=jns_len L (-1)
 obtain⟨X,hX⟩:∃X,jns (-1) L=X:=⟨_,rfl⟩
 rw[hX]at hgl ⊢
 have hz:zrow (I 0) (((L.length:Nat):Int).toNat*1)=nodes (X.take 0++List.replicate (X.length-0) 0):=by
  rw[List.take_zero,List.nil_append,Nat.sub_zero,hgl];exact map_zrow (f:=iV) 0 rfl rfl _
 refine zR Tryz.func101 rfl rfl ?_
 repeat'(first|apply zF|apply zB|apply zE|(apply o_g zC;exact rfl;exact rfl)|(apply o_makeSlice zC;(iterate 6 exact rfl);(focus decide);(focus first|omega);(focus first|exact hz);exact rfl)|apply zA|apply zH|((with_reducible apply Sd.mk);first|exact True.intro)|intro A)
 all_goals first|(exfalso;omega)|skip
 refine zZ (S:=Nat × Int) (fun s=>[(4,I s.2),(5,gsl A 0 (L.length*1) L.length 1),(11,.slice ad L.length fl),(12,I L.length),(13,I s.1)])
  (fun s=>(A,⟨nodes (X.take s.1++List.replicate (X.length-s.1) 0),false⟩)::h) (fun s=>s.1≤L.length∧-1≤s.2∧s.2≤1099511627776∧X.drop s.1=jns s.2 (L.drop s.1)∧jok s.2 (L.drop s.1)) (fun s=>L.length-s.1) (0,-1) ⟨Nat.zero_le _,Int.le_refl _,by decide,hX.symm,hj⟩ (by repeat'(first|exact trivial|refine⟨rfl,?_⟩|refine⟨congrArg some ?_,?_⟩)) (by repeat with_reducible first|exact Take.nil|apply Take.c|apply Take.drop) ?_
 rintro⟨i,a⟩ ⟨hi,ha1,ha2,hd,hk⟩
 dsimp only at hi ha1 ha2 hd hk ⊢
 by_cases hil:i<L.length
 ·obtain⟨A',ro,h1,rfl,hp⟩:=hh (by omega)
  rw[drop_bang hil]at hk
  rw[drop_bang hil,drop_bang (show i<X.length by omega)]at hd
  obtain⟨hd1,hd2⟩:=List.cons.inj hd
  obtain⟨⟨hk1,hk2⟩,hk3⟩:=hk
  have hst:=set_prog (X:=X) (z:=0) (i:=i) (by omega)
  have hcl:(nodes L)[0+((i:Int)).toNat*1]?=some (I L[i]!):=yM hil
  rw[hd1]at hst
  generalize L[i]! = x at *
  have hml:(X.take i++List.replicate (X.length-i) 0).length=L.length:=by simp;omega
  have hlen:(nodes (X.take i++List.replicate (X.length-i) 0)).length=L.length*1:=by rw[List.length_map,hml,Nat.mul_one]
  have hset:SetAt (nodes (X.take i++List.replicate (X.length-i) 0)) (0+((i:Int)).toNat*1) (I (a+(x+1))) (nodes (X.take (i+1)++List.replicate (X.length-(i+1)) 0)):=by
   rw[←hst];exact setAt_mapZ (by omega)
  repeat'(first|apply zF|apply zB|apply zE|(apply o_g zC;exact rfl;exact rfl)|(apply o_ar zC;exact rfl;exact rfl)|(apply zM zC;(iterate 3 exact rfl);(focus exact pk))|(apply zX zC;(iterate 4 exact rfl);(focus exact up))|(apply zU;exact rfl;exact rfl)|(apply o_gF;(iterate 3 exact rfl);(focus first|omega))|(apply yC;exact rfl;(focus first|omega))|(apply yD;exact rfl;(focus first|omega))|apply zA|apply zG|apply zI|apply zH|((with_reducible apply Sd.mk);first|exact True.intro|omega)|((with_reducible apply Ln.mk);first|omega|(simp[hlb,hlen];first|done|omega))|((with_reducible apply Wr.mk);first|exact IntWalk.i64_in _ (by omega))|((with_reducible apply Ce.mk);first|exact hcl)|((with_reducible apply Se.mk);first|exact hset)|exact True.intro|exact rfl)
  all_goals first
   |(exfalso;omega)
   |exact⟨(i+1,a+(x+1)),⟨hil,by show -1≤a+(x+1);omega,hk2,hd2,hk3⟩,by show L.length-(i+1)<L.length-i;omega,(by repeat'(first|exact trivial|refine⟨rfl,?_⟩|refine⟨congrArg some ?_,?_⟩)),(by repeat with_reducible first|exact Take.nil|apply Take.c|apply Take.drop)⟩
 ·obtain rfl:i=L.length:=by omega
  have hfin:X.take L.length++List.replicate (X.length-L.length) 0=X:=by rw[←hgl,List.take_length,Nat.sub_self];simp
  rw[hfin]
  repeat'(first|apply zF|apply zB|apply zE|(apply o_g zC;exact rfl;exact rfl)|(apply yD;exact rfl;(focus first|omega))|apply zA|apply zK|apply zJ|apply zN|apply zV|((with_reducible apply Sd.mk);first|exact True.intro))
  all_goals first
   |(exfalso;omega)
   |(apply zL;(exact(show ResS _ _ _ _ [_,_] from⟨rfl,⟨rfl,trivial⟩⟩));(focus exact⟨A,congr (congrArg (fun(z:Nat) (b:Bool)=>Value.tuple #[gsl A 0 z L.length 1,B b]) (Nat.mul_one _)) (decide_eq_true (by omega)),rfl⟩);(focus repeat with_reducible first|exact Take.nil|apply Take.c|apply Take.drop))
def inc :Int→List Int→Prop
 |_,[]=>True
 |a,t::r=>(a<t∧t≤1099511627776)∧inc t r
instance decInc :∀(a:Int) (l:List Int),Decidable (inc a l)
 |_,[]=>inferInstanceAs (Decidable True)
 |_,t::r=>@instDecidableAnd _ (inc t r) inferInstance (decInc t r)
theorem inc_tok :∀{l:List Int} {a:Int},-1≤a→inc a l→∀x∈l,tok x
 |[],_,_,_=>by simp
 |t::r,a,ha,h=>by
  intro x hx
  rcases List.mem_cons.1 hx with rfl|hx
  ·exact⟨by have:=h.1.1;omega,h.1.2⟩
  ·exact inc_tok (by have:=h.1.1;omega) h.2 x hx
theorem TValid_any (L:List Int)(v:Value)(h:SH)(hv:Has h (nodes L) 1 L.length v)(hl:L.length≤4096)(hj:inc (-1) L) :
  SRun Tryz.prog 52 [v] h fun r q=>r=B true∧q=h:=by
 obtain⟨ad,fl,rfl,hh⟩:=hv
 have hlb:(nodes L).length=L.length:=by simp
 refine zR Tryz.func52 rfl rfl ?_
 repeat'(first|apply zF|apply zB|apply zE|(apply o_g zC;exact rfl;exact rfl)|apply zA|apply zH|((with_reducible apply Sd.mk);first|exact True.intro))
 all_goals first|(exfalso;omega)|skip
 refine zZ (S:=Nat × Int) (fun s=>[(0,.slice ad L.length fl),(3,I s.2),(6,.slice ad L.length fl),(7,I L.length),(8,I s.1)])
  (fun _=>h) (fun s=>s.1≤L.length∧inc s.2 (L.drop s.1)) (fun s=>L.length-s.1) (0,-1) ⟨Nat.zero_le _,hj⟩ (by repeat'(first|exact trivial|refine⟨rfl,?_⟩|refine⟨congrArg some ?_,?_⟩)) (by repeat with_reducible first|exact Take.nil|apply Take.c|apply Take.drop) ?_
 rintro⟨i,a⟩ ⟨hi,hk⟩
 dsimp only at hi hk ⊢
 by_cases hil:i<L.length
 ·obtain⟨A',ro,h1,rfl,hp⟩:=hh (by omega)
  rw[drop_bang hil]at hk
  obtain⟨⟨hk1,hk2⟩,hk3⟩:=hk
  have hcl:(nodes L)[0+((i:Int)).toNat*1]?=some (I L[i]!):=yM hil
  generalize L[i]! = x at *
  repeat'(first|apply zF|apply zB|apply zE|(apply o_g zC;exact rfl;exact rfl)|(apply o_ar zC;exact rfl;exact rfl)|(apply zM zC;(iterate 3 exact rfl);(focus exact pk))|(apply zU;exact rfl;exact rfl)|(apply o_gF;(iterate 3 exact rfl);(focus first|omega))|(apply yC;exact rfl;(focus first|omega))|(apply yD;exact rfl;(focus first|omega))|apply zA|apply zG|apply zI|apply zH|((with_reducible apply Sd.mk);first|exact True.intro|omega)|((with_reducible apply Ln.mk);first|(simp[hlb];first|done|omega))|((with_reducible apply Wr.mk);first|exact IntWalk.i64_in _ (by omega))|((with_reducible apply Ce.mk);first|exact ‹_›)|exact True.intro|exact rfl)
  all_goals first
   |(exfalso;omega)
   |exact⟨(i+1,x),⟨hil,hk3⟩,by show L.length-(i+1)<L.length-i;omega,(by repeat'(first|exact trivial|refine⟨rfl,?_⟩|refine⟨congrArg some ?_,?_⟩)),(by repeat with_reducible first|exact Take.nil|apply Take.c|apply Take.drop)⟩
 ·obtain rfl:i=L.length:=by omega
  repeat'(first|apply zF|apply zB|apply zE|(apply o_g zC;exact rfl;exact rfl)|(apply yD;exact rfl;(focus first|omega))|apply zA|apply zK|apply zJ|apply zN|apply zV|((with_reducible apply Sd.mk);first|exact True.intro))
  all_goals first
   |(exfalso;omega)
   |(apply zL;(exact(show ResS _ _ _ _ [_] from⟨rfl,trivial⟩));(focus exact⟨congrArg B (decide_eq_true (by omega)),rfl⟩);(focus repeat with_reducible first|exact Take.nil|apply Take.c|apply Take.drop))
end Go.Proofs.YteddogfolceahaaGreat
end
