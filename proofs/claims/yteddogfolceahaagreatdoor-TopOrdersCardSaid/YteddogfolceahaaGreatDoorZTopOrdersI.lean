/- Part 9 of the proof of the law TopOrders: texts merged. No condition. -/
import Derived.Test.YteddogfolceahaaGreatDoorZTopOrdersH
set_option linter.unusedSimpArgs false
set_option linter.unusedVariables false
section
set_option maxRecDepth 4000
namespace Go.Proofs.YteddogfolceahaaGreatDoor
open Go.Gh Go.RowKit

theorem bw (b:BitVec 32):IntKind.u32.wrap (b.toNat:Int)=(b.toNat:Int):=IntWalk.u32_in _ (by have:=b.isLt;omega)
theorem bneg (b:BitVec 32):IntKind.u32.wrap (0-(b.toNat:Int))=((-b).toNat:Int):=by
 rw[IntKind.wrap_u32,BitVec.toNat_neg]
 have:=b.isLt
 omega
theorem bshr (b:BitVec 32):BitVec.ofInt 32 ((b.toNat:Int)/2^(min (Int.toNat 1) IntKind.u32.bits))=b >>> 1:=by
 apply BitVec.eq_of_toNat_eq
 rw[BitVec.toNat_ofInt,BitVec.toNat_ushiftRight,Nat.shiftRight_eq_div_pow]
 have h1:(2:Int)^(min (Int.toNat 1) IntKind.u32.bits)=2:=rfl
 have:=b.isLt
 rw[h1]
 omega
def crcB (x:BitVec 32):BitVec 32:=(x >>> 1)^^^(-(x&&&1#32)&&&0xedb88320#32)
def crcN :Nat→BitVec 32→BitVec 32
 |0,x=>x
 |n+1,x=>crcN n (crcB x)
theorem crc_step (x:BitVec 32):BitVec.ofInt 32 ((x.toNat:Int)/2^(min (Int.toNat 1) IntKind.u32.bits))^^^BitVec.ofInt 32 ((BitVec.ofInt 32 (((-(BitVec.ofInt 32 (x.toNat:Int)&&&BitVec.ofInt 32 1)).toNat:Nat):Int)&&&BitVec.ofInt 32 3988292384).toNat:Int)=crcB x:=by
 rw[bshr,ofInt_toNat,ofInt_toNat,ofInt_toNat]
 rfl
theorem shift_any (x:BitVec 32)(h:SH):SRun Tryz.prog 214 [UB x] h fun r q=>r=UB (crcN 8 x)∧q=h:=by
 obtain⟨R,hR⟩:∃R,crcN 8 x=R:=⟨_,rfl⟩
 rw[hR]
 refine zR Tryz.func214 rfl rfl ?_
 repeat'(first|apply zF|apply zB|apply zE|refine jg ?_ ?_|apply zA|apply zH|exact jS|fail)
 refine zZ (S:=Nat × BitVec 32) (fun s=>[(0,UB s.2),(3,I s.1)]) (fun _=>h) (fun s=>s.1≤8∧crcN (8-s.1) s.2=R) (fun s=>8-s.1) (0,x) ⟨Nat.zero_le _,hR⟩ jB jK ?_
 rintro⟨i,x⟩ ⟨hi,he⟩
 dsimp only at hi he ⊢
 by_cases h8:i<8
 ·rw[show 8-i=(8-(i+1))+1 by omega]at he
  have he:crcN (8-(i+1)) (crcB x)=R:=he
  have hs:=congrArg (fun b:BitVec 32=>some (UB b)) (crc_step x)
  repeat'(first|apply zF|apply zB|apply zE|refine jg ?_ ?_|(apply o_ar zC;exact rfl;exact rfl)|(apply o_ex;exact rfl;exact rfl)|refine jd ?_|apply zA|apply zG|apply zI|apply zH|exact jO|((with_reducible apply Wr.mk);first|exact bw _|exact bneg _|exact IntWalk.i64_in _ (by omega))|((with_reducible apply Ex.mk);first|rfl))
  all_goals first|(exfalso;omega)|skip
  exact⟨(i+1,crcB x),⟨h8,he⟩,by show 8-(i+1)<8-i;omega,⟨hs,rfl,trivial⟩,jK⟩
 ·obtain rfl:i=8:=by omega
  have he:x=R:=he
  subst he
  repeat'(first|apply zF|apply zB|apply zE|refine jg ?_ ?_|(apply zS;exact rfl)|apply zA|apply zK|apply zJ|apply zN|apply zV|exact jS|fail)
  all_goals first|(exfalso;omega)|skip
  exact jG
def crcL (l:List UInt8):Nat→Nat→BitVec 32→BitVec 32
 |0,_,x=>x
 |k+1,i,x=>crcL l k (i+1) (crcN 8 (x^^^BitVec.ofInt 32 (bat l (i:Int))))
def crcV (l:List UInt8):BitVec 32 := ~~~ (crcL l l.length 0 (~~~ 0#32))
theorem Sum_any (l:List UInt8)(h:SH)(hl:l.length≤9223372036854775807):SRun Tryz.prog 117 [S l] h fun r q=>r=UB (crcV l)∧q=h:=by
 have hU:∀h,SRun Tryz.prog 174 [UB 0#32,S l] h fun r q=>r=UB (crcV l)∧q=h:=by
  intro h
  obtain⟨R,hR⟩:∃R,crcL l l.length 0 (~~~ 0#32)=R:=⟨_,rfl⟩
  rw[show crcV l = ~~~ R by unfold crcV;rw[hR]]
  generalize (0#32:BitVec 32)=z at *
  refine zY Tryz.func174 rfl rfl ?_
  repeat'(first|apply zF|apply zB|apply zE|refine jg ?_ ?_|(apply o_compl;exact rfl;exact rfl)|apply zA|apply zH|exact jS|fail)
  refine zZ (S:=Nat × BitVec 32) (fun s=>[(1,S l),(5,UB s.2),(10,I l.length),(11,I s.1)]) (fun _=>h) (fun s=>s.1≤l.length∧crcL l (l.length-s.1) s.1 s.2=R) (fun s=>l.length-s.1) (0,~~~ z) ⟨Nat.zero_le _,hR⟩ jB jK ?_
  rintro⟨i,x⟩ ⟨hi,he⟩
  dsimp only at hi he ⊢
  by_cases hil:i<l.length
  ·rw[show l.length-i=(l.length-(i+1))+1 by omega]at he
   have he:crcL l (l.length-(i+1)) (i+1) (crcN 8 (x^^^BitVec.ofInt 32 (bat l (i:Int))))=R:=he
   have hb:=bat_255 l (i:Int)
   have hx:BitVec.ofInt 32 (x.toNat:Int)^^^BitVec.ofInt 32 (bat l (i:Int))=x^^^BitVec.ofInt 32 (bat l (i:Int)):=by rw[ofInt_toNat]
   have hS:=fun h=>shift_any (BitVec.ofInt 32 (x.toNat:Int)^^^BitVec.ofInt 32 (bat l (i:Int))) h
   rw[hx]at hS
   repeat'(first|apply zF|apply zB|apply zE|refine jg ?_ ?_|(apply o_ar zC;exact rfl;exact rfl)|refine jq ?_ (c:=by exact⟨_,hS _,jN⟩)|refine jd ?_|apply zA|apply zG|apply zI|apply zH|exact jO|((with_reducible apply Wr.mk);first|exact(bw _).trans (congrArg (fun b:BitVec 32=>(b.toNat:Int)) hx)|exact IntWalk.u32_in _ (by omega)|exact IntWalk.i64_in _ (by omega)))
   all_goals first|(exfalso;omega)|skip
   exact⟨(i+1,_),⟨hil,he⟩,by show l.length-(i+1)<l.length-i;omega,jB,jK⟩
  ·obtain rfl:i=l.length:=by omega
   rw[Nat.sub_self]at he
   have he:x=R:=he
   subst he
   repeat'(first|apply zF|apply zB|apply zE|refine jg ?_ ?_|(apply o_compl;exact rfl;exact rfl)|refine jf ?_|apply zA|apply zK|apply zJ|apply zN|apply zV|exact jS|fail)
   all_goals first|(exfalso;omega)|skip
   exact jG
 refine zR Tryz.func117 rfl rfl ?_
 repeat'(first|apply zF|apply zB|apply zE|refine jg ?_ ?_|refine jq ?_ (c:=by exact⟨_,hU _,jN⟩)|apply zA|apply zN|exact jS|fail)
 exact jG

def le4 (x:BitVec 32):List UInt8:=[b8 ((x.toNat:Int)%256),b8 ((x.toNat:Int)/256%256),b8 ((x.toNat:Int)/65536%256),b8 ((x.toNat:Int)/16777216%256)]
theorem le4_len (x:BitVec 32):(le4 x).length=4:=rfl
theorem le4_sub (x:BitVec 32):SubAt [Y ((x.toNat:Int)%256),Y ((x.toNat:Int)/256%256),Y ((x.toNat:Int)/65536%256),Y ((x.toNat:Int)/16777216%256)] 0 (bytesV (le4 x)):=by
 have e:bytesV (le4 x)=[Y ((x.toNat:Int)%256),Y ((x.toNat:Int)/256%256),Y ((x.toNat:Int)/65536%256),Y ((x.toNat:Int)/16777216%256)]:=by
  unfold le4
  rw[show ∀a b c d:UInt8,[a,b,c,d]=[a]++([b]++([c]++[d]))from fun _ _ _ _=>rfl,bytesV_app,bytesV_app,bytesV_app,bytesV_one (by omega),bytesV_one (by omega),bytesV_one (by omega),bytesV_one (by omega)]
  rfl
 rw[e];exact zQ
theorem Seal_any (l:List UInt8)(h:SH)(hl:l.length≤1000000):SRun Tryz.prog 66 [S l] h fun r q=>r=S (l++le4 (crcV l))∧q=h:=by
 have hS:=fun h=>Sum_any l h (by omega)
 generalize crcV l=x at *
 refine zR Tryz.func66 rfl rfl ?_
 repeat'(first|apply zF|apply zB|apply zE|refine jg ?_ ?_|(apply o_ar zC;exact rfl;exact rfl)|(apply o_ex;exact rfl;exact rfl)|refine jb ?_|(apply o_toString zC;(iterate 6 exact rfl);exact pk)|refine jq ?_ (c:=by exact⟨_,hS _,jN⟩)|apply zA|apply zN|((with_reducible apply Sd.mk);first|exact True.intro|omega|(simp only[le4_len,List.length_nil];omega))|exact jL|((with_reducible apply Wr.mk);first|exact IntKind.wrap_u8 _)|((with_reducible apply Ex.mk);first|rfl)|((with_reducible apply Su.mk);first|exact le4_sub x)|exact True.intro|intro A|exact rfl)
 exact jG

def synN (l:List UInt8)(k:Nat):Nat→Nat
 |0=>0
 |i+1=>synN l k i+(bat l ((k+i:Nat):Int)).toNat*256^i
theorem synN_lt (l:List UInt8)(k:Nat):∀i,synN l k i<256^i
 |0=>by show 0<1;decide
 |i+1=>by
  have h1:=synN_lt l k i
  have h2:=bat_255 l ((k+i:Nat):Int)
  have h3:(bat l ((k+i:Nat):Int)).toNat≤255:=by omega
  have h4:=Nat.mul_le_mul_right (256^i) h3
  show synN l k i+_<256^(i+1)
  rw[Nat.pow_succ]
  omega
theorem or_add {a b n:Nat}(h:a<2^n):a ||| b*2^n=a+b*2^n:=by
 have h1:=Nat.shiftLeft_add_eq_or_of_lt h b
 rw[Nat.shiftLeft_eq]at h1
 rw[Nat.or_comm,←h1,Nat.add_comm]
theorem syn_step {l:List UInt8}{k i:Nat}(hi:i<4):(BitVec.ofInt 32 ((synN l k i:Nat):Int) ||| BitVec.ofInt 32 (((bat l ((k+i:Nat):Int)).toNat*256^i:Nat):Int)).toNat=synN l k (i+1):=by
 have h1:=synN_lt l k i
 have h2:=bat_255 l ((k+i:Nat):Int)
 have h3:(bat l ((k+i:Nat):Int)).toNat≤255:=by omega
 have h6:=Nat.mul_le_mul_right (256^i) h3
 have h4:256^i≤256^3:=Nat.pow_le_pow_right (by decide) (by omega)
 have h5:256^3=16777216:=rfl
 show _=synN l k i+_
 generalize synN l k i=a at *
 generalize (bat l ((k+i:Nat):Int)).toNat=b at *
 have hp:256^i=2^(8*i):=by rw[Nat.pow_mul]
 rw[BitVec.toNat_or,BitVec.toNat_ofInt,BitVec.toNat_ofInt]
 have e1:(((a:Nat):Int)%((2^32:Nat):Int)).toNat=a:=by omega
 have e2:(((b*256^i:Nat):Int)%((2^32:Nat):Int)).toNat=b*256^i:=by
  generalize b*256^i=c at *
  omega
 rw[e1,e2,hp]
 rw[hp]at h1
 exact or_add h1
theorem syndrome_val (l:List UInt8)(h:SH)(hl:l.length≤1000000)(h4:4≤l.length):SRun Tryz.prog 175 [S l] h fun r q=>r=UB (crcV (l.take (l.length-4))^^^BitVec.ofNat 32 (synN l (l.length-4) 4))∧q=h:=by
 obtain⟨k,hk⟩:∃k,l.length=k+4:=⟨l.length-4,by omega⟩
 rw[show l.length-4=k by omega]
 have hS:=fun h=>Sum_any (l.take k) h (by rw[List.length_take];omega)
 generalize crcV (l.take k)=c at *
 refine zR Tryz.func175 rfl rfl ?_
 repeat'(first|apply zF|apply zB|apply zE|refine jg ?_ ?_|(apply o_ar zC;exact rfl;exact rfl)|apply zA|apply zH|exact jS|exact jW|fail)
 refine zZ (S:=Nat × Nat) (fun s=>[(0,S l),(3,I k),(4,.int .u32 ((s.2:Nat):Int)),(9,I s.1)]) (fun _=>h) (fun s=>s.1≤4∧s.2=synN l k s.1) (fun s=>4-s.1) (0,0) ⟨Nat.zero_le _,rfl⟩ ⟨rfl,congrArg some (congrArg (Value.int .i64) (by omega)),rfl,rfl,trivial⟩ jK ?_
 rintro⟨i,v⟩ ⟨hi,he⟩
 dsimp only at hi he ⊢
 by_cases h8:i<4
 ·have hb:=bat_255 l ((k+i:Nat):Int)
  have hst:=syn_step (l:=l) (k:=k) h8
  rw[←he]at hst
  have hw:IntKind.u32.wrap (bat l (((k:Nat):Int)+(i:Int))*2^(min ((8*(i:Int)).toNat) IntKind.u32.bits))=(((bat l ((k+i:Nat):Int)).toNat*256^i:Nat):Int):=by
   rw[show(((k:Nat):Int)+(i:Int))=((k+i:Nat):Int)by omega]
   generalize bat l ((k+i:Nat):Int)=b at *
   obtain⟨m,rfl⟩:=Int.eq_ofNat_of_zero_le hb.1
   rw[Int.toNat_natCast]
   have hp:(2:Int)^(min ((8*(i:Int)).toNat) IntKind.u32.bits)=((256^i:Nat):Int):=by
    rw[show IntKind.u32.bits=32 from rfl,show(8*(i:Int)).toNat=8*i by omega,Nat.min_eq_left (by omega),show(256:Nat)^i=2^(8*i)by rw[Nat.pow_mul]]
    simp
   rw[hp]
   have h4:256^i≤256^3:=Nat.pow_le_pow_right (by decide) (by omega)
   have h5:256^3=16777216:=rfl
   have h6:=Nat.mul_le_mul (show m≤255 by omega) (show 256^i≤16777216 by omega)
   rw[←Int.natCast_mul]
   generalize m*256^i=t at *
   exact IntWalk.u32_in _ (by omega)
  have hb2:0≤bat l (((k:Nat):Int)+(i:Int))∧bat l (((k:Nat):Int)+(i:Int))≤255:=bat_255 _ _
  repeat'(first|apply zF|apply zB|apply zE|refine jg ?_ ?_|(apply o_ar zC;exact rfl;exact rfl)|refine jd ?_|apply zA|apply zG|apply zI|apply zH|exact jO|((with_reducible apply Wr.mk);first|exact hw|exact IntWalk.u32_in _ (by omega)|exact bw _|exact IntWalk.i64_in _ (by omega)))
  all_goals first|(exfalso;omega)|skip
  exact⟨(i+1,synN l k (i+1)),⟨h8,rfl⟩,by show 4-(i+1)<4-i;omega,⟨rfl,rfl,congrArg (fun n:Nat=>some (Value.int .u32 (n:Int))) hst,rfl,trivial⟩,jK⟩
 ·obtain rfl:i=4:=by omega
  have hlt:=synN_lt l k 4
  rw[←he]at hlt ⊢
  have h256:256^4=4294967296:=rfl
  repeat'(first|apply zF|apply zB|apply zE|refine jg ?_ ?_|(apply o_ar zC;exact rfl;exact rfl)|refine jq ?_ (c:=by exact⟨_,hS _,jN⟩)|(apply zS;exact rfl)|apply zA|apply zK|apply zJ|apply zN|apply zV|exact jO|((with_reducible apply Wr.mk);first|exact bw _))
  all_goals first|(exfalso;omega)|skip
  exact jF (k:=by exact⟨congrArg (fun x:BitVec 32=>UB x) (show BitVec.ofInt 32 (c.toNat:Int)^^^BitVec.ofInt 32 (v:Int)=c^^^BitVec.ofNat 32 v by rw[ofInt_toNat,BitVec.ofInt_natCast]),rfl⟩)
theorem syndrome_any (l:List UInt8)(h:SH)(hl:l.length≤1000000)(h4:4≤l.length):SRun Tryz.prog 175 [S l] h fun r q=>∃x:BitVec 32,r=UB x∧(x=0#32↔(crcV (l.take (l.length-4))).toNat=synN l (l.length-4) 4)∧q=h :=
 (syndrome_val l h hl h4).mono fun r q ⟨e1,e2⟩=>⟨_,e1,by
  have hlt:=synN_lt l (l.length-4) 4
  have h256:256^4=4294967296:=rfl
  rw[BitVec.xor_eq_zero_iff]
  constructor
  ·intro g
   rw[g,BitVec.toNat_ofNat];omega
  ·intro g
   apply BitVec.eq_of_toNat_eq
   rw[g,BitVec.toNat_ofNat];omega,e2⟩

theorem fin_len (e:Enc):(fin e).length=e.out.length+4:=by unfold fin;rw[List.length_append];rfl
theorem EncB.re {n:Nat}{h h' p:SH}{e:Enc}(hb:EncB n h e p)(t:Take h h'):∃p',EncB n h' e p'∧Take p p':=by
 cases hb with
 |nil=>exact⟨_,.nil _ _,.cons .head t⟩
 |some=>exact⟨_,.some _ _ _ _,.cons .head (.cons .head t)⟩
theorem EncB.push {n:Nat}{h p:SH}{e:Enc}(hb:EncB n h e p)(x:Nat × Blk):∃p',EncB n (x::h) e p'∧Take (x::p) p':=by
 cases hb with
 |nil=>exact⟨_,.nil _ _,.cons (.tail .head) .nil⟩
 |some=>exact⟨_,.some _ _ _ _,.cons (.tail .head) (.cons (.tail .head) .nil)⟩
theorem EncR.re {n:Nat}{p p':SH}{e:Enc}(hr:EncR n p' e)(t:Take p p'):EncR n p e:=by
 cases hr with
 |nil _ _ _ hp=>obtain⟨p1,g,_⟩:=t.pick hp;exact .nil _ _ _ g
 |some _ _ _ _ _ _ hp ha=>obtain⟨p1,g,_⟩:=t.pick hp;obtain⟨p2,g2,_⟩:=t.pick ha;exact .some _ _ _ _ _ _ g g2
def E2 (n m:Nat)(h:SH)(e e2:Enc)(p:SH):Prop:=∃q1 p',EncB m h e2 q1∧EncB n q1 e p'∧Take p p'
theorem E2.swap {n m:Nat}{h p:SH}{e e2:Enc}(k:E2 n m h e e2 p):E2 m n h e2 e p:=by
 obtain⟨q1,p',h1,h2,t⟩:=k
 obtain⟨r1,r,g1,g2,t2⟩:=h1.swap h2
 exact⟨r1,r,g1,g2,t.trans t2⟩
theorem E2.re {n m:Nat}{h h' p:SH}{e e2:Enc}(k:E2 n m h e e2 p)(t:Take h h'):E2 n m h' e e2 p:=by
 obtain⟨q1,p',h1,h2,t1⟩:=k
 obtain⟨r1,g1,t2⟩:=h1.re t
 obtain⟨r,g2,t3⟩:=h2.re t2
 exact⟨r1,r,g1,g2,t1.trans t3⟩
theorem E2.push {n m:Nat}{h p:SH}{e e2:Enc}(k:E2 n m h e e2 p)(x:Nat × Blk):E2 n m (x::h) e e2 (x::p):=by
 obtain⟨q1,p',h1,h2,t1⟩:=k
 obtain⟨r1,g1,t2⟩:=h1.push x
 obtain⟨r,g2,t3⟩:=h2.push x
 obtain⟨r',g3,t4⟩:=g2.re t2
 exact⟨r1,r',g1,g3,(Take.trans (h1:=x::p') (by obtain⟨A,b⟩:=x;exact .cons .head t1) t3).trans t4⟩
theorem E2.pick {n m:Nat}{h p:SH}{e e2:Enc}(k:E2 n m h e e2 p){A:Nat}{b:Blk}{h1:SH}(hp:Pick h A b h1):∃p1,Pick p A b p1:=by
 obtain⟨q1,p',g1,g2,t1⟩:=k
 obtain⟨r1,hp1⟩:=g1.pick hp
 obtain⟨r2,hp2⟩:=g2.pick hp1
 obtain⟨r3,hp3,_⟩:=t1.pick hp2
 exact⟨r3,hp3⟩
theorem E2.r {n m:Nat}{h p:SH}{e e2:Enc}(k:E2 n m h e e2 p):EncR n p e:=by
 obtain⟨q1,p',g1,g2,t1⟩:=k
 exact g2.r.re t1
theorem E2.take {n m:Nat}{h p:SH}{e e2:Enc}(k:E2 n m h e e2 p):Take p h:=by
 obtain⟨q1,p',g1,g2,t1⟩:=k
 exact t1.trans (g2.take.trans g1.take)

structure Sz (N:Nat)(s k:Nat):Prop where
 hi:s*16384^N≤4294967295*256^k*8193^N
 lo:4294967295*256^k*8191^N≤s*16384^N
theorem Sz.shift {N s k:Nat}(h:Sz N s k):Sz N (s*256) (k+1):=by
 have e1:∀c,4294967295*256^(k+1)*c^N=256*(4294967295*256^k*c^N):=fun c=>by
  rw[Nat.pow_succ,Nat.mul_comm (256^k) 256,←Nat.mul_assoc,Nat.mul_comm 4294967295 256,Nat.mul_assoc 256,Nat.mul_assoc 256]
 have e2:s*256*16384^N=256*(s*16384^N):=by rw[Nat.mul_comm s 256,Nat.mul_assoc]
 refine⟨?_,?_⟩
 ·rw[e1,e2];exact Nat.mul_le_mul_left _ h.hi
 ·rw[e1,e2];exact Nat.mul_le_mul_left _ h.lo
theorem pow_small {a b:Nat}(hab:a≤b)(h:b^1000<2*a^1000){N:Nat}(hN:N≤1000):b^N<2*a^N:=by
 rcases Nat.lt_or_ge (b^N) (2*a^N)with k|k
 ·exact k
 ·exfalso
  have h1:a^(1000-N)≤b^(1000-N):=Nat.pow_le_pow_left hab _
  have h2:=Nat.mul_le_mul k h1
  rw[Nat.mul_assoc,←Nat.pow_add,←Nat.pow_add,show N+(1000-N)=1000 by omega]at h2
  omega
theorem Sz.len {N s k:Nat}(h:Sz N s k)(hN:N≤1000)(h1:16777216≤s)(h2:s≤4294967295):N/8≤k+1∧k≤N/8:=by
 have p1:8193^N<2*8192^N:=pow_small (by decide) (by decide +kernel) hN
 have p2:8192^N<2*8191^N:=pow_small (by decide) (by decide +kernel) hN
 have e:16384^N=2^N*8192^N:=by rw[←Nat.mul_pow]
 have e256:256^k=2^(8*k):=by rw[Nat.pow_mul]
 have a1:=h.hi
 have a2:=h.lo
 rw[e,e256]at a1 a2
 have q:0<8192^N:=Nat.pow_pos (by decide)
 have q':0<8191^N:=Nat.pow_pos (by decide)
 generalize 8192^N=x at *
 generalize 8193^N=y at *
 generalize 8191^N=z at *
 have b1:2^N<2^(8*k+9):=by
  have c1:16777216*(2^N*x)≤s*(2^N*x):=Nat.mul_le_mul_right _ h1
  have c2:4294967295*2^(8*k)*y≤4294967295*2^(8*k)*(2*x):=Nat.mul_le_mul_left _ (by omega)
  rcases Nat.lt_or_ge (2^N) (2^(8*k+9))with g|g
  ·exact g
  ·exfalso
   have c3:16777216*(2^(8*k+9)*x)≤16777216*(2^N*x):=Nat.mul_le_mul_left _ (Nat.mul_le_mul_right _ g)
   have c4:2^(8*k+9)*x=512*(2^(8*k)*x):=by rw[Nat.pow_add,Nat.mul_comm (2^(8*k)),Nat.mul_assoc]
   have c5:4294967295*2^(8*k)*(2*x)=8589934590*(2^(8*k)*x):=by rw[Nat.mul_left_comm,←Nat.mul_assoc,←Nat.mul_assoc,←Nat.mul_assoc]
   have c6:0<2^(8*k)*x:=Nat.mul_pos (Nat.pow_pos (by decide)) q
   omega
 have b2:2^(8*k)<2^(N+1):=by
  have c1:s*(2^N*x)≤4294967295*(2^N*x):=Nat.mul_le_mul_right _ h2
  have c2:2^N*x<2^N*(2*z):=Nat.mul_lt_mul_of_pos_left p2 (Nat.pow_pos (by decide))
  have c3:4294967295*2^(8*k)*z=4294967295*(2^(8*k)*z):=Nat.mul_assoc _ _ _
  have c4:2^N*(2*z)=2^(N+1)*z:=by rw[Nat.pow_succ,Nat.mul_assoc]
  have c5:2^(8*k)*z<2^(N+1)*z:=by omega
  exact Nat.lt_of_mul_lt_mul_right c5
 have d1:=(Nat.pow_lt_pow_iff_right (by decide:1<2)).1 b1
 have d2:=(Nat.pow_lt_pow_iff_right (by decide:1<2)).1 b2
 omega

abbrev boF (b:Bool):List Value:=[B b]
theorem boW (b:Bool):(boF b).length=1:=rfl
@[simp] theorem len_bos (l:List Bool):(recs boF l).length=l.length:=by rw[recs_len boW];omega

def val (l:List UInt8):Nat:=l.foldl (fun a c=>a*256+c.toNat) 0
theorem foldl_val (l:List UInt8):∀a:Nat,l.foldl (fun a c=>a*256+c.toNat) a=a*256^l.length+val l:=by
 induction l with
 |nil=>intro a;simp[val]
 |cons c r ih =>
  intro a
  have h1:=ih (a*256+c.toNat)
  have h2:=ih (0*256+c.toNat)
  simp only[List.foldl_cons,List.length_cons]
  rw[h1,show val (c::r)=(0*256+c.toNat)*256^r.length+val r from h2,Nat.pow_succ]
  rw[Nat.add_mul,Nat.zero_mul,Nat.zero_add,Nat.mul_assoc,Nat.mul_comm 256]
  omega
theorem val_app (l m:List UInt8):val (l++m)=val l*256^m.length+val m:=by
 show(l++m).foldl _ 0=_
 rw[List.foldl_append,foldl_val m];rfl
theorem val_one (c:UInt8):val [c]=c.toNat:=by simp[val]
theorem val_snoc (l:List UInt8)(c:UInt8):val (l++[c])=val l*256+c.toNat:=by rw[val_app,val_one];rfl
theorem val_cons (c:UInt8)(l:List UInt8):val (c::l)=c.toNat*256^l.length+val l:=by
 have:=val_app [c] l
 rw[val_one]at this;exact this
theorem val_lt :∀l:List UInt8,val l<256^l.length
 |[]=>by decide
 |c::r=>by
  have h1:=val_lt r
  have h2:=c.toNat_lt
  rw[val_cons,List.length_cons,Nat.pow_succ]
  have h3:c.toNat*256^r.length≤255*256^r.length:=Nat.mul_le_mul_right _ (by omega)
  omega
theorem b8_nat {n:Int}(h:0≤n∧n<256):((b8 n).toNat:Int)=n:=b8_val h

def num' (e:Enc):Int:=(val e.out:Int)*4294967296+e.low
theorem fin_val {e:Enc}(h:0≤e.low∧e.low≤4294967295):(val (fin e):Int)=num' e:=by
 unfold fin num'
 rw[val_app]
 have h4:val (tail4 e.low)=e.low.toNat:=by
  unfold tail4
  rw[val_cons,val_cons,val_cons,val_one]
  have a1:=b8_nat (n:=e.low/16777216) (by omega)
  have a2:=b8_nat (n:=e.low/65536%256) (by omega)
  have a3:=b8_nat (n:=e.low/256%256) (by omega)
  have a4:=b8_nat (n:=e.low%256) (by omega)
  simp only[List.length_cons,List.length_nil]
  omega
 rw[h4,show(tail4 e.low).length=4 from rfl]
 omega

def ext (d:Dec)(c:UInt8):Dec:=⟨d.rest++[c],d.code,d.size,d.missing,d.full⟩

def StI (base:SH)(l:List (Int × Int))(v:Value)(p:SH):Prop:=(l=[]∧v=.slice none 0 0∧p=base)∨∃A,v=gsl A 0 (2*l.length) l.length 2∧p=(A,⟨recs stF l,false⟩)::base
theorem StI.has {base p:SH}{l:List (Int × Int)}{v:Value}(s:StI base l v p):Has p (recs stF l) 2 l.length v:=by
 rcases s with⟨rfl,rfl,rfl⟩|⟨A,rfl,rfl⟩
 ·exact⟨none,0,rfl,fun h=>absurd rfl h⟩
 ·exact⟨_,_,rfl,fun _=>⟨A,false,_,rfl,.head⟩⟩
theorem StI.take {base p:SH}{l:List (Int × Int)}{v:Value}(s:StI base l v p):Take p base:=by
 rcases s with⟨rfl,rfl,rfl⟩|⟨A,rfl,rfl⟩
 ·exact .nil
 ·exact .drop .nil
theorem StI.one {base:SH}{x:Int × Int}{A:Nat}:StI base ([]++[x]) (gsl A 0 (1*2) 1 2) ((A,⟨[I x.1,I x.2],false⟩)::base):=.inr ⟨A,rfl,rfl⟩

def pw (j:Nat):Int:=((256^j:Nat):Int)
theorem pw_pos (j:Nat):0<pw j:=by
 have:0<256^j:=Nat.pow_pos (by decide)
 unfold pw;omega
theorem pw_zero :pw 0=1:=rfl
theorem pw_add (i j:Nat):pw (i+j)=pw i*pw j:=by unfold pw;rw[Nat.pow_add,Int.natCast_mul]
def Within (e e':Enc):Prop:=∃j,e'.out.length=e.out.length+j∧num' e*pw j≤num' e'∧num' e'+e'.size≤(num' e+e.size)*pw j
theorem Within.refl (e:Enc):Within e e:=⟨0,rfl,by rw[pw_zero,Int.mul_one];exact Int.le_refl _,by rw[pw_zero,Int.mul_one];exact Int.le_refl _⟩
theorem Within.trans {e f g:Enc}(a:Within e f)(b:Within f g):Within e g:=by
 obtain⟨i,a1,a2,a3⟩:=a
 obtain⟨j,b1,b2,b3⟩:=b
 refine⟨i+j,by omega,?_,?_⟩
 ·rw[pw_add,←Int.mul_assoc]
  exact Int.le_trans (Int.mul_le_mul_of_nonneg_right a2 (Int.le_of_lt (pw_pos j))) b2
 ·rw[pw_add,←Int.mul_assoc]
  exact Int.le_trans b3 (Int.mul_le_mul_of_nonneg_right a3 (Int.le_of_lt (pw_pos j)))

structure Beh (D:List UInt8)(f:Enc):Prop where
 len:D.length=f.out.length+4
 val:(val D:Int)=num' f
 size:0<f.size
theorem Beh.fin {n:Nat}{f:Enc}(h:EncOk n f):Beh (fin f) f:=⟨fin_len f,fin_val h.low,by have:=h.size;omega⟩
theorem bit01 (v:Int)(k:Nat):v/2^k%2=0∨v/2^k%2=1:=by omega

theorem bat_dropN (l:List UInt8)(k i:Nat):bat (l.drop k) (i:Int)=bat l ((k+i:Nat):Int):=by
 unfold bat
 rw[Int.toNat_natCast,Int.toNat_natCast,List.getD_eq_getElem?_getD,List.getD_eq_getElem?_getD,List.getElem?_drop]
theorem four_of {l:List UInt8}(h:l.length=4):∃a b c d,l=[a,b,c,d]:=by
 match l,h with
 |[a,b,c,d],_=>exact⟨a,b,c,d,rfl⟩
theorem le4_at (x:BitVec 32):bat (le4 x) 0=(x.toNat:Int)%256∧bat (le4 x) 1=(x.toNat:Int)/256%256∧bat (le4 x) 2=(x.toNat:Int)/65536%256∧bat (le4 x) 3=(x.toNat:Int)/16777216%256 :=
 ⟨b8_val (by omega),b8_val (by omega),b8_val (by omega),b8_val (by omega)⟩
theorem synN_four (l:List UInt8)(k:Nat):(synN l k 4:Int)=bat (l.drop k) 0+bat (l.drop k) 1*256+bat (l.drop k) 2*65536+bat (l.drop k) 3*16777216:=by
 have h0:=bat_255 l ((k+0:Nat):Int)
 have h1:=bat_255 l ((k+1:Nat):Int)
 have h2:=bat_255 l ((k+2:Nat):Int)
 have h3:=bat_255 l ((k+3:Nat):Int)
 have e0:=bat_dropN l k 0
 have e1:=bat_dropN l k 1
 have e2:=bat_dropN l k 2
 have e3:=bat_dropN l k 3
 have g0:bat (l.drop k) 0=bat l ((k+0:Nat):Int):=e0
 have g1:bat (l.drop k) 1=bat l ((k+1:Nat):Int):=e1
 have g2:bat (l.drop k) 2=bat l ((k+2:Nat):Int):=e2
 have g3:bat (l.drop k) 3=bat l ((k+3:Nat):Int):=e3
 rw[g0,g1,g2,g3]
 have e:synN l k 4=0+(bat l ((k+0:Nat):Int)).toNat*1+(bat l ((k+1:Nat):Int)).toNat*256+(bat l ((k+2:Nat):Int)).toNat*65536+(bat l ((k+3:Nat):Int)).toNat*16777216:=rfl
 rw[e]
 omega
theorem syn_le4 {l:List UInt8}{k:Nat}(hl:l.length=k+4)(x:BitVec 32):x.toNat=synN l k 4↔l.drop k=le4 x:=by
 have h4:=synN_four l k
 obtain⟨a,b,c,d,e⟩:=four_of (l:=l.drop k) (by rw[List.length_drop];omega)
 have hx:=x.isLt
 rw[e]at h4 ⊢
 have ha:bat [a,b,c,d] 0=a.toNat:=rfl
 have hb:bat [a,b,c,d] 1=b.toNat:=rfl
 have hc:bat [a,b,c,d] 2=c.toNat:=rfl
 have hd:bat [a,b,c,d] 3=d.toNat:=rfl
 have la:=a.toNat_lt
 have lb:=b.toNat_lt
 have lc:=c.toNat_lt
 have ld:=d.toNat_lt
 obtain⟨q0,q1,q2,q3⟩:=le4_at x
 constructor
 ·intro g
  have w:∀{p q:UInt8},(p.toNat:Int)=q.toNat→p=q:=fun h=>UInt8.toNat_inj.1 (by omega)
  have ex:le4 x=[b8 ((x.toNat:Int)%256),b8 ((x.toNat:Int)/256%256),b8 ((x.toNat:Int)/65536%256),b8 ((x.toNat:Int)/16777216%256)]:=rfl
  rw[ex,w (p:=a) (q:=b8 ((x.toNat:Int)%256)) (by rw[b8_val (by omega)];omega),w (p:=b) (q:=b8 ((x.toNat:Int)/256%256)) (by rw[b8_val (by omega)];omega),
   w (p:=c) (q:=b8 ((x.toNat:Int)/65536%256)) (by rw[b8_val (by omega)];omega),w (p:=d) (q:=b8 ((x.toNat:Int)/16777216%256)) (by rw[b8_val (by omega)];omega)]
 ·intro g
  rw[←g]at q0 q1 q2 q3
  omega
def opn (l:List UInt8):List UInt8 × Int:=if 4≤l.length∧l.drop (l.length-4)=le4 (crcV (l.take (l.length-4)))then(l.take (l.length-4),0)else([],12)
theorem Open_any (l:List UInt8)(h:SH)(hl:l.length≤1000000):SRun Tryz.prog 120 [S l] h fun r q=>r=.tuple #[S (opn l).1,I (opn l).2]∧q=h:=by
 unfold opn
 by_cases h4:4≤l.length
 ·obtain⟨k,hk⟩:∃k,l.length=k+4:=⟨l.length-4,by omega⟩
  have hS:∀h,SRun Tryz.prog 175 [S l] h fun r q=>∃x:BitVec 32,r=UB x∧((x.toNat:Int)=0↔l.drop (l.length-4)=le4 (crcV (l.take (l.length-4))))∧q=h:=fun h=>(syndrome_any l h hl h4).mono fun r q ⟨x,e1,e2,e3⟩=>⟨x,e1,by
   rw[←syn_le4 (by omega),←e2]
   constructor
   ·intro g;apply BitVec.eq_of_toNat_eq;show x.toNat=0;omega
   ·rintro rfl;rfl,e3⟩
  by_cases hc:l.drop (l.length-4)=le4 (crcV (l.take (l.length-4)))
  ·rw[if_pos ⟨h4,hc⟩]
   have hS2:∀h,SRun Tryz.prog 175 [S l] h fun r q=>r=.int .u32 0∧q=h:=fun h=>(hS h).mono fun r q ⟨x,e1,e2,e3⟩=>⟨by rw[e1];exact congrArg (Value.int .u32) (e2.2 hc),e3⟩
   clear hS
   refine zR Tryz.func120 rfl rfl ?_
   repeat'(first|apply zF|apply zB|apply zE|refine jg ?_ ?_|(apply o_ar zC;exact rfl;exact rfl)|refine jq ?_ (c:=by exact⟨_,hS2 _,jN⟩)|refine jw ?_|refine ji ?_|(apply zS;exact rfl)|apply zA|apply zI|apply zN|exact jO|exact jW|fail)
   all_goals first
    |(exfalso;omega)
    |contradiction
    |skip
   rw[show l.length-4=k by omega]
   exact jF (k:=by exact⟨by rw[show((l.length:Int)-4).toNat=k by omega];rfl,rfl⟩)
  ·rw[if_neg (fun g=>hc g.2)]
   have hS2:∀h,SRun Tryz.prog 175 [S l] h fun r q=>∃n:Int,r=.int .u32 n∧n≠0∧q=h:=fun h=>(hS h).mono fun r q ⟨x,e1,e2,e3⟩=>⟨_,e1,fun g=>hc (e2.1 g),e3⟩
   clear hS hc
   refine zR Tryz.func120 rfl rfl ?_
   repeat'(first|apply zF|apply zB|apply zE|refine jg ?_ ?_|(refine jc ?_ (c:=by exact⟨_,hS2 _,jN⟩);rintro _ _ ⟨n,rfl,hn,rfl⟩)|refine jw ?_|refine ji ?_|(apply yC;exact rfl;exact ‹_›)|apply zA|apply zP|apply zN|exact jS|fail)
   all_goals first
    |(exfalso;omega)
    |contradiction
    |exact jG
 ·rw[if_neg (fun g=>h4 g.1)]
  refine zR Tryz.func120 rfl rfl ?_
  repeat'(first|apply zF|apply zB|apply zE|refine jg ?_ ?_|refine jk ?_|(apply o_sT;(iterate 3 exact rfl);omega;exact rfl)|(apply yB;exact rfl)|apply zA|apply zP|apply zN|exact jS|fail)
  all_goals first
   |(exfalso;omega)
   |exact jG

theorem DirectT_any (n:Nat)(x v:Int)(e:Enc)(h p:SH)(hb:EncT n h none e p)(hok:EncOk 999000 e) :
  SRun Tryz.prog 173 [gptr n 0 3,I x,I v] p fun _ q=>EncT n h none (edir e x v) q:=by
 refine w_body3 Tryz.func173 rfl rfl ?_
 repeat'(first|apply zF|apply zB|apply zE|refine jg ?_ ?_|(apply o_ar zC;exact rfl;exact rfl)|refine jw ?_|refine jk ?_|(apply o_guardF;(iterate 3 exact rfl);all_goals intro hc)|(apply yB;exact rfl)|(apply w_if;exact rfl;all_goals intro hc)|apply zA|apply zP|apply zI|apply zN|apply zH|exact jS|exact jW|fail)
 all_goals first|(apply zL;(exact(show ResS _ _ _ _ [] from trivial));(focus rw[show edir e x v=e from if_pos (by omega)];exact hb);(focus repeat with_reducible first|exact Take.nil|apply Take.c|apply Take.drop))|skip
 obtain⟨m,rfl⟩:=Int.eq_ofNat_of_zero_le (show 0≤x by omega)
 have he:edir e m v=ebits v m e:=if_neg (by omega)
 refine zZ (S:=Nat × Enc × SH × Nat) (fun x=>[(0,gptr n 0 3),(2,I v),(6,I ((x.1:Int)-1))]) (fun x=>x.2.2.1) (fun x=>EncT n h none x.2.1 x.2.2.1∧EncOk x.2.2.2 x.2.1∧x.2.2.2+2*x.1≤999200∧x.1≤m∧ebits v x.1 x.2.1=edir e m v)
  (fun x=>x.1) (m,e,p,999000) ⟨hb,hok,by show 999000+2*m≤_;omega,Nat.le_refl _,he.symm⟩ jB jK ?_
 rintro⟨k,e1,p1,c⟩ ⟨hb1,hok1,hc1,hkm,he1⟩
 dsimp only at *
 cases k with
 |zero =>
  repeat'(first|apply zF|apply zB|apply zE|refine jg ?_ ?_|(apply zS;exact rfl)|apply zA|apply zK|apply zJ|apply zV|exact jS|fail)
  (apply s_finN;(exact(show ResS _ _ _ _ [] from trivial));(focus rw[←he1];exact hb1);(focus repeat with_reducible first|exact Take.nil|apply Take.c|apply Take.drop))
 |succ k =>
  rw[show((k+1:Nat):Int)-1=k by omega]
  repeat'(first|apply zF|apply zB|apply zE|refine jg ?_ ?_|(apply o_ar zC;exact rfl;exact rfl)|(apply o_ex;exact rfl;exact rfl)|(refine jc ?_ (c:=by exact⟨_,BitT_any _ _ _ _ _ _ _ hb1 (hok1.mono (by omega)),jN⟩);rintro _ _ hb2)|(apply yB;exact rfl)|apply zA|apply zG|apply zI|apply zH|exact jO|((with_reducible apply Wr.mk);first|exact w_and1 _|exact IntWalk.i64_in _ (by omega))|((with_reducible apply Ex.mk);first|exact ex_shrk (by omega)))
  exact⟨(k,_,_,c+2),⟨hb2,ebit_ok hok1 _ _,by show c+2+2*k≤_;omega,by show k≤m;omega,he1⟩,by show k<k+1;omega,jB,jK⟩
theorem numEncT (n M N m:Nat)(t:List Int)(e:Enc)(v:Int)(h p:SH)(hb:EncT n ((M,⟨numC N,false⟩)::(N,⟨nodes t,false⟩)::h) none e p)(ht:t.length=64)(hok:EncOk m e)(hm:m+12≤999000) :
  SRun Tryz.prog 113 [gptr M 0 2,gptr n 0 3,I v] p fun _ q=>EncT n ((M,⟨numC N,false⟩)::(N,⟨nodes (tenc v 6 t e 1).1,false⟩)::h) none (tenc v 6 t e 1).2 q:=by
 have hb':EncT n ((M,⟨numC N,false⟩)::(N,⟨nodes ([]++t++[]),false⟩)::h) none e p:=by rw[List.nil_append,List.append_nil];exact hb
 have:=TreeEncodeT n M N 0 2 64 6 m none (numC N) [] [] t e v h p hb' rfl rfl rfl rfl ht (by decide) hok hm
 rw[List.nil_append,List.append_nil]at this
 exact this.mono fun _ _ g=>g.2
theorem NumEncodeT_any (n M N m:Nat)(t:List Int)(e:Enc)(v:Int)(h p:SH)(hb:EncT n ((M,⟨numC N,false⟩)::(N,⟨nodes t,false⟩)::h) none e p)(ht:t.length=64)(hok:EncOk m e)(hm:m+200≤999000) :
  SRun Tryz.prog 115 [gptr M 0 2,gptr n 0 3,I v] p fun _ q=>EncT n ((M,⟨numC N,false⟩)::(N,⟨nodes (nenc t e v).1,false⟩)::h) none (nenc t e v).2 q:=by
 by_cases hv:v<0∨4611686018427387903<v
 ·have hx:ncut v=0:=if_pos hv
  have e1:nenc t e v=tenc 0 6 t e 1:=by unfold nenc;rw[hx];rfl
  rw[e1]
  have hL:∀h,SRun Tryz.prog 172 [.int .u64 0] h fun r q=>r=I 0∧q=h:=fun h=>bLen_any 0 h (by decide)
  have hE:=numEncT n M N m t e 0 h p hb ht hok (by omega)
  refine w_body3 Tryz.func115 rfl rfl ?_
  repeat'(first|apply zF|apply zB|apply zE|refine jg ?_ ?_|(apply o_ar zC;exact rfl;exact rfl)|refine jq ?_ (c:=by exact⟨_,hL _,jN⟩)|(refine jc ?_ (c:=by exact⟨_,hE,jN⟩);rintro _ _ hb2)|refine jw ?_|refine jk ?_|(apply o_guardF;(iterate 3 exact rfl);all_goals intro hc)|(apply yB;exact rfl)|(apply zS;exact rfl)|refine jd ?_|apply zA|apply zI|exact jS|((with_reducible apply Wr.mk);first|exact IntWalk.u64_in _ (by omega)))
  all_goals first
   |(exfalso;omega)
   |(apply s_finN;(exact(show ResS _ _ _ _ [] from trivial));exact hb2;(focus repeat with_reducible first|exact Take.nil|apply Take.c|apply Take.drop))
 ·have hx:ncut v=v:=if_neg hv
  obtain⟨x,rfl⟩:=Int.eq_ofNat_of_zero_le (show 0≤v by omega)
  have hl:blen x≤62:=blen_le (by have:(2:Nat)^62=4611686018427387904:=rfl;omega)
  have hL:∀h,SRun Tryz.prog 172 [.int .u64 x] h fun r q=>r=I (blen x)∧q=h:=fun h=>bLen_any x h (by omega)
  have e1:nenc t e x=((tenc (blen x) 6 t e 1).1,if 2≤blen x then edir (tenc (blen x) 6 t e 1).2 ((blen x:Int)-1) x else(tenc (blen x) 6 t e 1).2):=by unfold nenc;rw[hx];rfl
  rw[e1]
  generalize blen x=l at *
  have hE:=numEncT n M N m t e l h p hb ht hok (by omega)
  have hok2:EncOk 999000 (tenc l 6 t e 1).2:=(tenc_ok (v:=(l:Int)) (k:=6) (t:=t) (j:=1) hok).1.mono (by omega)
  generalize tenc l 6 t e 1=T at *
  dsimp only
  refine w_body3 Tryz.func115 rfl rfl ?_
  repeat'(first|apply zF|apply zB|apply zE|refine jg ?_ ?_|(apply o_ar zC;exact rfl;exact rfl)|refine jq ?_ (c:=by exact⟨_,hL _,jN⟩)|(refine jc ?_ (c:=by exact⟨_,hE,jN⟩);rintro _ _ hb2)|(refine jc ?_ (c:=by exact⟨_,DirectT_any _ _ _ _ _ _ hb2 hok2,jN⟩);rintro _ _ hb3)|refine jw ?_|refine jf ?_|(apply w_if;exact rfl;all_goals intro hc)|apply zA|apply zI|exact jS|((with_reducible apply Wr.mk);first|exact IntWalk.i64_in _ (by omega)|exact IntWalk.u64_in _ (by omega)))
  all_goals first
   |(exfalso;omega)
   |(rw[if_pos (by omega)];(apply s_finN;(exact(show ResS _ _ _ _ [] from trivial));exact hb3;(focus repeat with_reducible first|exact Take.nil|apply Take.c|apply Take.drop)))
   |(rw[if_neg (by omega)];(apply s_finN;(exact(show ResS _ _ _ _ [] from trivial));exact hb2;(focus repeat with_reducible first|exact Take.nil|apply Take.c|apply Take.drop)))
theorem EncT.re {n:Nat}{a:Option Nat}{h h' p:SH}{e:Enc}(hb:EncT n h a e p)(t:Take h h'):∃p',EncT n h' a e p'∧Take p p':=by
 cases hb with
 |nil low size ha=>exact⟨_,.nil _ _ ha,.cons .head t⟩
 |some o low size A ha ho=>exact⟨_,.some _ _ _ _ ha ho,.cons .head (.cons .head t)⟩
theorem EncT.none' {n:Nat}{a:Option Nat}{h p:SH}{e:Enc}(hb:EncT n h a e p):EncT n h none e p:=by
 cases hb with
 |nil low size ha=>exact .nil _ _ rfl
 |some o low size A ha ho=>exact .some _ _ _ _ (fun _ g=>by cases g) ho

structure Cst where
 lit:Int
 cpy:Int
 dst:Int
 len:Int
abbrev csC (c:Cst):List Value:=[I c.lit,I c.cpy,I c.dst,I c.len]
abbrev csV (c:Cst):Value:=.agg ⟨csC c⟩
abbrev Pc :=Int × Int × Int
abbrev pcC (t:Pc):List Value:=[I t.1,I t.2.1,.int .u8 t.2.2]
abbrev pcV (t:Pc):Value:=.agg ⟨pcC t⟩
theorem pcW (t:Pc):(pcC t).length=3:=rfl
@[simp] theorem len_pcs (l:List Pc):(recs pcC l).length=3*l.length:=by rw[recs_len pcW];omega
abbrev one1 (n:Int):Prop:=0≤n∧n≤1000
abbrev vC (c:Cst):Prop:=one1 c.lit∧one1 c.cpy∧one1 c.dst∧one1 c.len
abbrev vP (t:Pc):Prop:=(t.2.1=0∧t.1=1)∨(1≤t.2.1∧t.2.1≤4096∧2≤t.1∧t.1≤273∧t.2.2=0)
def iblen (n:Int):Int:=(blen n.toNat:Int)
theorem iblen_pos {n:Int}(h:0≤n∧n<8192):0≤iblen n∧iblen n≤13:=by
 have:=blen_le (n:=n.toNat) (k:=13) (by omega)
 unfold iblen;omega
def price (c:Cst)(t:Pc):Int:=if t.2.1=0 then c.lit else c.cpy+c.dst*iblen t.2.1+c.len*iblen t.1
theorem mul_in {a b:Int}(ha:one1 a)(hb:0≤b∧b≤13):0≤a*b∧a*b≤13000:=by
 have h1:=Int.mul_le_mul_of_nonneg_left hb.2 ha.1
 have h2:=Int.mul_nonneg ha.1 hb.1
 omega
theorem price_in {c:Cst}{t:Pc}(hc:vC c)(ht:vP t):0≤price c t∧price c t≤27000:=by
 obtain⟨h1,h2,h3,h4⟩:=hc
 unfold price
 split
 ·omega
 ·rcases ht with ht|ht
  ·omega
  ·have:=mul_in h3 (iblen_pos (n:=t.2.1) (by omega))
   have:=mul_in h4 (iblen_pos (n:=t.1) (by omega))
   omega

theorem validC_any (c:Cst)(h:SH):SRun Tryz.prog 204 [csV c] h fun r q=>r=B (decide (vC c))∧q=h:=by
 obtain⟨a,b,d,e⟩:=c
 refine zR Tryz.func204 rfl rfl ?_
 repeat'(first|apply zF|apply zB|apply zE|refine jg ?_ ?_|(apply zM zC;(iterate 3 exact rfl);exact pk)|refine jx ?_|refine jb ?_|apply zA|apply zH|exact jS|exact jL|exact jE|exact True.intro|intro A|exact rfl)
 refine zZ (S:=Nat) (fun k=>[(13,gsl A 0 (4*1) 4 1),(14,I 4),(15,I k)]) (fun _=>(A,⟨[a,b,d,e].map (fun z=>I z),false⟩)::h) (fun k=>k≤4∧∀i,i<k→one1 [a,b,d,e][i]!) (fun k=>4-k) 0 ⟨by omega,by omega⟩ jB jK ?_
 rintro k ⟨hk,hs⟩
 by_cases hkl:k<4
 ·have hl:k<[a,b,d,e].length:=hkl
  have hall:(∀i,i<4→one1 [a,b,d,e][i]!)↔one1 a∧one1 b∧one1 d∧one1 e :=
   ⟨fun g=>⟨g 0 (by omega),g 1 (by omega),g 2 (by omega),g 3 (by omega)⟩,fun g i hi=>by match i,hi with|0,_=>exact g.1|1,_=>exact g.2.1|2,_=>exact g.2.2.1|3,_=>exact g.2.2.2⟩
  repeat'(first|apply zF|apply zB|apply zE|refine jg ?_ ?_|(apply o_ar zC;exact rfl;exact rfl)|(apply zM zC;(iterate 3 exact rfl);exact pk)|refine jw ?_|refine jk ?_|(apply o_guardF;(iterate 3 exact rfl);all_goals intro hc)|(apply yB;exact rfl)|refine jd ?_|(apply w_if;exact rfl;all_goals intro hc)|apply zA|apply zP|apply zG|apply yP|apply zI|apply zN|apply zH|exact jO|exact jL|exact jW|((with_reducible apply Ce.mk);first|exact yM (by omega))|exact True.intro|exact rfl)
  all_goals first
   |exact jF (k:=by refine⟨?_,rfl⟩;show B _=B _;congr 1;symm;rw[decide_eq_false_iff_not];intro g;have:=hall.2 g k hkl;omega)
   |exact⟨k+1,⟨hkl,fun i hi=>by
     by_cases e2:i=k
     ·subst e2;omega
     ·exact hs i (by omega)⟩,by omega,jB,jK⟩
 ·repeat'(first|apply zF|apply zB|apply zE|refine jg ?_ ?_|refine jf ?_|apply zA|apply zK|apply zJ|apply zN|apply zV|exact jS|fail)
  exact jF (k:=by refine⟨?_,rfl⟩;show B _=B _;congr 1;symm;rw[decide_eq_true_eq];exact⟨hs 0 (by omega),hs 1 (by omega),hs 2 (by omega),hs 3 (by omega)⟩)
theorem vP_nat {t:Pc}(h:vP t):∃(a b:Nat) (y:Int),t=((a:Int),(b:Int),y)∧a≤273∧b≤4096:=by
 obtain⟨a,b,y⟩:=t
 have h':(b=0∧a=1)∨(1≤b∧b≤4096∧2≤a∧a≤273∧y=0):=h
 exact⟨a.toNat,b.toNat,y,by rw[Int.toNat_of_nonneg (by omega),Int.toNat_of_nonneg (by omega)],by omega,by omega⟩
theorem price_nat (c:Cst)(a b:Nat)(y:Int):price c ((a:Int),(b:Int),y)=if(b:Int)=0 then c.lit else c.cpy+c.dst*(blen b:Int)+c.len*(blen a:Int):=rfl
theorem price_any (c:Cst)(t:Pc)(h:SH)(hc:vC c)(ht:vP t):SRun Tryz.prog 207 [csV c,pcV t] h fun r q=>r=I (price c t)∧q=h:=by
 have hin:=price_in hc ht
 obtain⟨a,b,y,rfl,ha,hb⟩:=vP_nat ht
 rw[price_nat]at hin ⊢
 have m1:=mul_in hc.2.2.1 (b:=(blen b:Int)) (by have:=blen_le (n:=b) (k:=13) (by omega);omega)
 have m2:=mul_in hc.2.2.2 (b:=(blen a:Int)) (by have:=blen_le (n:=a) (k:=13) (by omega);omega)
 have h2:=hc.2.1
 show SRun _ _ [csV c,.agg ⟨[I a,I b,.int .u8 y]⟩] h _
 refine zY Tryz.func207 rfl rfl ?_
 repeat'(first|apply zF|apply zB|apply zE|refine jr ?_|refine jg ?_ ?_|(apply o_ar zC;exact rfl;exact rfl)|(apply zM zC;(iterate 3 exact rfl);exact pk)|refine jx ?_|(apply yS;(iterate 4 exact rfl);exact⟨_,bLen_any b _ (by omega),jN⟩;exact fun _ _ h=>h.1;(focus(repeat(first|exact Flat.c rfl))))|(apply yS;(iterate 4 exact rfl);exact⟨_,bLen_any a _ (by omega),jN⟩;exact fun _ _ h=>h.1;(focus(repeat(first|exact Flat.c rfl))))|(apply w_if;exact rfl;all_goals intro hc)|apply zA|apply zP|apply zI|apply zN|exact jS|exact jL|((with_reducible apply Wr.mk);first|exact IntWalk.i64_in _ (by omega)|exact IntWalk.u64_in _ (by omega))|exact jE|exact True.intro|intro A|exact rfl)
 ·rw[if_pos hc]
  exact jG
 ·rw[if_neg hc]
  exact jG

def costs (c:Cst):List Pc→Int
 |[]=>0
 |t::r=>price c t+costs c r
abbrev vPs (l:List Pc):Prop:=∀t∈l,vP t

def copyN (d:Nat):Nat→List UInt8→List UInt8
 |0,o=>o
 |n+1,o=>copyN d n (o++[o[o.length-d]!])
def byt (y:Int):UInt8:=UInt8.ofNat y.toNat
theorem byt_nat {y:Int}(h:0≤y∧y≤255):((byt y).toNat:Int)=y:=by
 unfold byt
 rw[UInt8.toNat_ofNat',Nat.mod_eq_of_lt (by omega)];omega
theorem byteV_byt {y:Int}(h:0≤y∧y≤255):Value.int .u8 y=byteV (byt y):=by
 show _=Value.int .u8 _
 rw[byt_nat h]
def estp (o:List UInt8)(t:Pc):List UInt8:=if t.2.1=0 then o++[byt t.2.2] else copyN t.2.1.toNat t.1.toNat o
theorem copyN_len (d:Nat):∀(n:Nat) (o:List UInt8),(copyN d n o).length=o.length+n
 |0,_=>rfl
 |n+1,o=>by rw[copyN,copyN_len d n];simp;omega
abbrev bytesOk (l:List Pc):Prop:=∀t∈l,0≤t.2.2∧t.2.2≤255
theorem bang_mem {α:Type}[Inhabited α]{l:List α}{k:Nat}(h:k<l.length):l[k]!∈l:=by rw[getElem!_pos l k h];exact List.getElem_mem h
theorem estp_lit {t:Pc}(o:List UInt8)(h:t.2.1=0):estp o t=o++[byt t.2.2]:=if_pos h
theorem estp_cpy {t:Pc}(o:List UInt8)(h:t.2.1≠0):estp o t=copyN t.2.1.toNat t.1.toNat o:=if_neg h

abbrev St :=Int × Int × Pc
abbrev stC (s:St):List Value:=[I s.1,I s.2.1,I s.2.2.1,I s.2.2.2.1,.int .u8 s.2.2.2.2]
theorem stcW (s:St):(stC s).length=5:=rfl
@[simp] theorem len_stcs (l:List St):(recs stC l).length=5*l.length:=by rw[recs_len stcW];omega
def nxt (c:Cst)(T:List St)(i:Nat)(t:Pc):St:=(T[i+t.1.toNat]!.1+price c t,T[i+t.1.toNat]!.2.1+1,t)
abbrev sbet (x y:St):Prop:=x.1<y.1∨x.1=y.1∧x.2.1<y.2.1
def tryS (c:Cst)(i:Nat)(s:Bool × List St)(t:Pc):Bool × List St :=
 if s.1=false∨sbet (nxt c s.2 i t) s.2[i]! then(true,s.2.set i (nxt c s.2 i t))else s
theorem tryS_len (c:Cst)(i:Nat)(s:Bool × List St)(t:Pc):(tryS c i s t).2.length=s.2.length:=by
 unfold tryS;split <;> simp
abbrev TB (n3 n8 n9 n10 A:Nat)(c:Cst)(i:Nat)(s:Bool × List St)(h:SH):SH :=
 (n10,⟨[B s.1],false⟩)::(n9,⟨[I i],false⟩)::(n8,⟨[gsl A 0 (s.2.length*5) s.2.length 5],false⟩)::(A,⟨recs stC s.2,false⟩)::(n3,⟨csC c,false⟩)::h
abbrev stOk (s:St):Prop:=0≤s.1∧s.1≤27000*4097∧0≤s.2.1∧s.2.1≤4097
theorem put5 {a b c d e x y z:Value}:PutAt [a,b,c,d,e] 2 [x,y,z] [a,b,x,y,z]:=⟨by simp,rfl⟩
theorem try_any (c:Cst)(t:Pc)(n3 n8 n9 n10 A0 i:Nat)(s:Bool × List St)(h:SH)(hc:vC c)(ht:vP t)(hi:i+t.1.toNat<s.2.length)(hl:s.2.length≤4097)(hT:stOk s.2[i+t.1.toNat]!) :
  SRun Tryz.prog 206 [pcV t,gptr n8 0 1,gptr n9 0 1,gptr n3 0 4,gptr n10 0 1] (TB n3 n8 n9 n10 A0 c i s h)
   fun r q=>r=.tuple #[]∧q=TB n3 n8 n9 n10 A0 c i (tryS c i s t) h:=by
 have hpr:=price_in hc ht
 obtain⟨a,b,y,rfl,ha,hb⟩:=vP_nat ht
 have hix:i+((a:Int)).toNat=i+a:=by rw[Int.toNat_natCast]
 dsimp only at hi hT
 rw[hix]at hi hT
 have hn:nxt c s.2 i ((a:Int),(b:Int),y)=(s.2[i+a]!.1+price c ((a:Int),(b:Int),y),s.2[i+a]!.2.1+1,((a:Int),(b:Int),y)):=by unfold nxt;dsimp only;rw[hix]
 obtain⟨f,T⟩:=s
 dsimp only at hi hT hl hn ⊢
 show SRun _ _ [.agg ⟨[I (a:Int),I (b:Int),.int .u8 y]⟩,gptr n8 0 1,gptr n9 0 1,gptr n3 0 4,gptr n10 0 1]
  ((n10,⟨[B f],false⟩)::(n9,⟨[I i],false⟩)::(n8,⟨[gsl A0 0 (T.length*5) T.length 5],false⟩)::(A0,⟨recs stC T,false⟩)::(n3,⟨csC c,false⟩)::h) _
 refine w_body5 Tryz.func206 rfl rfl ?_
 have hput:PutAt (recs stC T) (0+((i:Int)).toNat*5) [I (T[i+a]!.1+price c ((a:Int),(b:Int),y)),I (T[i+a]!.2.1+1),I (a:Int),I (b:Int),.int .u8 y] (recs stC (T.set i (nxt c T i ((a:Int),(b:Int),y)))):=by
  rw[hn];exact putAt_recZ (x:=(T[i+a]!.1+price c ((a:Int),(b:Int),y),T[i+a]!.2.1+1,((a:Int),(b:Int),y))) (fun _=>rfl) (by omega)
 have hset:(f=false∨(T[i+a]!.1+price c ((a:Int),(b:Int),y)<T[i]!.1∨T[i+a]!.1+price c ((a:Int),(b:Int),y)=T[i]!.1∧T[i+a]!.2.1+1<T[i]!.2.1))→tryS c i (f,T) ((a:Int),(b:Int),y)=(true,T.set i (nxt c T i ((a:Int),(b:Int),y))):=fun g=>by
  unfold tryS;dsimp only;rw[if_pos (by rw[hn];exact g)]
 have hno:¬(f=false∨(T[i+a]!.1+price c ((a:Int),(b:Int),y)<T[i]!.1∨T[i+a]!.1+price c ((a:Int),(b:Int),y)=T[i]!.1∧T[i+a]!.2.1+1<T[i]!.2.1))→tryS c i (f,T) ((a:Int),(b:Int),y)=(f,T):=fun g=>by
  unfold tryS;dsimp only;rw[if_neg (by rw[hn];exact g)]
 repeat'(first|apply zF|apply zB|apply zE|refine jr ?_|refine jg ?_ ?_|(apply o_ar zC;exact rfl;exact rfl)|(apply yR;exact rfl;exact rfl)|(apply zM zC;(iterate 3 exact rfl);exact pk)|(apply yQ zC;(iterate 3 exact rfl);exact pk)|(apply zX zC;(iterate 4 exact rfl);exact up)|(apply yE zC;(iterate 4 exact rfl);exact⟨rfl⟩;exact up)|refine jy ?_|refine jx ?_|(apply yT zC;exact rfl;exact rfl;(focus first|with_reducible exact pl273);exact rfl;(focus repeat(first|exact BuildR.nil|(apply BuildR.one;exact rfl;exact rfl;(first|(focus(repeat(first|exact SetAt.zero|apply SetAt.succ));done)))|(apply BuildR.agg;exact rfl;exact rfl;(first|exact put5))));exact rfl)|(apply yS;(iterate 4 exact rfl);exact⟨_,price_any c _ _ hc ht,jN⟩;exact fun _ _ h=>h.1;(focus(repeat(first|exact Flat.c rfl))))|refine jw ?_|refine jk ?_|(apply o_skip_undef;iterate 3 exact rfl)|(apply o_guardT;(iterate 3 exact rfl);all_goals intro hc)|(apply o_guardF;(iterate 3 exact rfl);all_goals intro hc)|(apply o_guardB;(iterate 3 exact rfl);all_goals intro hc)|(apply yB;exact rfl)|(apply zS;exact rfl)|(apply w_if;exact rfl;all_goals intro hc)|apply zA|apply zI|exact jO|((with_reducible apply Ln.mk);first|rfl|(simp ;first|done|omega))|exact jW|((with_reducible apply Ce.mk);first|rfl|exact cell_recZ (fun _=>rfl) (by omega) (by decide) rfl)|((with_reducible apply Se.mk);first|(focus(repeat(first|exact SetAt.zero));done))|((with_reducible apply Pu.mk);first|exact yA rfl|exact hput)|((with_reducible apply Su.mk);first|exact zQ|exact subAt_recZ (fun _=>rfl) (by omega))|exact True.intro|exact Or.inl rfl|apply And.intro|intro A|exact rfl)
 all_goals first
  |(rw[hset (by first|(left;simpa using hc)|(right;left;assumption)|(right;right;exact⟨by assumption,by assumption⟩))];(apply s_finN;(exact(show ResS _ _ _ _ [] from trivial));exact⟨rfl,rfl⟩;(focus repeat(first|with_reducible exact Take.nil|with_reducible apply Take.c|((with_reducible apply Take.cE);first|exact rfl|(apply blkE;(focus first|exact rfl|exact yI rfl|exact yO rfl|exact congrArg (fun v=>[v]) (gslE rfl rfl (by first|rfl|exact ‹_›|omega|(simp ;first|done|omega)) (by first|rfl|exact ‹_›|omega|(simp ;first|done|omega)) rfl))))|with_reducible apply Take.drop))))
  |(rw[hno (by rintro(g|g|g) <;> first|omega|simp_all)];(apply s_finN;(exact(show ResS _ _ _ _ [] from trivial));exact⟨rfl,rfl⟩;(focus repeat with_reducible first|exact Take.nil|apply Take.c|apply Take.drop)))

abbrev vld (w m:Int):Prop:=1≤w∧w≤4096∧2≤m∧m≤273

def lcp (l:List UInt8)(i j:Nat):Nat→Nat
 |0=>0
 |m+1=>if bat l i=bat l j then lcp l (i+1) (j+1) m+1 else 0

theorem lcp_le (l:List UInt8):∀(m i j:Nat),lcp l i j m≤m
 |0,_,_=>Nat.le_refl _
 |m+1,i,j=>by
  unfold lcp;split
  ·have:=lcp_le l m (i+1) (j+1);omega
  ·omega

theorem valid_any (x y:Int)(h:SH):SRun Tryz.prog 238 [I x,I y] h fun r q=>r=B (decide (vld x y))∧q=h:=by
 refine zY Tryz.func238 rfl rfl ?_
 repeat'(first|apply zF|apply zB|apply zE|refine jg ?_ ?_|refine jw ?_|refine jk ?_|(apply o_guardT;(iterate 3 exact rfl);all_goals intro hc)|apply zA|apply zN|exact jS|fail)
 all_goals exact jF (k:=by refine⟨?_,rfl⟩;show B _=B _;congr 1;unfold vld;first|(rw[decide_eq_decide];omega)|(symm;rw[decide_eq_false_iff_not];omega))
theorem common_any (l:List UInt8)(i j m:Nat)(h:SH)(h1:i+m≤l.length)(h2:j+m≤l.length)(h5:l.length≤9223372036854775807) :
  SRun Tryz.prog 275 [S l,I i,I j,I m] h fun r q=>r=I (lcp l i j m)∧q=h:=by
 refine w_body4 Tryz.func275 rfl rfl ?_
 repeat'(first|apply zF|apply zB|apply zE|refine jg ?_ ?_|apply zA|apply zH|exact jS|fail)
 refine zZ (S:=Nat) (fun k=>[(0,S l),(1,I i),(2,I j),(3,I m),(10,I m),(11,I k)]) (fun _=>h)
  (fun k=>k≤m∧lcp l i j m=k+lcp l (i+k) (j+k) (m-k)) (fun k=>m-k) 0 ⟨by omega,by simp⟩ jB jK ?_
 rintro k ⟨hk,he⟩
 repeat'(first|apply zF|apply zB|apply zE|refine jr ?_|refine jg ?_ ?_|(apply o_ar zC;exact rfl;exact rfl)|(apply o_max;iterate 3 exact rfl)|(apply w_ifN;exact rfl;all_goals intro hc)|(apply w_if;exact rfl;all_goals intro hc)|apply zA|apply zP|apply zK|apply zG|apply yP|apply zJ|apply zI|apply zN|apply zV|apply zH|exact jO|exact jW|fail)
 ·obtain⟨q,hq⟩:∃q,m-k=q+1:=⟨m-k-1,by omega⟩
  rw[hq,lcp,if_neg (by push_cast;assumption)]at he
  exact jF (k:=by exact⟨by show I _=I _;rw[he];rfl,rfl⟩)
 ·refine⟨k+1,⟨by omega,?_⟩,by omega,jB,jK⟩
  obtain⟨q,hq⟩:∃q,m-k=q+1:=⟨m-k-1,by omega⟩
  rw[hq,lcp,if_pos (by push_cast;assumption)]at he
  rw[he,show m-(k+1)=q from by omega,show i+(k+1)=i+k+1 from by omega,show j+(k+1)=j+k+1 from by omega]
  omega
 ·have:k=m:=by omega
  subst this
  exact jF (k:=by refine⟨?_,rfl⟩;show I _=I _;rw[he];simp[lcp])

theorem common_int (l:List UInt8)(i j m:Int)(h:SH)(hi:0≤i)(hj:0≤j)(hm:0≤m)(h1:i+m≤l.length)(h2:j+m≤l.length)(h5:l.length≤9223372036854775807) :
  SRun Tryz.prog 275 [S l,I i,I j,I m] h fun r q=>r=I (lcp l i.toNat j.toNat m.toNat)∧q=h:=by
 obtain⟨i,rfl⟩:=Int.eq_ofNat_of_zero_le hi
 obtain⟨j,rfl⟩:=Int.eq_ofNat_of_zero_le hj
 obtain⟨m,rfl⟩:=Int.eq_ofNat_of_zero_le hm
 exact common_any l i j m h (by omega) (by omega) h5

def com (l:List UInt8)(i j:Int):Nat:=if 0≤i∧0≤j∧i≤l.length∧j≤l.length then lcp l i.toNat j.toNat (l.length-max i j).toNat else 0

def atd (l:List UInt8)(i d m:Int):Int:=if d<1∨i<d then 0 else if min (com l (i-d) i:Int) m<2 then 0 else min (com l (i-d) i:Int) m

abbrev cpF (c:Int × Int):List Value:=[I c.1,I c.2]
theorem cpW (c:Int × Int):(cpF c).length=2:=rfl
@[simp] theorem len_cps (l:List (Int × Int)):(recs cpF l).length=2*l.length:=by rw[recs_len cpW];omega
abbrev cpS (A:Nat)(l:List (Int × Int)):Value:=gsl A 0 (2*l.length) l.length 2
abbrev cpB (l:List (Int × Int))(ro:Bool):Blk:=⟨recs cpF l,ro⟩

def rc (l:List UInt8)(i m:Int):Nat→List (Int × Int) × Int
 |0=>([],0)
 |d+1=>if(rc l i m d).2<atd l i (d+1) m then((rc l i m d).1++[(atd l i (d+1) m,(d:Int)+1)],atd l i (d+1) m)else rc l i m d

def rcands (l:List UInt8)(i w m:Int):List (Int × Int) :=
 if vld w m∧0≤i∧i≤l.length∧l.length≤4096 then(rc l i m (min w i).toNat).1 else []


abbrev BS :=Nat × List (Int × Int)
def bgo (i:Nat)(w:Int)(m j:Nat)(s:BS):Prop:=¬(w<(i:Int)-j∨m≤s.1)
instance (i:Nat) (w:Int) (m j:Nat) (s:BS):Decidable (bgo i w m j s):=by unfold bgo;infer_instance
def bup (l:List UInt8)(i m j:Nat)(s:BS):BS:=if s.1<lcp l j i m then(lcp l j i m,s.2++[((lcp l j i m:Int),(i:Int)-(j:Int))])else s
def nbst (l:List UInt8)(i:Nat)(w:Int)(m j:Nat)(s:BS):BS:=if bgo i w m j s then bup l i m j s else s
def brun (l:List UInt8)(i:Nat)(w:Int)(m:Nat):List Nat→BS→BS
 |[],s=>s
 |j::r,s=>if bgo i w m j s then brun l i w m r (bup l i m j s)else s

theorem lcp_ne (l:List UInt8):∀(m i j b:Nat),bat l (i+b:Nat)≠bat l (j+b:Nat)→lcp l i j m≤b
 |0,_,_,_,_=>Nat.zero_le _
 |m+1,i,j,b,h=>by
  unfold lcp
  split
  ·rename_i e
   cases b with
   |zero=>exact absurd e h
   |succ b =>
    have:=lcp_ne l m (i+1) (j+1) b (by rw[show i+1+b=i+(b+1)by omega,show j+1+b=j+(b+1)by omega];exact h)
    omega
  ·omega

inductive BH (l:List UInt8)(i:Nat)(w:Int)(m n5 n6 n7 n8 n11 n12:Nat)(h:SH):BS→SH→Prop
 |nil (best:Nat):BH l i w m n5 n6 n7 n8 n11 n12 h (best,[]) ((n12,⟨[I best],false⟩)::(n11,⟨[.slice none 0 0],false⟩)::(n8,⟨[I m],false⟩)::(n7,⟨[I w],false⟩)::(n6,⟨[I i],false⟩)::(n5,⟨[S l],false⟩)::h)
 |some (best:Nat) (cs:List (Int × Int)) (A:Nat):BH l i w m n5 n6 n7 n8 n11 n12 h (best,cs)
   ((n12,⟨[I best],false⟩)::(n11,⟨[cpS A cs],false⟩)::(n8,⟨[I m],false⟩)::(n7,⟨[I w],false⟩)::(n6,⟨[I i],false⟩)::(n5,⟨[S l],false⟩)::(A,cpB cs false)::h)

theorem BH.pick {l:List UInt8}{i:Nat}{w:Int}{m n5 n6 n7 n8 n11 n12:Nat}{h h1:SH}{s:BS}{p:SH}(b:BH l i w m n5 n6 n7 n8 n11 n12 h s p){A:Nat}{g:Blk}(hp:Pick h A g h1):∃p1,Pick p A g p1:=by
 cases b with
 |nil=>exact⟨_,hp.tail.tail.tail.tail.tail.tail⟩
 |some=>exact⟨_,hp.tail.tail.tail.tail.tail.tail.tail⟩

theorem bst_stop {l:List UInt8}{i:Nat}{w:Int}{m j:Nat}{s:BS}(h:¬bgo i w m j s):nbst l i w m j s=s:=if_neg h
theorem bst_same {l:List UInt8}{i:Nat}{w:Int}{m j:Nat}{s:BS}(h:lcp l j i m≤s.1):nbst l i w m j s=s:=by
 unfold nbst bup;split
 ·rw[if_neg (by omega)]
 ·rfl
theorem bst_new {l:List UInt8}{i:Nat}{w:Int}{m j best:Nat}{cs:List (Int × Int)}(hg:bgo i w m j (best,cs))(h:best<lcp l j i m):nbst l i w m j (best,cs)=(lcp l j i m,cs++[((lcp l j i m:Int),(i:Int)-(j:Int))]):=by
 unfold nbst bup;rw[if_pos hg,if_pos h]

theorem better1_any (l:List UInt8)(i:Nat)(w:Int)(m n5 n6 n7 n8 n11 n12 j:Nat)(h:SH)(s:BS)(p:SH)(hb:BH l i w m n5 n6 n7 n8 n11 n12 h s p)(h5:l.length≤4096)(hj:j<i)(him:i+m≤l.length)(hs:s.2.length≤4096)(hw:-4611686018427387904≤w) :
  SRun Tryz.prog 274 [I j,gptr n6 0 1,gptr n7 0 1,gptr n12 0 1,gptr n8 0 1,gptr n5 0 1,gptr n11 0 1] p
   fun r q=>r=B (decide (bgo i w m j s))∧BH l i w m n5 n6 n7 n8 n11 n12 h (nbst l i w m j s) q:=by
 cases hb with
 |nil best =>
  refine w_body7 Tryz.func274 rfl rfl ?_
  repeat'(first|apply zF|apply zB|apply zE|refine jr ?_|refine jg ?_ ?_|(apply o_ar zC;exact rfl;exact rfl)|(apply zM zC;(iterate 3 exact rfl);exact pk)|(apply zX zC;(iterate 4 exact rfl);exact up)|(apply yT zC;exact rfl;exact rfl;(focus first|with_reducible exact pl278);exact rfl;(focus repeat(first|exact BuildR.nil|(apply BuildR.one;exact rfl;exact rfl;(first|(focus(repeat(first|exact SetAt.zero|apply SetAt.succ));done)))));exact rfl)|(apply zT zC;(iterate 5 exact rfl);decide;exact rfl;decide;(focus repeat(first|exact CatR.last rfl));exact rfl)|(apply o_append_nil zC;(iterate 5 exact rfl);exact⟨by decide⟩;exact pk)|refine jq ?_ (c:=by exact⟨_,common_int _ _ _ _ _ (by omega) (by omega) (by omega) (by omega) (by omega) (by omega),jN⟩)|refine jw ?_|refine jk ?_|(apply o_guardF;(iterate 3 exact rfl);all_goals intro hc)|(apply yB;exact rfl)|(apply w_ifN;exact rfl;all_goals intro hc)|(apply w_if;exact rfl;all_goals intro hc)|apply zA|apply zP|apply zI|apply zN|exact jV|exact jL|exact jW|exact jE|((with_reducible apply Se.mk);first|(focus(repeat(first|exact SetAt.zero));done))|exact jU|exact True.intro|intro A|exact rfl)
  ·have hg:¬bgo i w m j (best,[]):=fun h=>h (.inr (by show m≤best;omega))
   exact jF (k:=by rw[decide_eq_false hg,bst_stop hg];exact⟨rfl,.nil _⟩)
  ·have hg:bgo i w m j (best,[]):=by unfold bgo;show ¬(_∨m≤best);omega
   exact jF (k:=by rw[decide_eq_true hg,bst_same (lcp_ne l m j i best (by push_cast;assumption))];exact⟨rfl,.nil _⟩)
  ·have hg:bgo i w m j (best,[]):=by unfold bgo;show ¬(_∨m≤best);omega
   have hlt:best<lcp l j i m:=by exact_mod_cast hc
   (apply zL;(exact(show ResS _ _ _ _ [_] from⟨rfl,trivial⟩));(focus rw[decide_eq_true hg,bst_new hg hlt];exact⟨rfl,.some _ [_] A⟩);(focus repeat(first|with_reducible exact Take.nil|with_reducible apply Take.c|((with_reducible apply Take.cE);first|exact rfl|(apply blkE;(focus first|exact rfl|exact yI rfl|exact yO rfl|exact congrArg (fun v=>[v]) (gslE rfl rfl (by first|rfl|exact ‹_›|omega|(simp ;first|done|omega)) (by first|rfl|exact ‹_›|omega|(simp ;first|done|omega)) rfl))))|with_reducible apply Take.drop)))
  ·have hg:bgo i w m j (best,[]):=by unfold bgo;show ¬(_∨m≤best);omega
   have hle:lcp l j i m≤best:=by
    have:¬best<lcp l j i m:=by exact_mod_cast hc
    omega
   exact jF (k:=by rw[decide_eq_true hg,bst_same hle];exact⟨rfl,.nil _⟩)
  ·have hg:¬bgo i w m j (best,[]):=fun h=>h (.inl (by assumption))
   exact jF (k:=by rw[decide_eq_false hg,bst_stop hg];exact⟨rfl,.nil _⟩)
 |some best cs Ac =>
  have hs':cs.length≤4096:=hs
  refine w_body7 Tryz.func274 rfl rfl ?_
  repeat'(first|apply zF|apply zB|apply zE|refine jr ?_|refine jg ?_ ?_|(apply o_ar zC;exact rfl;exact rfl)|(apply zM zC;(iterate 3 exact rfl);exact pk)|(apply zX zC;(iterate 4 exact rfl);exact up)|(apply yT zC;exact rfl;exact rfl;(focus first|with_reducible exact pl278);exact rfl;(focus repeat(first|exact BuildR.nil|(apply BuildR.one;exact rfl;exact rfl;(first|(focus(repeat(first|exact SetAt.zero|apply SetAt.succ));done)))));exact rfl)|(apply zT zC;(iterate 5 exact rfl);decide;exact rfl;decide;(focus repeat(first|exact CatR.last rfl));exact rfl)|(apply o_append zC;(iterate 5 exact rfl);exact⟨by decide⟩;exact up;exact pk)|refine jq ?_ (c:=by exact⟨_,common_int _ _ _ _ _ (by omega) (by omega) (by omega) (by omega) (by omega) (by omega),jN⟩)|refine jw ?_|refine jk ?_|(apply o_guardF;(iterate 3 exact rfl);all_goals intro hc)|(apply yB;exact rfl)|(apply w_ifN;exact rfl;all_goals intro hc)|(apply w_if;exact rfl;all_goals intro hc)|apply zA|apply zP|apply zI|apply zN|exact jV|((with_reducible apply Ln.mk);first|rfl|omega|(simp ;first|done|omega))|exact jW|exact jE|((with_reducible apply Se.mk);first|(focus(repeat(first|exact SetAt.zero));done))|exact jU|exact True.intro|intro A|exact rfl)
  ·have hg:¬bgo i w m j (best,cs):=fun h=>h (.inr (by show m≤best;omega))
   exact jF (k:=by rw[decide_eq_false hg,bst_stop hg];exact⟨rfl,.some _ _ Ac⟩)
  ·have hg:bgo i w m j (best,cs):=by unfold bgo;show ¬(_∨m≤best);omega
   exact jF (k:=by rw[decide_eq_true hg,bst_same (lcp_ne l m j i best (by push_cast;assumption))];exact⟨rfl,.some _ _ Ac⟩)
  ·have hg:bgo i w m j (best,cs):=by unfold bgo;show ¬(_∨m≤best);omega
   have hlt:best<lcp l j i m:=by exact_mod_cast hc
   (apply zL;(exact(show ResS _ _ _ _ [_] from⟨rfl,trivial⟩));(focus rw[decide_eq_true hg,bst_new hg hlt];exact⟨rfl,.some _ _ Ac⟩);(focus repeat(first|with_reducible exact Take.nil|with_reducible apply Take.c|((with_reducible apply Take.cE);first|exact rfl|(apply blkE;(focus first|exact rfl|exact yI rfl|exact yO rfl|exact congrArg (fun v=>[v]) (gslE rfl rfl (by first|rfl|exact ‹_›|omega|(simp ;first|done|omega)) (by first|rfl|exact ‹_›|omega|(simp ;first|done|omega)) rfl))))|with_reducible apply Take.drop)))
  ·have hg:bgo i w m j (best,cs):=by unfold bgo;show ¬(_∨m≤best);omega
   have hle:lcp l j i m≤best:=by
    have:¬best<lcp l j i m:=by exact_mod_cast hc
    omega
   exact jF (k:=by rw[decide_eq_true hg,bst_same hle];exact⟨rfl,.some _ _ Ac⟩)
  ·have hg:¬bgo i w m j (best,cs):=fun h=>h (.inl (by assumption))
   exact jF (k:=by rw[decide_eq_false hg,bst_stop hg];exact⟨rfl,.some _ _ Ac⟩)

theorem brun_len {l:List UInt8}{i:Nat}{w:Int}{m:Nat}:∀{js:List Nat} {s:BS},(brun l i w m js s).2.length≤s.2.length+js.length
 |[],s=>by simp[brun]
 |j::r,s=>by
  unfold brun
  split
  ·have h1:=brun_len (l:=l) (i:=i) (w:=w) (m:=m) (js:=r) (s:=bup l i m j s)
   have h2:(bup l i m j s).2.length≤s.2.length+1:=by unfold bup;split <;> simp
   simp only[List.length_cons];omega
  ·simp

def down :Nat→List Nat
 |0=>[]
 |n+1=>n::down n
theorem down_len :∀n,(down n).length=n
 |0=>rfl
 |n+1=>by simp[down,down_len n]

theorem Candidates1_any (l:List UInt8)(i:Nat)(w:Int)(m n5 n6 n7 n8 n11 n12 n:Nat)(h:SH)(s:BS)(p:SH)(hb:BH l i w m n5 n6 n7 n8 n11 n12 ((n,⟨[I i],false⟩)::h) s p)(h5:l.length≤4096)(hi:i≤4096)(him:i+m≤l.length)(hs:s.2.length=0)(hw:-4611686018427387904≤w) :
  SRun Tryz.prog 240 [.func (.func 274) ⟨[]⟩ ⟨[gptr n6 0 1,gptr n7 0 1,gptr n12 0 1,gptr n8 0 1,gptr n5 0 1,gptr n11 0 1]⟩,gptr n 0 1] p
   fun r q=>BH l i w m n5 n6 n7 n8 n11 n12 ((n,⟨[I i],false⟩)::h) (brun l i w m (down i) s) q:=by
 refine zY Tryz.func240 rfl rfl ?_
 obtain⟨p1,hp1⟩:=hb.pick Pick.head
 repeat'(first|apply zF|apply zB|apply zE|refine jg ?_ ?_|(apply o_ar zC;exact rfl;exact rfl)|(apply zM zC;(iterate 3 exact rfl);exact pk)|apply zA|apply zH|exact jS|exact jL|exact jW|exact jE|exact True.intro|exact rfl)
 refine zZ (S:=Nat × BS × SH) (fun x=>[(0,.func (.func 274) ⟨[]⟩ ⟨[gptr n6 0 1,gptr n7 0 1,gptr n12 0 1,gptr n8 0 1,gptr n5 0 1,gptr n11 0 1]⟩),(1,gptr n 0 1),(3,I (x.1-1))]) (fun x=>x.2.2)
  (fun x=>x.1≤i∧BH l i w m n5 n6 n7 n8 n11 n12 ((n,⟨[I i],false⟩)::h) x.2.1 x.2.2∧brun l i w m (down i) s=brun l i w m (down x.1) x.2.1∧x.2.1.2.length+x.1≤4096) (fun x=>x.1) (i,s,p) ⟨Nat.le_refl _,hb,rfl,by show s.2.length+i≤_;omega⟩ jB jK ?_
 rintro⟨k,s1,p2⟩ ⟨hk,hb1,he,hl⟩
 simp only at hk hb1 he hl
 cases k with
 |zero =>
  repeat'(first|apply zF|apply zB|apply zE|refine jg ?_ ?_|refine jk ?_|(apply zS;exact rfl)|apply zA|apply zK|apply zJ|apply zV|exact jS|fail)
  (apply s_finN;(exact(show ResS _ _ _ _ [] from trivial));(focus rw[he];exact hb1);(focus repeat with_reducible first|exact Take.nil|apply Take.c|apply Take.drop))
 |succ q =>
  have e1:((q+1:Nat):Int)-1=q:=by omega
  show SWp _ _ _ _ [_,_,(3,I (((q+1:Nat):Int)-1))] p2
  rw[e1]
  repeat'(first|apply zF|apply zB|apply zE|refine jg ?_ ?_|(apply o_ar zC;exact rfl;exact rfl)|(refine jc ?_ (c:=by exact⟨_,better1_any l i w m n5 n6 n7 n8 n11 n12 q _ s1 p2 hb1 h5 (by omega) him (by omega) hw,jN⟩);rintro _ _ ⟨rfl,hb2⟩)|refine jw ?_|(apply w_ifN;exact rfl;all_goals intro hc)|apply zA|apply zK|apply zG|apply zJ|apply zI|apply zV|apply zH|exact jS|exact jW|fail)
  ·have hg:bgo i w m q s1:=hc
   refine⟨(q,bup l i m q s1,_),⟨by show q≤i;omega,by rw[←show nbst l i w m q s1=bup l i m q s1 from if_pos hg];exact hb2,?_,?_⟩,by show q<q+1;omega,jB,jK⟩
   ·rw[he];exact if_pos hg
   ·have h2:(bup l i m q s1).2.length≤s1.2.length+1:=by unfold bup;split <;> simp
    show(bup l i m q s1).2.length+q≤4096;omega
  ·have hg:¬bgo i w m q s1:=fun h=>h hc
   (apply s_finN;(exact(show ResS _ _ _ _ [] from trivial));(focus rw[he,show brun l i w m (down (q+1)) s1=s1 from if_neg hg,←bst_stop hg];exact hb2);(focus repeat with_reducible first|exact Take.nil|apply Take.c|apply Take.drop))

def bfind (l:List UInt8)(i:Nat)(w m:Int)(js:List Nat):List (Int × Int):=(brun l i w (min m ((l.length:Int)-i)).toNat js (1,[])).2

def IsCs (h:SH)(cs:List (Int × Int))(r:Value)(q:SH):Prop:=(cs=[]∧r=.slice none 0 0∧q=h)∨∃A,r=cpS A cs∧q=(A,cpB cs false)::h

theorem better_any (l:List UInt8)(i:Nat)(w m:Int)(js:List Nat)(f:FuncId)(fc:Array Value)(h:SH)(h5:l.length≤4096)(hi:i≤l.length)(hm:0≤m)(hm2:m≤4611686018427387904)(he:enters Tryz.prog f=true)
  (hit:∀n5 n6 n7 n8 n11 n12 p,BH l i w (min m ((l.length:Int)-i)).toNat n5 n6 n7 n8 n11 n12 h (1,[]) p →
   SRun Tryz.prog f ((#[]:Array Value).toList++[.func (.func 274) ⟨[]⟩ ⟨[gptr n6 0 1,gptr n7 0 1,gptr n12 0 1,gptr n8 0 1,gptr n5 0 1,gptr n11 0 1]⟩]++fc.toList) p
    fun r q=>BH l i w (min m ((l.length:Int)-i)).toNat n5 n6 n7 n8 n11 n12 h (brun l i w (min m ((l.length:Int)-i)).toNat js (1,[])) q) :
  SRun Tryz.prog 239 [S l,I i,I w,I m,.func (.func f) #[] fc] h (IsCs h (bfind l i w m js)):=by
 refine w_body5 Tryz.func239 rfl rfl ?_
 obtain⟨mm,hmm⟩:∃mm:Nat,min m ((l.length:Int)-i)=mm:=⟨(min m ((l.length:Int)-i)).toNat,by omega⟩
 repeat'(first|apply zF|apply zB|apply zE|refine jg ?_ ?_|(apply o_ar zC;exact rfl;exact rfl)|(apply o_min;iterate 3 exact rfl)|(apply zM zC;(iterate 3 exact rfl);exact pk)|(apply zX zC;(iterate 4 exact rfl);exact up)|refine jy ?_|refine jx ?_|(apply o_makeFunc;iterate 3 exact rfl)|apply zA|exact jS|exact jL|exact jW|exact jE|((with_reducible apply Se.mk);first|(focus(repeat(first|exact SetAt.zero));done))|exact True.intro|intro A|exact rfl)
 rw[hmm]at hit ⊢
 simp only[Int.toNat_natCast]at hit
 have hbf:bfind l i w m js=(brun l i w mm js (1,[])).2:=by unfold bfind;rw[hmm];rfl
 rw[hbf]
 (apply zD;exact rfl;exact rfl;exact he;exact rfl;exact⟨_,hit _ _ _ _ _ _ _ (.nil 1),Take.nil⟩)
 intro r q hb2
 generalize hs:brun l i w mm js (1,[])=s at hb2 ⊢
 cases hb2 with
 |nil best =>
  repeat'(first|apply zF|apply zB|apply zE|refine jg ?_ ?_|(apply zM zC;(iterate 3 exact rfl);exact pk)|apply zA|apply zN|exact jS|exact jL|exact jE|exact True.intro|exact rfl)
  exact jF (k:=by exact .inl ⟨rfl,rfl,rfl⟩)
 |some best cs A =>
  repeat'(first|apply zF|apply zB|apply zE|refine jg ?_ ?_|(apply zM zC;(iterate 3 exact rfl);exact pk)|apply zA|apply zN|exact jS|exact jL|exact jE|exact True.intro|exact rfl)
  exact jF (k:=by exact .inr ⟨A,rfl,rfl⟩)

def cands (l:List UInt8)(i w m:Int):List (Int × Int):=if vld w m∧0≤i∧i≤l.length∧l.length≤4096 then bfind l i.toNat w m (down i.toNat)else []

theorem Candidates_any (l:List UInt8)(i w m:Int)(h:SH)(h5:l.length≤4611686018427387904) :
  SRun Tryz.prog 208 [S l,I i,I w,I m] h (IsCs h (cands l i w m)):=by
 by_cases hc0:vld w m∧0≤i∧i≤l.length∧l.length≤4096
 ·have hv:=hc0.1
  obtain⟨n,rfl⟩:=Int.eq_ofNat_of_zero_le hc0.2.1
  have hc1:=hc0.2.2
  have hcs:cands l n w m=bfind l n w m (down n):=if_pos hc0
  rw[hcs]
  refine w_body4 Tryz.func208 rfl rfl ?_
  clear hc0
  repeat'(first|apply zF|apply zB|apply zE|refine jg ?_ ?_|(apply o_not;exact rfl;exact rfl)|(apply zM zC;(iterate 3 exact rfl);exact pk)|refine jx ?_|(apply o_makeFunc;iterate 3 exact rfl)|refine jq ?_ (c:=by exact⟨_,valid_any _ _ _,jN⟩)|(refine jc ?_ (c:=by exact⟨_,better_any l n w m (down n) _ _ _ (by omega) (by omega) (by omega) (by omega) rfl (fun n5 n6 n7 n8 n11 n12 p hb=>Candidates1_any l n w _ n5 n6 n7 n8 n11 n12 _ _ (1,[]) p hb (by omega) (by omega) (by omega) rfl (by omega)),jN⟩);rintro _ _ hq)|refine jw ?_|refine ji ?_|refine jf ?_|apply zA|apply zI|apply zN|exact jS|exact jL|exact jE|exact True.intro|intro A|exact rfl)
  rcases hq with⟨e,rfl,rfl⟩|⟨A',rfl,rfl⟩
  ·exact jF (k:=by exact .inl ⟨e,rfl,rfl⟩)
  ·exact jF (k:=by exact .inr ⟨A',rfl,rfl⟩)
 ·have hcs:cands l i w m=[]:=if_neg hc0
  rw[hcs]
  refine w_body4 Tryz.func208 rfl rfl ?_
  repeat'(first|apply zF|apply zB|apply zE|refine jg ?_ ?_|(apply o_not;exact rfl;exact rfl)|(apply zM zC;(iterate 3 exact rfl);exact pk)|refine jx ?_|refine jq ?_ (c:=by exact⟨_,valid_any _ _ _,jN⟩)|refine jw ?_|refine jk ?_|(apply o_guardFN;(iterate 3 exact rfl);all_goals intro hc)|(apply o_guardF;(iterate 3 exact rfl);all_goals intro hc)|(apply yB;exact rfl)|refine jd ?_|apply zA|apply zP|apply zN|exact jS|exact jL|exact jE|exact True.intro|intro A|exact rfl)
  all_goals first|exact jF (k:=by exact .inl ⟨rfl,rfl,rfl⟩)|exact absurd ⟨by assumption,by omega,by omega,by omega⟩ hc0

theorem cands_le (l:List UInt8)(i w m:Int):(cands l i w m).length≤4096:=by
 unfold cands
 split
 ·unfold bfind
  have h1:=brun_len (l:=l) (i:=i.toNat) (w:=w) (m:=(min m ((l.length:Int)-i.toNat)).toNat) (js:=down i.toNat) (s:=(1,[]))
  rw[down_len]at h1
  simp only[List.length_nil,Nat.zero_add]at h1
  omega
 ·simp


theorem lcp_min (l:List UInt8):∀(a b i j:Nat),lcp l i j (min a b)=min (lcp l i j a) b
 |0,b,i,j=>by simp[lcp]
 |a+1,0,i,j=>by simp[lcp]
 |a+1,b+1,i,j=>by
  rw[show min (a+1) (b+1)=min a b+1 by omega]
  unfold lcp
  split
  ·rw[lcp_min l a b (i+1) (j+1)];omega
  ·simp

theorem atd_eq (l:List UInt8)(i d:Nat)(m:Int)(hd:1≤d)(hdi:d≤i)(hi:i≤l.length)(hm:0≤m) :
  atd l i d m=if lcp l (i-d) i (min m ((l.length:Int)-i)).toNat<2 then 0 else(lcp l (i-d) i (min m ((l.length:Int)-i)).toNat:Int):=by
 have e:min (com l ((i:Int)-d) i:Int) m=(lcp l (i-d) i (min m ((l.length:Int)-i)).toNat:Int):=by
  unfold com
  rw[if_pos (by omega),show((i:Int)-d).toNat=i-d by omega,show((i:Int)).toNat=i by omega,show((l.length:Int)-max ((i:Int)-d) i).toNat=l.length-i by omega]
  have:=lcp_min l (l.length-i) m.toNat (i-d) i
  rw[show(min m ((l.length:Int)-i)).toNat=min (l.length-i) m.toNat by omega,this]
  omega
 unfold atd
 rw[if_neg (by omega),e]
 split
 ·rw[if_pos (by omega)]
 ·rw[if_neg (by omega)]

theorem rc_pos (l:List UInt8)(i m:Int)(hm:0≤m):∀d,0≤(rc l i m d).2
 |0=>Int.le_refl _
 |d+1=>by
  have:=rc_pos l i m hm d
  unfold rc;split
  ·show 0≤atd l i (d+1) m;omega
  ·exact this
theorem atd_range (l:List UInt8)(i d m:Int):atd l i d m=0∨2≤atd l i d m:=by unfold atd;repeat' split <;> omega

theorem rc_succ (l:List UInt8)(i m:Int)(d:Nat):rc l i m (d+1)=if(rc l i m d).2<atd l i (d+1) m then((rc l i m d).1++[(atd l i (d+1) m,(d:Int)+1)],atd l i (d+1) m)else rc l i m d:=rfl
theorem rc_stable (l:List UInt8)(i:Nat)(m:Int)(hi:i≤l.length)(hm:0≤m)(d:Nat)(h:min m ((l.length:Int)-i)≤max 1 (rc l i m d).2):∀k,d+k≤i→rc l i m (d+k)=rc l i m d
 |0,_=>rfl
 |k+1,hk=>by
  have ih:=rc_stable l i m hi hm d h k (by omega)
  rw[show d+(k+1)=d+k+1 by omega]
  have hp:=rc_pos l i m hm d
  have ha:=atd_eq l i (d+k+1) m (by omega) (by omega) hi hm
  have hle:=lcp_le l (min m ((l.length:Int)-i)).toNat (i-(d+k+1)) i
  have e:((d+k:Nat):Int)+1=((d+k+1:Nat):Int):=by omega
  rw[rc_succ,ih,e,ha,if_neg]
  split <;> omega

theorem brun_rc (l:List UInt8)(i:Nat)(w m:Int)(hi:i≤l.length)(hm:2≤m)(hw:1≤w):∀(k:Nat) (s:BS),k≤i→((i-k:Nat):Int)≤w→s.2=(rc l i m (i-k)).1→(s.1:Int)=max 1 (rc l i m (i-k)).2 →
  (brun l i w (min m ((l.length:Int)-i)).toNat (down k) s).2=(rc l i m (min w i).toNat).1
 |0,s,hk,hkw,h1,h2=>by
  show s.2=_
  rw[h1,show(min w (i:Int)).toNat=i-0 by omega]
 |k+1,s,hk,hkw,h1,h2=>by
  have ha:=atd_eq l i (i-k) m (by omega) (by omega) hi (by omega)
  rw[show i-(i-k)=k by omega]at ha
  have hstep:rc l i m (i-k)=if(rc l i m (i-(k+1))).2<atd l i (i-k:Nat) m then((rc l i m (i-(k+1))).1++[(atd l i (i-k:Nat) m,((i-k:Nat):Int))],atd l i (i-k:Nat) m)else rc l i m (i-(k+1)):=by
   have e:i-k=i-(k+1)+1:=by omega
   have e2:((i-(k+1):Nat):Int)+1=((i-k:Nat):Int):=by omega
   rw[e,rc_succ,e2,e]
  have hp:=rc_pos l i m (by omega) (i-(k+1))
  by_cases hg:bgo i w (min m ((l.length:Int)-i)).toNat k s
  ·show(if bgo i w (min m ((l.length:Int)-i)).toNat k s then brun l i w (min m ((l.length:Int)-i)).toNat (down k) (bup l i (min m ((l.length:Int)-i)).toNat k s)else s).2=_
   rw[if_pos hg]
   have hg':¬(w<(i:Int)-k∨(min m ((l.length:Int)-i)).toNat≤s.1):=hg
   refine brun_rc l i w m hi hm hw k _ (by omega) (by omega) ?_ ?_
   ·unfold bup
    rw[hstep]
    split
    ·rw[if_pos (by rw[ha,if_neg (by omega)];omega),h1,ha,if_neg (by omega)]
     show _++[(_,(i:Int)-(k:Int))]=_++[(_,((i-k:Nat):Int))]
     rw[show((i-k:Nat):Int)=(i:Int)-k by omega]
    ·rw[if_neg (by rw[ha];split <;> omega)];exact h1
   ·unfold bup
    rw[hstep]
    split
    ·rw[if_pos (by rw[ha,if_neg (by omega)];omega),ha,if_neg (by omega)]
     show((lcp l k i _:Nat):Int)=max 1 ((lcp l k i _:Nat):Int)
     omega
    ·rw[if_neg (by rw[ha];split <;> omega)];exact h2
  ·show(if bgo i w (min m ((l.length:Int)-i)).toNat k s then brun l i w (min m ((l.length:Int)-i)).toNat (down k) (bup l i (min m ((l.length:Int)-i)).toNat k s)else s).2=_
   rw[if_neg hg]
   have hg':w<(i:Int)-k∨(min m ((l.length:Int)-i)).toNat≤s.1:=Classical.not_not.1 hg
   rw[h1]
   by_cases hw2:w<(i:Int)-k
   ·rw[show(min w (i:Int)).toNat=i-(k+1)by omega]
   ·have:=rc_stable l i m hi (by omega) (i-(k+1)) (by omega) ((min w (i:Int)).toNat-(i-(k+1))) (by omega)
    rw[show i-(k+1)+((min w (i:Int)).toNat-(i-(k+1)))=(min w (i:Int)).toNat by omega]at this
    rw[this]

theorem cands_eq (l:List UInt8)(i w m:Int):cands l i w m=rcands l i w m:=by
 unfold cands rcands
 split
 ·rename_i h
  obtain⟨⟨h1,h2,h3,h4⟩,h5,h6,h7⟩:=h
  obtain⟨i,rfl⟩:=Int.eq_ofNat_of_zero_le h5
  have:=brun_rc l i w m (by omega) h3 h1 i (1,[]) (Nat.le_refl _) (by omega) (by simp[rc]) (by simp only[Nat.sub_self,rc];rfl)
  exact this
 ·rfl


theorem rc_in (l:List UInt8)(i m:Int):∀d,0≤(rc l i m d).2∧∀c∈(rc l i m d).1,∃e:Nat,1≤e∧e≤d∧c=(atd l i e m,(e:Int))∧0<c.1
 |0=>⟨Int.le_refl _,fun c h=>nomatch h⟩
 |d+1=>by
  obtain⟨h1,h2⟩:=rc_in l i m d
  unfold rc
  split
  ·rename_i hlt
   refine⟨by show 0≤atd l i (d+1) m;omega,fun c hc=>?_⟩
   rcases List.mem_append.1 hc with hc|hc
   ·obtain⟨e,g1,g2,g3⟩:=h2 c hc
    exact⟨e,g1,by omega,g3⟩
   ·obtain rfl:=List.mem_singleton.1 hc
    exact⟨d+1,by omega,Nat.le_refl _,by push_cast;rfl,by show 0<atd l i (d+1) m;omega⟩
  ·exact⟨h1,fun c hc=>let ⟨e,g1,g2,g3⟩:=h2 c hc;⟨e,g1,by omega,g3⟩⟩
theorem cands_in {l:List UInt8}{i:Nat}{w:Int}{c:Int × Int}(h:c∈cands l i w 273):2≤c.1∧c.1≤273∧1≤c.2∧c.2≤4096∧(i:Int)+c.1≤l.length:=by
 rw[cands_eq]at h
 unfold rcands at h
 split at h
 ·rename_i hv
  obtain⟨e,h1,h2,rfl,h3⟩:=(rc_in l i 273 _).2 c h
  have hcm:(com l ((i:Int)-e) i:Int)≤(l.length:Int)-i:=by
   have:=lcp_le l (l.length-max ((i:Int)-e) i).toNat ((i:Int)-e).toNat (i:Int).toNat
   unfold com
   split <;> omega
  dsimp only at h3 ⊢
  unfold atd at h3 ⊢
  by_cases g1:(e:Int)<1∨(i:Int)<e
  ·rw[if_pos g1]at h3;omega
  ·rw[if_neg g1]at h3 ⊢
   by_cases g2:min (com l ((i:Int)-e) i:Int) 273<2
   ·rw[if_pos g2]at h3;omega
   ·rw[if_neg g2];omega
 ·cases h
def trN (d:Int)(lo:Nat):Nat→List Pc
 |0=>[]
 |n+1=>if lo<n+1 then(((n+1:Nat):Int),d,0)::trN d lo n else []
def shr (cs:List (Int × Int))(k:Nat):Nat:=if 0<k then cs[k-1]!.1.toNat else 1
def trK (cs:List (Int × Int)):Nat→List Pc
 |0=>[]
 |k+1=>trN cs[k]!.2 (shr cs k) cs[k]!.1.toNat++trK cs k
def litP (l:List UInt8)(i:Nat):Pc:=(1,0,bat l i)
def triesL (l:List UInt8)(i:Nat)(w:Int):List Pc:=trK (cands l i w 273) (cands l i w 273).length++[litP l i]
def runT (c:Cst)(i:Nat)(ts:List Pc)(s:Bool × List St):Bool × List St:=ts.foldl (tryS c i) s
def rowT (c:Cst)(l:List UInt8)(w:Int)(i:Nat)(T:List St):List St:=(runT c i (triesL l i w) (false,T)).2
def st0 :St:=(0,0,0,0,0)
def parT (c:Cst)(l:List UInt8)(w:Int):Nat→List St
 |0=>List.replicate (l.length+1) st0
 |j+1=>rowT c l w (l.length-(j+1)) (parT c l w j)
def walkT (T:List St)(n:Nat):Nat→Nat→List Pc
 |0,_=>[]
 |f+1,i=>if i<n then T[i]!.2.2::walkT T n f (i+T[i]!.2.2.1.toNat)else []
def parse (c:Cst)(l:List UInt8)(w:Int):List Pc × Int :=
 if vC c∧1≤w∧w≤4096 then(if 4096<l.length then([],9)else(walkT (parT c l w l.length) l.length l.length 0,0))else([],1)
theorem trN_in {d:Int}{lo:Nat}:∀{n:Nat} {t:Pc},t∈trN d lo n→(lo:Int)<t.1∧t.1≤n∧t.2.1=d∧t.2.2=0
 |0,_,h=>nomatch h
 |n+1,t,h=>by
  unfold trN at h
  split at h
  ·rcases List.mem_cons.1 h with rfl|h
   ·exact⟨by show(lo:Int)<((n+1:Nat):Int);omega,Int.le_refl _,rfl,rfl⟩
   ·have:=trN_in h;exact⟨this.1,by omega,this.2.2⟩
  ·cases h
abbrev fits (l:List UInt8)(i:Nat)(t:Pc):Prop:=vP t∧(i:Int)+t.1≤l.length∧1≤t.1
theorem shr_pos {l:List UInt8}{i:Nat}{w:Int}{k:Nat}(h:k<(cands l i w 273).length):1≤shr (cands l i w 273) k:=by
 unfold shr
 split
 ·have:=cands_in (bang_mem (show k-1<(cands l i w 273).length by omega));omega
 ·omega
theorem trN_fits {l:List UInt8}{i:Nat}{w:Int}{k:Nat}(h:k<(cands l i w 273).length){t:Pc}(ht:t∈trN (cands l i w 273)[k]!.2 (shr (cands l i w 273) k) (cands l i w 273)[k]!.1.toNat):fits l i t:=by
 have h1:=cands_in (bang_mem h)
 have h2:=shr_pos h
 have h3:=trN_in ht
 exact⟨.inr ⟨by omega,by omega,by omega,by omega,h3.2.2.2⟩,by omega,by omega⟩
theorem trK_fits {l:List UInt8}{i:Nat}{w:Int}:∀{k:Nat},k≤(cands l i w 273).length→∀t∈trK (cands l i w 273) k,fits l i t
 |0,_,_,h=>nomatch h
 |k+1,hk,t,h=>by
  rcases List.mem_append.1 h with h|h
  ·exact trN_fits (by omega) h
  ·exact trK_fits (by omega) t h
theorem lit_fits {l:List UInt8}{i:Nat}(h:i<l.length):fits l i (litP l i):=⟨.inl ⟨rfl,rfl⟩,by show(i:Int)+1≤_;omega,Int.le_refl _⟩
def TOk (n:Nat)(T:List St):Prop:=T.length=n+1∧∀j,j≤n→0≤T[j]!.1∧T[j]!.1≤27000*((n:Int)-j)∧0≤T[j]!.2.1∧T[j]!.2.1≤(n:Int)-j
theorem lzset_bang {α:Type}[Inhabited α]{l:List α}{i j:Nat}{x:α}(h:i<l.length):(l.set i x)[j]! = if j=i then x else l[j]!:=by
 simp only[getElem!_def,List.getElem?_set]
 by_cases e:i=j
 ·subst e;rw[if_pos rfl,if_pos h,if_pos rfl]
 ·rw[if_neg e,if_neg (Ne.symm e)]
theorem tryS_ok {c:Cst}{l:List UInt8}{i:Nat}{s:Bool × List St}{t:Pc}(hc:vC c)(h:TOk l.length s.2)(ht:fits l i t):TOk l.length (tryS c i s t).2:=by
 unfold tryS
 split
 ·refine⟨by rw[List.length_set];exact h.1,fun j hj=>?_⟩
  rw[lzset_bang (by have:=h.1;omega)]
  split
  ·rename_i e;subst e
   have h1:=h.2 (j+t.1.toNat) (by omega)
   have h2:=price_in hc ht.1
   unfold nxt;dsimp only
   omega
  ·exact h.2 j hj
 ·exact h
theorem runT_ok {c:Cst}{l:List UInt8}{i:Nat}(hc:vC c):∀{ts:List Pc} {s:Bool × List St},TOk l.length s.2→(∀t∈ts,fits l i t)→TOk l.length (runT c i ts s).2
 |[],_,h,_=>h
 |t::ts,s,h,ht=>runT_ok hc (ts:=ts) (tryS_ok hc h (ht t (by simp))) (fun x hx=>ht x (by simp[hx]))
theorem runT_app (c:Cst)(i:Nat)(a b:List Pc)(s:Bool × List St):runT c i (a++b) s=runT c i b (runT c i a s):=List.foldl_append ..

theorem tryS_at {c:Cst}{l:List UInt8}{i:Nat}{s:Bool × List St}{t:Pc}(hl:s.2.length=l.length+1)(hi:i<l.length)(ht:fits l i t)(h:s.1=true→fits l i s.2[i]!.2.2):(tryS c i s t).1=true∧fits l i (tryS c i s t).2[i]!.2.2:=by
 unfold tryS
 split
 ·refine⟨rfl,?_⟩
  dsimp only
  rw[lzset_bang (by omega),if_pos rfl];exact ht
 ·rename_i hn
  have:s.1=true:=by cases hs:s.1 <;> simp_all
  exact⟨this,h this⟩
theorem runT_at {c:Cst}{l:List UInt8}{i:Nat}(hi:i<l.length):∀{ts:List Pc} {s:Bool × List St},s.2.length=l.length+1→(∀t∈ts,fits l i t)→(s.1=true→fits l i s.2[i]!.2.2)→(s.1=true∨ts≠[])→fits l i (runT c i ts s).2[i]!.2.2
 |[],s,_,_,h,h2=>by rcases h2 with h2|h2;exact h h2;exact absurd rfl h2
 |t::ts,s,hl,ht,h,_=>by
  have h1:=tryS_at (c:=c) hl hi (ht t (by simp)) h
  exact runT_at hi (ts:=ts) (s:=tryS c i s t) (by rw[tryS_len];exact hl) (fun x hx=>ht x (by simp[hx])) (fun _=>h1.2) (.inl h1.1)
theorem tryS_else {c:Cst}{i j:Nat}{s:Bool × List St}{t:Pc}(h:j≠i)(hi:i<s.2.length):(tryS c i s t).2[j]! = s.2[j]!:=by
 unfold tryS;split
 ·rw[lzset_bang hi,if_neg h]
 ·rfl
theorem runT_else {c:Cst}{i j:Nat}(h:j≠i):∀{ts:List Pc} {s:Bool × List St},i<s.2.length→(runT c i ts s).2[j]! = s.2[j]!
 |[],_,_=>rfl
 |t::ts,s,hi=>by
  rw[←tryS_else (c:=c) (t:=t) h hi]
  exact runT_else h (ts:=ts) (s:=tryS c i s t) (by rw[tryS_len];exact hi)
theorem triesL_fits {l:List UInt8}{i:Nat}{w:Int}(hi:i<l.length):∀t∈triesL l i w,fits l i t:=fun t ht=>by
 rcases List.mem_append.1 ht with ht|ht
 ·exact trK_fits (Nat.le_refl _) t ht
 ·obtain rfl:=List.mem_singleton.1 ht;exact lit_fits hi
theorem parT_ok {c:Cst}{l:List UInt8}{w:Int}(hc:vC c):∀{j:Nat},j≤l.length→TOk l.length (parT c l w j)∧∀i,l.length-j≤i→i<l.length→fits l i (parT c l w j)[i]!.2.2
 |0,_=>⟨⟨by simp[parT],fun j hj=>by
   rw[show(parT c l w 0)[j]! = st0 by unfold parT;rw[getElem!_pos _ j (by simp;omega),List.getElem_replicate]]
   show 0≤(0:Int)∧(0:Int)≤_∧0≤(0:Int)∧(0:Int)≤_;omega⟩,fun i h1 h2=>by omega⟩
 |j+1,hj=>by
  obtain⟨h1,h2⟩:=parT_ok hc (w:=w) (show j≤l.length by omega)
  have hi:l.length-(j+1)<l.length:=by omega
  refine⟨runT_ok hc (s:=(false,_)) h1 (triesL_fits hi),fun i g1 g2=>?_⟩
  by_cases e:i=l.length-(j+1)
  ·subst e
   exact runT_at hi (s:=(false,_)) h1.1 (triesL_fits hi) (fun h=>absurd h Bool.false_ne_true) (.inr (by unfold triesL;simp))
  ·show fits l i (runT c (l.length-(j+1)) _ (false,parT c l w j)).2[i]!.2.2
   rw[runT_else e (by show _<(parT c l w j).length;have:=h1.1;omega)]
   exact h2 i (by omega) g2
theorem validWindow_any (w:Int)(h:SH):SRun Tryz.prog 205 [I w] h fun r q=>r=B (decide (1≤w∧w≤4096))∧q=h:=by
 refine zR Tryz.func205 rfl rfl ?_
 repeat'(first|apply zF|apply zB|apply zE|refine jg ?_ ?_|refine jw ?_|refine jk ?_|(apply o_guardT;(iterate 3 exact rfl);all_goals intro hc)|apply zA|apply zN|exact jS|fail)
 all_goals exact jF (k:=by refine⟨?_,rfl⟩;show B _=B _;congr 1;first|(rw[decide_eq_decide];omega)|(symm;rw[decide_eq_false_iff_not];omega)|(symm;rw[decide_eq_true_eq];omega))
theorem sub_pc {T:List St}{i:Nat}(hi:i<T.length):SubAt (recs stC T) (0+((i:Int)).toNat*5+2) (pcC T[i]!.2.2):=fun k v hk=>by
 rw[Int.toNat_natCast,Nat.zero_add,Nat.add_assoc]
 have hk3:k<3:=(List.getElem?_eq_some_iff.1 hk).1
 rw[recs_get stcW hi (show 2+k<5 by omega)]
 match k,hk3 with
 |0,_=>exact hk
 |1,_=>exact hk
 |2,_=>exact hk
theorem TOk.st {n j:Nat}{T:List St}(h:TOk n T)(hn:n≤4096)(hj:j≤n):stOk T[j]!:=by
 have:=h.2 j hj
 unfold stOk;omega
theorem parT_succ (c:Cst)(l:List UInt8)(w:Int)(j i:Nat)(hi:i=l.length-(j+1)):parT c l w (j+1)=(tryS c i (runT c i (trK (cands l i w 273) (cands l i w 273).length) (false,parT c l w j)) (litP l i)).2:=by
 subst hi
 show(runT c _ (triesL l _ w) _).2=_
 unfold triesL
 rw[runT_app];rfl
abbrev PF (n3 n8 n9 n10:Nat):Value:=.func (.func 206) ⟨[]⟩ ⟨[gptr n8 0 1,gptr n9 0 1,gptr n3 0 4,gptr n10 0 1]⟩
def IsPs (h:SH)(ps:List Pc)(r:Value)(q:SH):Prop:=(ps=[]∧r=.slice none 0 0∧q=h)∨ps≠[]∧∃A,r=gsl A 0 (3*ps.length) ps.length 3∧q=(A,⟨recs pcC ps,false⟩)::h
theorem Parse_any (c:Cst)(l:List UInt8)(w:Int)(h:SH)(hl:l.length≤9223372036854775807) :
  SRun Tryz.prog 167 [csV c,S l,I w] h fun r q=>∃v,r=.tuple #[v,I (parse c l w).2]∧IsPs h (parse c l w).1 v q:=by
 by_cases hc0:vC c
 ·by_cases hw:1≤w∧w≤4096
  ·by_cases hn:l.length≤4096
   ·have hpz:(parT c l w 0).length=l.length+1:=by simp[parT]
    have hzr:zrow (.agg ⟨[I 0,I 0,I 0,I 0,.int .u8 0]⟩) (((l.length:Int)+1).toNat*5)=recs stC (parT c l w 0):=by
     rw[show((l.length:Int)+1).toNat=l.length+1 by omega]
     exact recs_zrow (f:=stC) (w:=5) stcW (show 0<5 by omega) st0 rfl _
    refine w_body3 Tryz.func167 rfl rfl ?_
    repeat'(first|apply zF|apply zB|apply zE|refine jg ?_ ?_|(apply o_ar zC;exact rfl;exact rfl)|(apply o_not;exact rfl;exact rfl)|(apply yQ zC;(iterate 3 exact rfl);exact pk)|(apply zX zC;(iterate 4 exact rfl);exact up)|refine jy ?_|refine jx ?_|(apply o_makeSlice zC;(iterate 6 exact rfl);decide;omega;(focus first|exact hzr);exact rfl)|(refine jc ?_ (c:=by exact⟨_,validC_any c _,jN⟩);rintro _ _ ⟨rfl,rfl⟩)|(refine jc ?_ (c:=by exact⟨_,validWindow_any w _,jN⟩);rintro _ _ ⟨rfl,rfl⟩)|refine jw ?_|refine ji ?_|refine jf ?_|apply zA|apply zI|apply zH|exact jS|exact jL|exact jW|((with_reducible apply Se.mk);first|(focus(repeat(first|exact SetAt.zero));done))|exact jU|exact True.intro|intro A|exact rfl)
    rename_i n3 A0 n8
    obtain⟨n9,rfl⟩:∃n9,n9=A:=⟨_,rfl⟩
    have hgl:gsl A0 0 (((l.length:Int)+1).toNat*5) ((l.length:Int)+1).toNat 5=gsl A0 0 ((parT c l w 0).length*5) (parT c l w 0).length 5:=gslE rfl rfl (by omega) (by omega) rfl
    rw[hgl]
    refine zZ (S:=Nat × Nat) (fun x=>[(1,S l),(2,I w),(3,gptr n3 0 4),(8,gptr n8 0 1),(9,gptr x.2 0 1)])
     (fun x=>(x.2,⟨[I ((l.length:Int)-x.1-1)],false⟩)::(n8,⟨[gsl A0 0 ((parT c l w x.1).length*5) (parT c l w x.1).length 5],false⟩)::(A0,⟨recs stC (parT c l w x.1),false⟩)::(n3,⟨csC c,false⟩)::h)
     (fun x=>x.1≤l.length) (fun x=>l.length-x.1) (0,n9) (by simp) jB (by show Take ((n9,⟨[I ((l.length:Int)-((0:Nat):Int)-1)],false⟩)::_) _;rw[show(l.length:Int)-((0:Nat):Int)-1=(l.length:Int)-1 by omega];exact jK) ?_
    rintro⟨j,n9⟩ hj
    dsimp only at hj ⊢
    obtain⟨⟨hTl,hT⟩,hF⟩:=parT_ok hc0 (w:=w) hj
    by_cases hjl:j<l.length
    ·obtain⟨i,hi⟩:∃i,i=l.length-(j+1):=⟨_,rfl⟩
     rw[show(l.length:Int)-j-1=(i:Int)by omega]
     have hil:i<l.length:=by omega
     have hsu:=parT_succ c l w j i hi
     have hfl:=lit_fits hil
     repeat'(first|apply zF|apply zB|apply zE|refine jg ?_ ?_|(apply zM zC;(iterate 3 exact rfl);exact pk)|(apply zX zC;(iterate 4 exact rfl);exact up)|refine jy ?_|(apply o_makeFunc;iterate 3 exact rfl)|(refine jc ?_ (c:=by exact⟨_,Candidates_any l i w 273 _ (by omega),jN⟩);rintro _ _ hq)|(apply yB;exact rfl)|apply zA|apply zI|apply zH|exact jS|exact jL|exact jE|((with_reducible apply Se.mk);first|(focus(repeat(first|exact SetAt.zero));done))|exact True.intro|intro A|exact rfl)
     obtain⟨n10,rfl⟩:∃n10,n10=A:=⟨_,rfl⟩
     rename_i r0 q0
     have hq2:∃h2,Take h2 h∧Has h2 (recs cpF (cands l i w 273)) 2 (cands l i w 273).length r0∧Take q0 (TB n3 n8 n9 n10 A0 c i (false,parT c l w j) h2):=by
      rcases hq with⟨e,rfl,rfl⟩|⟨A',rfl,rfl⟩
      ·exact⟨h,jK,⟨none,0,by rw[e];rfl,fun g=>absurd (by rw[e];rfl) g⟩,jK⟩
      ·exact⟨(A',cpB (cands l i w 273) false)::h,jK,⟨_,_,rfl,fun _=>⟨A',false,_,rfl,.head⟩⟩,jK⟩
     clear hq
     obtain⟨h2,ht2,⟨ad,fl,rfl,hcs⟩,ht3⟩:=hq2
     have hcl:=cands_le l i w 273
     repeat'(first|apply zE|refine jg ?_ ?_|(apply o_ar zC;exact rfl;exact rfl)|apply zA|apply zH|exact jS|exact jW|fail)
     refine zZ (S:=Nat × (Bool × List St)) (fun x=>[(1,S l),(2,I w),(3,gptr n3 0 4),(8,gptr n8 0 1),(9,gptr n9 0 1),(11,PF n3 n8 n9 n10),(12,.slice ad (cands l i w 273).length fl),(13,I ((x.1:Int)-1))]) (fun x=>TB n3 n8 n9 n10 A0 c i x.2 h2)
      (fun x=>x.1≤(cands l i w 273).length∧TOk l.length x.2.2∧runT c i (trK (cands l i w 273) x.1) x.2=runT c i (trK (cands l i w 273) (cands l i w 273).length) (false,parT c l w j)) (fun x=>x.1)
      ((cands l i w 273).length,(false,parT c l w j)) ⟨Nat.le_refl _,⟨hTl,hT⟩,rfl⟩ jB ht3 ?_
     rintro⟨k,f,T⟩ ⟨hk,hTk,hrun⟩
     dsimp only at hk hTk hrun ⊢
     by_cases hk0:0<k
     ·obtain⟨k,rfl⟩:∃m,k=m+1:=⟨k-1,by omega⟩
      rw[show(((k+1:Nat):Int))-1=(k:Int)by omega]
      obtain⟨A',ro,h4,rfl,hp⟩:=hcs (by omega)
      have hci:=cands_in (bang_mem (show k<(cands l i w 273).length by omega))
      repeat'((fail_if_success (show SWp _ _ (Code.cond (Operand.tmp 53) _ _) _ _ _));first|apply zF|apply zB|apply zE|refine jg ?_ ?_|(apply yB;exact rfl)|apply zA|apply zI|apply zH|exact jS|fail)
      refine w_meet (S:=Unit) (fun _=>[(1,S l),(2,I w),(3,gptr n3 0 4),(8,gptr n8 0 1),(9,gptr n9 0 1),(11,PF n3 n8 n9 n10),(12,.slice (some ⟨A',0,some (2*(cands l i w 273).length)⟩) (cands l i w 273).length fl),(13,I k),(14,I (shr (cands l i w 273) k))])
       (fun _=>TB n3 n8 n9 n10 A0 c i (f,T) h2) (fun _=>True) ?_ ?_
      ·by_cases hk1:0<k
       ·have hs:(shr (cands l i w 273) k:Int)=(cands l i w 273)[k-1]!.1:=by
         have:=cands_in (bang_mem (show k-1<(cands l i w 273).length by omega))
         unfold shr;rw[if_pos hk1];omega
        obtain⟨m,rfl⟩:∃m,k=m+1:=⟨k-1,by omega⟩
        rw[Nat.add_sub_cancel]at hs
        repeat'(first|apply zB|apply zE|refine jg ?_ ?_|(apply o_ar zC;exact rfl;exact rfl)|(apply zM zC;(iterate 3 exact rfl);exact pk)|refine jd ?_|apply zA|exact jO|((with_reducible apply Ln.mk);first|(simp ;first|done|omega))|exact jW|((with_reducible apply Ce.mk);first|exact cell_rec (fun _=>rfl) (by omega) (by decide) rfl)|exact True.intro|exact rfl)
        rw[show(((m+1:Nat):Int)-1).toNat=m by omega,hs]
        exact⟨(),trivial,jB,jK⟩
       ·have hs:(shr (cands l i w 273) k:Int)=1:=by unfold shr;rw[if_neg hk1];rfl
        repeat'(first|refine jf ?_|apply zA|apply zI)
        rw[hs]
        exact⟨(),trivial,jB,jK⟩
      ·rintro _ _
       repeat'(first|apply zF|apply zB|apply zE|refine jg ?_ ?_|(apply zM zC;(iterate 3 exact rfl);exact pk)|apply zA|apply zH|exact jO|((with_reducible apply Ln.mk);first|(simp ;first|done|omega))|((with_reducible apply Ce.mk);first|exact cell_recZ (fun _=>rfl) (by omega) (by decide) rfl)|exact True.intro|exact rfl)
       obtain⟨N,hN⟩:∃N:Nat,(cands l i w 273)[k]!.1=(N:Int):=⟨_,(Int.toNat_of_nonneg (by omega)).symm⟩
       have hrun2:runT c i (trN (cands l i w 273)[k]!.2 (shr (cands l i w 273) k) N++trK (cands l i w 273) k) (f,T)=runT c i (trK (cands l i w 273) (cands l i w 273).length) (false,parT c l w j):=by
        rw[←hrun,trK,hN,Int.toNat_natCast]
       rw[hN]at hci ⊢
       refine zZ (S:=Nat × (Bool × List St)) (fun x=>[(1,S l),(2,I w),(3,gptr n3 0 4),(8,gptr n8 0 1),(9,gptr n9 0 1),(11,PF n3 n8 n9 n10),(12,.slice (some ⟨A',0,some (2*(cands l i w 273).length)⟩) (cands l i w 273).length fl),(13,I k),(14,I (shr (cands l i w 273) k)),(15,I x.1)]) (fun x=>TB n3 n8 n9 n10 A0 c i x.2 h2)
        (fun x=>x.1≤N∧TOk l.length x.2.2∧runT c i (trN (cands l i w 273)[k]!.2 (shr (cands l i w 273) k) x.1++trK (cands l i w 273) k) x.2=runT c i (trK (cands l i w 273) (cands l i w 273).length) (false,parT c l w j)) (fun x=>x.1)
        (N,(f,T)) ⟨Nat.le_refl _,hTk,hrun2⟩ jB jK ?_
       clear hrun2 hrun hTk
       rintro⟨n,f,T⟩ ⟨hnN,hTk,hrun⟩
       dsimp only at hnN hTk hrun ⊢
       have hsp:=shr_pos (l:=l) (i:=i) (w:=w) (show k<(cands l i w 273).length by omega)
       by_cases hlo:shr (cands l i w 273) k<n
       ·obtain⟨n,rfl⟩:∃m,n=m+1:=⟨n-1,by omega⟩
        rw[trN,if_pos hlo,List.cons_append]at hrun
        have hft:fits l i (((n+1:Nat):Int),(cands l i w 273)[k]!.2,0):=⟨.inr ⟨by dsimp only;omega,by dsimp only;omega,by dsimp only;omega,by dsimp only;omega,rfl⟩,by dsimp only;omega,by dsimp only;omega⟩
        have hst:=hTk.st hn (show i+(n+1)≤l.length by omega)
        have htl:=hTk.1
        repeat'(first|apply zF|apply zB|apply zE|refine jg ?_ ?_|(apply o_ar zC;exact rfl;exact rfl)|(apply zM zC;(iterate 3 exact rfl);exact pk)|(apply yT zC;exact rfl;exact rfl;(focus first|with_reducible exact pl153);exact rfl;(focus repeat(first|exact BuildR.nil|(apply BuildR.one;exact rfl;exact rfl;(first|(focus(repeat(first|exact SetAt.zero|apply SetAt.succ));done)))));exact rfl)|(refine jc ?_ (c:=by exact⟨_,try_any c (((n+1:Nat):Int),(cands l i w 273)[k]!.2,0) n3 n8 n9 n10 A0 i (f,T) h2 hc0 hft.1 (by show i+(n+1)<T.length;omega) (by show T.length≤4097;omega) hst,jN⟩);rintro _ _ ⟨rfl,rfl⟩)|refine jd ?_|apply zA|apply zG|apply zI|apply zH|exact jO|((with_reducible apply Ln.mk);first|(simp ;first|done|omega))|exact jW|((with_reducible apply Ce.mk);first|exact cell_recZ (fun _=>rfl) (by omega) (by decide) rfl)|exact True.intro|exact rfl)
        rw[show(((n+1:Nat):Int))-1=(n:Int)by omega]
        exact⟨(n,tryS c i (f,T) (((n+1:Nat):Int),(cands l i w 273)[k]!.2,0)),⟨by show n≤N;omega,tryS_ok (s:=(f,T)) hc0 hTk hft,hrun⟩,Nat.lt_succ_self n,jB,jK⟩
       ·have hnil:trN (cands l i w 273)[k]!.2 (shr (cands l i w 273) k) n=[]:=by
         cases n with
         |zero=>rfl
         |succ n=>rw[trN,if_neg hlo]
        rw[hnil,List.nil_append]at hrun
        repeat'(first|apply zF|apply zB|apply zE|refine jg ?_ ?_|(apply o_ar zC;exact rfl;exact rfl)|refine jf ?_|apply zA|apply zK|apply zG|apply zJ|apply zV|exact jS|exact jW|fail)
        exact⟨(k,(f,T)),⟨by show k≤_;omega,hTk,hrun⟩,Nat.lt_succ_self k,jB,jK⟩
     ·obtain rfl:k=0:=by omega
      have hrun2:(f,T)=runT c i (trK (cands l i w 273) (cands l i w 273).length) (false,parT c l w j):=hrun
      rw[←hrun2]at hsu
      have htl:=hTk.1
      have hst:=hTk.st hn (show i+1≤l.length by omega)
      repeat'(first|apply zF|apply zB|apply zE|refine jg ?_ ?_|(apply o_ar zC;exact rfl;exact rfl)|(apply zM zC;(iterate 3 exact rfl);exact pk)|(apply zX zC;(iterate 4 exact rfl);exact up)|refine jy ?_|(apply yT zC;exact rfl;exact rfl;(focus first|with_reducible exact pl153);exact rfl;(focus repeat(first|exact BuildR.nil|(apply BuildR.one;exact rfl;exact rfl;(first|(focus(repeat(first|exact SetAt.zero|apply SetAt.succ));done)))));exact rfl)|(refine jc ?_ (c:=by exact⟨_,try_any c (litP l i) n3 n8 n9 n10 A0 i (f,T) h2 hc0 hfl.1 (by show i+1<T.length;omega) (by show T.length≤4097;omega) hst,jN⟩);rintro _ _ ⟨rfl,rfl⟩)|(apply zS;exact rfl)|apply zA|apply zK|apply zG|apply zJ|apply zV|exact jO|exact jL|exact jW|exact jE|((with_reducible apply Se.mk);first|(focus(repeat(first|exact SetAt.zero));done))|exact True.intro|intro A|exact rfl)
      refine⟨(j+1,A),by show j+1≤_;omega,by show l.length-(j+1)<_;omega,jB,?_⟩
      dsimp only
      rw[hsu,show(l.length:Int)-((j+1:Nat):Int)-1=(i:Int)-1 by omega]
      exact(by repeat(first|with_reducible exact Take.nil|exact ht2|with_reducible apply Take.c|with_reducible apply Take.drop))
    ·obtain rfl:j=l.length:=by omega
     repeat'(first|apply zF|apply zB|apply zE|refine jg ?_ ?_|(apply zM zC;(iterate 3 exact rfl);exact pk)|refine jf ?_|apply zA|apply zK|apply zJ|apply zV|apply zH|exact jS|exact jL|exact jE|exact True.intro|exact rfl)
     have hPF:∀i,i<l.length→fits l i (parT c l w l.length)[i]!.2.2:=fun i hi=>hF i (by omega) hi
     have hTl2:(parT c l w l.length).length=l.length+1:=hTl
     have hpr:parse c l w=(walkT (parT c l w l.length) l.length l.length 0,0):=by unfold parse;rw[if_pos ⟨hc0,hw⟩,if_neg (by omega)]
     rw[hpr]
     obtain⟨T,hTe⟩:∃T,T=parT c l w l.length:=⟨_,rfl⟩
     rw[←hTe]at hPF hTl2 ⊢
     obtain⟨hB,hBe⟩:∃hB,hB=(n8,(⟨[gsl A0 0 (T.length*5) T.length 5],false⟩:Blk))::(A0,⟨recs stC T,false⟩)::(n3,⟨csC c,false⟩)::h:=⟨_,rfl⟩
     refine zZ (S:=Nat × Nat × List Pc × Value × SH) (fun x=>[(1,S l),(8,gptr n8 0 1),(16,x.2.2.2.1),(17,I x.1)]) (fun x=>x.2.2.2.2)
      (fun x=>x.1≤l.length∧l.length≤x.2.1+x.1∧x.2.2.1++walkT T l.length x.2.1 x.1=walkT T l.length l.length 0∧x.2.2.1.length≤x.1∧IsPs hB x.2.2.1 x.2.2.2.1 x.2.2.2.2) (fun x=>l.length-x.1)
      (0,l.length,[],_,_) ⟨by simp,by simp,rfl,by simp,.inl ⟨rfl,rfl,rfl⟩⟩ jB (by rw[hBe];exact jK) ?_
     rintro⟨i,f,ps,v,q⟩ ⟨hi,hif,hwk,hpl,hps⟩
     dsimp only at hi hif hwk hpl hps ⊢
     by_cases hil:i<l.length
     ·obtain⟨f,rfl⟩:∃m,f=m+1:=⟨f-1,by omega⟩
      rw[walkT,if_pos hil]at hwk
      have hft:=hPF i hil
      have hsub:=sub_pc (T:=T) (i:=i) (by omega)
      obtain⟨m,hm⟩:∃m:Nat,T[i]!.2.2.1=(m:Int):=⟨_,(Int.toNat_of_nonneg (by omega)).symm⟩
      rw[show T[i]!.2.2.1.toNat=m by omega]at hwk
      rcases hps with⟨rfl,rfl,rfl⟩|⟨hne,A2,rfl,rfl⟩
      ·subst hBe
       repeat'(first|apply zF|apply zB|apply zE|refine jg ?_ ?_|(apply o_ar zC;exact rfl;exact rfl)|(apply zM zC;(iterate 3 exact rfl);exact pk)|(apply yQ zC;(iterate 3 exact rfl);exact pk)|(apply zT zC;(iterate 5 exact rfl);decide;exact rfl;decide;(focus repeat(first|exact CatR.last rfl));exact rfl)|(apply o_append_nil zC;(iterate 5 exact rfl);exact⟨by decide⟩;exact pk)|refine jd ?_|apply zA|apply zG|apply zI|apply zH|exact jV|((with_reducible apply Ln.mk);first|rfl|(simp ;first|done|omega))|exact jW|((with_reducible apply Ce.mk);first|rfl|exact cell_recZ (fun _=>rfl) (by omega) (by decide) rfl)|((with_reducible apply Su.mk);first|exact hsub|exact zQ)|exact True.intro|intro A|exact rfl)
       rw[show(i:Int)+T[i]!.2.2.1=((i+m:Nat):Int)by omega]
       exact⟨(i+m,f,[T[i]!.2.2],gsl A 0 (3*1) 1 3,(A,⟨recs pcC [T[i]!.2.2],false⟩)::(n8,⟨[gsl A0 0 (T.length*5) T.length 5],false⟩)::(A0,⟨recs stC T,false⟩)::(n3,⟨csC c,false⟩)::h),⟨by show i+m≤l.length;omega,by show l.length≤f+(i+m);omega,hwk,by show 1≤i+m;omega,.inr ⟨by simp,A,rfl,rfl⟩⟩,by show l.length-(i+m)<l.length-i;omega,jB,(by repeat(first|with_reducible exact Take.nil|with_reducible apply Take.c|((with_reducible apply Take.cE);first|exact rfl|(apply blkE;(focus first|exact rfl|exact yI rfl|exact yO rfl|exact congrArg (fun v=>[v]) (gslE rfl rfl (by first|rfl|exact ‹_›|omega|(simp ;first|done|omega)) (by first|rfl|exact ‹_›|omega|(simp ;first|done|omega)) rfl))))|with_reducible apply Take.drop))⟩
      ·subst hBe
       repeat'(first|apply zF|apply zB|apply zE|refine jg ?_ ?_|(apply o_ar zC;exact rfl;exact rfl)|(apply zM zC;(iterate 3 exact rfl);exact pk)|(apply yQ zC;(iterate 3 exact rfl);exact pk)|(apply zT zC;(iterate 5 exact rfl);decide;exact rfl;decide;(focus repeat(first|exact CatR.last rfl));exact rfl)|(apply o_append zC;(iterate 5 exact rfl);exact⟨by decide⟩;exact up;exact pk)|refine jd ?_|apply zA|apply zG|apply zI|apply zH|exact jV|((with_reducible apply Ln.mk);first|rfl|omega|(simp ;first|done|omega))|exact jW|((with_reducible apply Ce.mk);first|rfl|exact cell_recZ (fun _=>rfl) (by omega) (by decide) rfl)|((with_reducible apply Su.mk);first|exact hsub|exact zQ)|exact True.intro|intro A|exact rfl)
       rw[show(i:Int)+T[i]!.2.2.1=((i+m:Nat):Int)by omega]
       exact⟨(i+m,f,ps++[T[i]!.2.2],gsl A2 0 (3*(ps++[T[i]!.2.2]).length) (ps++[T[i]!.2.2]).length 3,(A2,⟨recs pcC (ps++[T[i]!.2.2]),false⟩)::(n8,⟨[gsl A0 0 (T.length*5) T.length 5],false⟩)::(A0,⟨recs stC T,false⟩)::(n3,⟨csC c,false⟩)::h),⟨by show i+m≤l.length;omega,by show l.length≤f+(i+m);omega,by rw[List.append_assoc];exact hwk,by show(ps++[_]).length≤i+m;rw[List.length_append,List.length_singleton];omega,.inr ⟨by first|exact hne|simp,A2,rfl,rfl⟩⟩,by show l.length-(i+m)<l.length-i;omega,⟨rfl,rfl,congrArg some (gslE rfl rfl (by simp;try omega) (by simp) rfl),rfl,trivial⟩,(by repeat(first|with_reducible exact Take.nil|with_reducible apply Take.c|((with_reducible apply Take.cE);first|exact rfl|(apply blkE;(focus first|exact rfl|exact yI rfl|exact yO rfl|exact congrArg (fun v=>[v]) (gslE rfl rfl (by first|rfl|exact ‹_›|omega|(simp ;first|done|omega)) (by first|rfl|exact ‹_›|omega|(simp ;first|done|omega)) rfl))))|with_reducible apply Take.drop))⟩
     ·obtain rfl:i=l.length:=by omega
      have hw0:walkT T l.length f l.length=[]:=by
       cases f with
       |zero=>rfl
       |succ f=>rw[walkT,if_neg (Nat.lt_irrefl _)]
      rw[hw0,List.append_nil]at hwk
      subst hwk
      rcases hps with⟨e,rfl,rfl⟩|⟨hne,A2,rfl,rfl⟩
      ·subst hBe
       repeat'(first|apply zF|apply zB|apply zE|refine jg ?_ ?_|refine jf ?_|apply zA|apply zK|apply zJ|apply zN|apply zV|exact jS|fail)
       exact jF (k:=by exact⟨_,rfl,.inl ⟨e,rfl,rfl⟩⟩)
      ·subst hBe
       repeat'(first|apply zF|apply zB|apply zE|refine jg ?_ ?_|refine jf ?_|apply zA|apply zK|apply zJ|apply zN|apply zV|exact jS|fail)
       exact jF (k:=by exact⟨_,rfl,.inr ⟨by first|exact hne|simp,A2,rfl,rfl⟩⟩)
   ·refine w_body3 Tryz.func167 rfl rfl ?_
    repeat'(first|apply zF|apply zB|apply zE|refine jg ?_ ?_|(apply o_not;exact rfl;exact rfl)|(apply yQ zC;(iterate 3 exact rfl);exact pk)|refine jx ?_|(refine jc ?_ (c:=by exact⟨_,validC_any c _,jN⟩);rintro _ _ ⟨rfl,rfl⟩)|(refine jc ?_ (c:=by exact⟨_,validWindow_any w _,jN⟩);rintro _ _ ⟨rfl,rfl⟩)|refine jw ?_|refine ji ?_|refine jd ?_|refine jf ?_|apply zA|apply zP|apply zI|apply zN|exact jS|exact jL|exact jU|exact True.intro|intro A|exact rfl)
    all_goals first
     |exact jF (k:=by exact⟨_,by unfold parse;rw[if_pos ⟨hc0,hw⟩,if_pos (by omega)];rfl,.inl ⟨by unfold parse;rw[if_pos ⟨hc0,hw⟩,if_pos (by omega)],rfl,rfl⟩⟩)
     |(exfalso;omega)
     |(exfalso;simp_all;done)
  ·refine w_body3 Tryz.func167 rfl rfl ?_
   repeat'(first|apply zF|apply zB|apply zE|refine jg ?_ ?_|(apply o_not;exact rfl;exact rfl)|(apply yQ zC;(iterate 3 exact rfl);exact pk)|refine jx ?_|(refine jc ?_ (c:=by exact⟨_,validC_any c _,jN⟩);rintro _ _ ⟨rfl,rfl⟩)|(refine jc ?_ (c:=by exact⟨_,validWindow_any w _,jN⟩);rintro _ _ ⟨rfl,rfl⟩)|refine jw ?_|refine ji ?_|refine jd ?_|apply zA|apply zP|apply zN|exact jS|exact jL|exact jU|exact True.intro|intro A|exact rfl)
   all_goals first
    |exact jF (k:=by exact⟨_,by unfold parse;rw[if_neg (fun g=>hw g.2)];rfl,.inl ⟨by unfold parse;rw[if_neg (fun g=>hw g.2)],rfl,rfl⟩⟩)
    |(exfalso;simp_all;done)
 ·refine w_body3 Tryz.func167 rfl rfl ?_
  repeat'(first|apply zF|apply zB|apply zE|refine jg ?_ ?_|(apply o_not;exact rfl;exact rfl)|(apply yQ zC;(iterate 3 exact rfl);exact pk)|refine jx ?_|(refine jc ?_ (c:=by exact⟨_,validC_any c _,jN⟩);rintro _ _ ⟨rfl,rfl⟩)|refine jk ?_|(apply o_sT;(iterate 3 exact rfl);omega;exact rfl)|(apply yB;exact rfl)|apply zA|apply zP|apply zN|exact jS|exact jL|exact jU|exact True.intro|intro A|exact rfl)
  all_goals first
   |exact jF (k:=by exact⟨_,by unfold parse;rw[if_neg (fun g=>hc0 g.1)];rfl,.inl ⟨by unfold parse;rw[if_neg (fun g=>hc0 g.1)],rfl,rfl⟩⟩)
   |(exfalso;simp_all;done)

theorem srun_post {P:Program}{f:FuncId}{xs:List Value}{p:SH}{R:Value→SH→Prop}(k:SRun P f xs p fun r q=>∃q',R r q'∧Take q q'):SRun P f xs p R:=by
 unfold SRun at k ⊢
 intro H i
 exact(k H i).mono fun r H' ⟨q,⟨q',g1,g2⟩,g3⟩=>⟨q',g1,g3.le g2.le⟩
structure Ms where
 K:List Int
 P:List Int
 c:Int
 L:List Int
 D:List Int
structure MsOk (x:Ms):Prop where
 K:x.K.length=2
 P:x.P.length=2048
 c:0≤x.c∧x.c≤255
 L:x.L.length=64
 D:x.D.length=64
def nu0 :List Int:=List.replicate 64 1024
def by0 :List Int:=List.replicate 2048 1024
def ms0 :Ms:=⟨List.replicate 2 1024,by0,0,nu0,nu0⟩
theorem ms0_ok :MsOk ms0:=⟨rfl,List.length_replicate,⟨Int.le_refl _,by show(0:Int)≤255;decide⟩,List.length_replicate,List.length_replicate⟩
structure Mad where
 k:Nat
 kn:Nat
 b:Nat
 bn:Nat
 l:Nat
 ln:Nat
 d:Nat
 dn:Nat
abbrev kiC (N:Nat):List Value:=[I 1,gsl N 0 2 2 0]
abbrev msB (a:Mad)(x:Ms)(h:SH):SH:=(a.k,⟨kiC a.kn,false⟩)::(a.kn,⟨nodes x.K,false⟩)::(a.b,⟨byC a.bn x.c,false⟩)::(a.bn,⟨nodes x.P,false⟩) ::
 (a.l,⟨numC a.ln,false⟩)::(a.ln,⟨nodes x.L,false⟩)::(a.d,⟨numC a.dn,false⟩)::(a.dn,⟨nodes x.D,false⟩)::h
theorem Take.f2 {A B C D:Nat × Blk}{h:SH}:Take (A::B::C::D::h) (C::D::A::B::h):=.cons (.tail (.tail .head)) (.cons (.tail (.tail .head)) .nil)
theorem Take.f4 {A B C D E F:Nat × Blk}{h:SH}:Take (A::B::C::D::E::F::h) (E::F::A::B::C::D::h):=.cons (.tail (.tail (.tail (.tail .head)))) (.cons (.tail (.tail (.tail (.tail .head)))) .nil)
theorem Take.b4 {A B C D E F:Nat × Blk}{h:SH}:Take (E::F::A::B::C::D::h) (A::B::C::D::E::F::h):=.cons (.tail (.tail .head)) (.cons (.tail (.tail .head)) (.cons (.tail (.tail .head)) (.cons (.tail (.tail .head)) .nil)))
theorem Take.f6 {A B C D E F G H:Nat × Blk}{h:SH}:Take (A::B::C::D::E::F::G::H::h) (G::H::A::B::C::D::E::F::h):=.cons (.tail (.tail (.tail (.tail (.tail (.tail .head)))))) (.cons (.tail (.tail (.tail (.tail (.tail (.tail .head)))))) .nil)
theorem Take.b6 {A B C D E F G H:Nat × Blk}{h:SH}:Take (G::H::A::B::C::D::E::F::h) (A::B::C::D::E::F::G::H::h):=.cons (.tail (.tail .head)) (.cons (.tail (.tail .head)) (.cons (.tail (.tail .head)) (.cons (.tail (.tail .head)) (.cons (.tail (.tail .head)) (.cons (.tail (.tail .head)) .nil)))))
section
variable (a:Mad) (n m:Nat) (x:Ms) (e:Enc) (v:Int) (h p:SH) (hb:EncT n (msB a x h) none e p) (hx:MsOk x) (hok:EncOk m e) (hm:m+400≤999000)
 include hb hx hok hm
theorem kEncW :SRun Tryz.prog 113 [gptr a.k 0 2,gptr n 0 3,I v] p fun _ q=>EncT n (msB a { x with K:=(tenc v 1 x.K e 1).1 } h) none (tenc v 1 x.K e 1).2 q:=by
 have:=TreeEncodeT n a.k a.kn 0 2 2 1 m none (kiC a.kn) [] [] x.K e v ((a.b,⟨byC a.bn x.c,false⟩)::(a.bn,⟨nodes x.P,false⟩)::(a.l,⟨numC a.ln,false⟩)::(a.ln,⟨nodes x.L,false⟩)::(a.d,⟨numC a.dn,false⟩)::(a.dn,⟨nodes x.D,false⟩)::h) p
  (by rw[List.nil_append,List.append_nil];exact hb) rfl rfl rfl rfl hx.K (by decide) hok (by omega)
 rw[List.nil_append,List.append_nil]at this
 exact this.mono fun _ _ g=>g.2
theorem bEncW (hv:0≤v∧v≤255):SRun Tryz.prog 114 [gptr a.b 0 17,gptr n 0 3,Y v] p fun _ q=>EncT n (msB a { x with P:=(benc x.P x.c e v).1,c:=v } h) none (benc x.P x.c e v).2 q:=by
 obtain⟨p',hb',tp⟩:=hb.re Take.f2
 exact srun_post (((BytesEncode_any n a.b a.bn m x.P x.c v e _ p' ⟨none,hb'⟩ hx.P hx.c hv hok (by omega)).take tp).mono fun _ q ⟨a',hb2⟩=>hb2.none'.re Take.f2)
theorem lEncW :SRun Tryz.prog 115 [gptr a.l 0 2,gptr n 0 3,I v] p fun _ q=>EncT n (msB a { x with L:=(nenc x.L e v).1 } h) none (nenc x.L e v).2 q:=by
 obtain⟨p',hb',tp⟩:=hb.re Take.f4
 exact srun_post (((NumEncodeT_any n a.l a.ln m x.L e v _ p' hb' hx.L hok (by omega)).take tp).mono fun _ q hb2=>hb2.re Take.b4)
theorem dEncW :SRun Tryz.prog 115 [gptr a.d 0 2,gptr n 0 3,I v] p fun _ q=>EncT n (msB a { x with D:=(nenc x.D e v).1 } h) none (nenc x.D e v).2 q:=by
 obtain⟨p',hb',tp⟩:=hb.re Take.f6
 exact srun_post (((NumEncodeT_any n a.d a.dn m x.D e v _ p' hb' hx.D hok (by omega)).take tp).mono fun _ q hb2=>hb2.re Take.b6)
end
section
variable (a:Mad) (n:Nat) (x:Ms) (d:Dec) (h:SH) (hx:MsOk x) (hok:DecOk d)
 include hx hok
theorem kDecW :SRun Tryz.prog 215 [gptr a.k 0 2,gptr n 0 5] (decB n d::msB a x h) fun r q=>r=I (((tdec 1 x.K d 1).2.2:Int)-2)∧q=decB n (tdec 1 x.K d 1).2.1::msB a { x with K:=(tdec 1 x.K d 1).1 } h:=by
 have:=TreeDecode_any n a.k a.kn 0 2 2 1 (kiC a.kn) [] [] x.K d ((a.b,⟨byC a.bn x.c,false⟩)::(a.bn,⟨nodes x.P,false⟩)::(a.l,⟨numC a.ln,false⟩)::(a.ln,⟨nodes x.L,false⟩)::(a.d,⟨numC a.dn,false⟩)::(a.dn,⟨nodes x.D,false⟩)::h) rfl rfl rfl rfl hx.K (by decide) hok
 rw[List.nil_append,List.append_nil,List.nil_append,List.append_nil]at this
 exact this
theorem bDecW :SRun Tryz.prog 216 [gptr a.b 0 17,gptr n 0 5] (decB n d::msB a x h) fun r q=>r=Y (bdec x.P x.c d).2.2∧q=decB n (bdec x.P x.c d).2.1::msB a { x with P:=(bdec x.P x.c d).1,c:=(bdec x.P x.c d).2.2 } h :=
 srun_post (((BytesDecode_any n a.b a.bn x.P x.c d _ hx.P hx.c hok).take (.cons .head Take.f2)).mono fun _ q ⟨g1,g2⟩=>⟨_,⟨g1,rfl⟩,by rw[g2];exact .cons .head Take.f2⟩)
theorem lDecW :SRun Tryz.prog 217 [gptr a.l 0 2,gptr n 0 5] (decB n d::msB a x h) fun r q=>r=I (ndec x.L d).2.2∧q=decB n (ndec x.L d).2.1::msB a { x with L:=(ndec x.L d).1 } h :=
 srun_post (((NumDecode_any n a.l a.ln x.L d _ hx.L hok).take (.cons .head Take.f4)).mono fun _ q ⟨g1,g2⟩=>⟨_,⟨g1,rfl⟩,by rw[g2];exact .cons .head Take.b4⟩)
theorem dDecW :SRun Tryz.prog 217 [gptr a.d 0 2,gptr n 0 5] (decB n d::msB a x h) fun r q=>r=I (ndec x.D d).2.2∧q=decB n (ndec x.D d).2.1::msB a { x with D:=(ndec x.D d).1 } h :=
 srun_post (((NumDecode_any n a.d a.dn x.D d _ hx.D hok).take (.cons .head Take.f6)).mono fun _ q ⟨g1,g2⟩=>⟨_,⟨g1,rfl⟩,by rw[g2];exact .cons .head Take.b6⟩)
end
abbrev setC (a:Mad):List Value:=[gptr a.k 0 2,gptr a.b 0 17,gptr a.l 0 2,gptr a.d 0 2]
theorem mk_set (k kn b bn l ln d dn:Nat)(K P L D:List Int)(h:SH):∃a:Mad,Value.agg ⟨[gptr k 0 2,gptr b 0 17,gptr l 0 2,gptr d 0 2]⟩=.agg ⟨setC a⟩ ∧
  ((k,(⟨kiC kn,false⟩:Blk))::(kn,⟨nodes K,false⟩)::(b,⟨byC bn 0,false⟩)::(bn,⟨nodes P,false⟩)::(l,⟨numC ln,false⟩)::(ln,⟨nodes L,false⟩)::(d,⟨numC dn,false⟩)::(dn,⟨nodes D,false⟩)::h)=msB a ⟨K,P,0,L,D⟩ h :=
 ⟨⟨k,kn,b,bn,l,ln,d,dn⟩,rfl,rfl⟩
theorem newSet_any (h:SH):SRun Tryz.prog 110 [] h fun r q=>∃a:Mad,r=.agg ⟨setC a⟩∧q=msB a ms0 h:=by
 have hT:∀h,SRun Tryz.prog 168 [I 1] h fun r q=>∃T N,r=.tuple #[gptr T 0 2,I 0]∧q=(T,⟨[I 1,gsl N 0 2 2 0],false⟩)::(N,⟨nodes (List.replicate 2 1024),false⟩)::h:=fun h=>(NewTree_any 1 h).mono fun r q g=>by
  rcases g with⟨_,_,T,N,g1,g2⟩|⟨g,_⟩
  ·exact⟨T,N,g1,g2⟩
  ·exact absurd ⟨by decide,by decide⟩ g
 have hB:∀h,SRun Tryz.prog 169 [] h fun r q=>∃M N,r=gptr M 0 17∧q=(M,⟨byC N 0,false⟩)::(N,⟨nodes by0,false⟩)::h:=NewBytes_any
 have hI:∀h,SRun Tryz.prog 100 [] h fun r q=>∃M N,r=gptr M 0 2∧q=(M,⟨numC N,false⟩)::(N,⟨nodes nu0,false⟩)::h:=NewNumbers_any
 unfold ms0
 generalize by0=X at *
 generalize nu0=Z at *
 generalize List.replicate 2 (1024:Int)=Y at *
 refine w_body0 Tryz.func110 rfl rfl ?_
 repeat'(first|apply zF|apply zB|apply zE|refine jg ?_ ?_|(apply yE zC;(iterate 4 exact rfl);exact⟨rfl⟩;exact up)|refine jy ?_|(apply yT zC;exact rfl;exact rfl;(focus first|with_reducible exact pl148);exact rfl;(focus repeat(first|exact BuildR.nil|(apply BuildR.one;exact rfl;exact rfl;(first|(focus(repeat(first|exact SetAt.zero|apply SetAt.succ));done)))));exact rfl)|(refine jc ?_ (c:=by exact⟨_,hT _,jN⟩);rintro _ _ ⟨T,N,rfl,rfl⟩)|(refine jc ?_ (c:=by exact⟨_,hB _,jN⟩);rintro _ _ ⟨M1,N1,rfl,rfl⟩)|(refine jc ?_ (c:=by exact⟨_,hI _,jN⟩);rintro _ _ ⟨M2,N2,rfl,rfl⟩)|apply zA|apply zN|exact jS|exact jL|exact jP|exact True.intro|intro A)
 rename_i M4 N4
 (apply zL;(exact(show ResS _ _ _ _ [_] from(res_cell zC rfl rfl rfl (by exact pk) (by first|rfl|exact ‹_›|omega|(simp ;first|done|omega)) (by first|rfl|exact ‹_›|omega|(simp ;first|done|omega)) trivial)));exact mk_set T N M1 N1 M4 N4 M2 N2 Y X Z Z h;(focus repeat with_reducible first|exact Take.nil|apply Take.c|apply Take.drop))

theorem rc_max (l:List UInt8)(i m:Int):∀(d e:Nat),1≤e→e≤d→atd l i e m≤(rc l i m d).2
 |0,e,h1,h2=>by omega
 |d+1,e,h1,h2=>by
  rw[rc_succ]
  by_cases h:e=d+1
  ·subst h
   have:((d+1:Nat):Int)=(d:Int)+1:=by omega
   rw[this]
   split
   ·exact Int.le_refl _
   ·omega
  ·have:=rc_max l i m d e h1 (by omega)
   split
   ·show atd l i e m≤atd l i (d+1) m;omega
   ·exact this

theorem rc_mem (l:List UInt8)(i m:Int)(hm:0≤m):∀(d:Nat) (c:Int × Int),c∈(rc l i m d).1→∃e:Nat,1≤e∧e≤d∧c=(atd l i e m,(e:Int))∧2≤c.1∧∀k,1≤k→k<e→atd l i k m<c.1
 |0,c,h=>by cases h
 |d+1,c,h=>by
  rw[rc_succ]at h
  split at h
  ·rename_i hlt
   rcases List.mem_append.1 h with h|h
   ·obtain⟨e,h1,h2,h3⟩:=rc_mem l i m hm d c h
    exact⟨e,h1,by omega,h3⟩
   ·simp only[List.mem_singleton]at h
    subst h
    have hp:=rc_pos l i m hm d
    refine⟨d+1,by omega,Nat.le_refl _,by simp,?_,fun k h1 h2=>?_⟩
    ·rcases atd_range l i ((d:Int)+1) m with h|h
     ·omega
     ·exact h
    ·have:=rc_max l i m d k h1 (by omega)
     show atd l i k m<atd l i (d+1) m;omega
  ·obtain⟨e,h1,h2,h3⟩:=rc_mem l i m hm d c h
   exact⟨e,h1,by omega,h3⟩

def rising :List (Int × Int)→Prop
 |[]=>True
 |[_]=>True
 |a::b::r=>a.1<b.1∧a.2<b.2∧rising (b::r)
theorem rising_snoc :∀{l:List (Int × Int)} {c:Int × Int},rising l→(∀x,l.getLast?=some x→x.1<c.1∧x.2<c.2)→rising (l++[c])
 |[],c,_,_=>trivial
 |[a],c,_,h=>⟨(h a rfl).1,(h a rfl).2,trivial⟩
 |a::b::r,c,h1,h2=>⟨h1.1,h1.2.1,rising_snoc (l:=b::r) h1.2.2 (fun x hx=>h2 x (by rw[List.getLast?_cons_cons];exact hx))⟩
theorem rising_get :∀{l:List (Int × Int)},rising l→∀k,k+1<l.length→l[k]!.1<l[k+1]!.1∧l[k]!.2<l[k+1]!.2
 |[],_,k,h=>by simp at h
 |[_],_,k,h=>by simp at h
 |a::b::r,h1,0,_=>⟨h1.1,h1.2.1⟩
 |a::b::r,h1,k+1,h=>rising_get (l:=b::r) h1.2.2 k (by simpa using h)

theorem rc_last (l:List UInt8)(i m:Int):∀d x,(rc l i m d).1.getLast?=some x→x.1=(rc l i m d).2∧x.2≤d
 |0,x,h=>by cases h
 |d+1,x,h=>by
  rw[rc_succ]at h ⊢
  split at h
  ·rename_i hlt
   rw[if_pos hlt]
   simp only[List.getLast?_append,List.getLast?_singleton,Option.some_or,Option.some.injEq]at h
   subst h
   exact⟨rfl,by simp⟩
  ·rename_i hlt
   rw[if_neg hlt]
   have:=rc_last l i m d x h
   exact⟨this.1,by omega⟩
theorem rc_nil (l:List UInt8)(i m:Int):∀d,(rc l i m d).1=[]→(rc l i m d).2=0
 |0,_=>rfl
 |d+1,h=>by
  rw[rc_succ]at h ⊢
  split at h
  ·simp at h
  ·rename_i hlt;rw[if_neg hlt];exact rc_nil l i m d h
theorem rc_rising (l:List UInt8)(i m:Int):∀d,rising (rc l i m d).1
 |0=>trivial
 |d+1=>by
  rw[rc_succ]
  split
  ·rename_i hlt
   refine rising_snoc (rc_rising l i m d) fun x hx=>?_
   obtain⟨h1,h2⟩:=rc_last l i m d x hx
   exact⟨by rw[h1];exact hlt,by simp only;omega⟩
  ·exact rc_rising l i m d

theorem lcp_ge (l:List UInt8):∀(m i j n:Nat),n≤lcp l i j m↔n≤m∧∀k:Nat,k<n→bat l ((i+k:Nat):Int)=bat l ((j+k:Nat):Int)
 |0,i,j,n=>by
  unfold lcp
  constructor
  ·intro h;exact⟨h,fun k hk=>by omega⟩
  ·exact fun h=>h.1
 |m+1,i,j,0=>by simp
 |m+1,i,j,n+1=>by
  unfold lcp
  split
  ·rename_i he
   rw[Nat.add_le_add_iff_right,lcp_ge l m (i+1) (j+1) n]
   constructor
   ·rintro⟨h1,h2⟩
    refine⟨by omega,fun k hk=>?_⟩
    cases k with
    |zero=>exact he
    |succ k=>have:=h2 k (by omega);rwa [show i+1+k=i+(k+1)by omega,show j+1+k=j+(k+1)by omega]at this
   ·rintro⟨h1,h2⟩
    refine⟨by omega,fun k hk=>?_⟩
    have:=h2 (k+1) (by omega)
    rwa [show i+(k+1)=i+1+k by omega,show j+(k+1)=j+1+k by omega]at this
  ·rename_i he
   constructor
   ·intro h;omega
   ·rintro⟨_,h2⟩
    exact absurd (h2 0 (by omega)) he
abbrev same (l:List UInt8)(i d n:Nat):Prop:=∀k:Nat,k<n→bat l ((i-d+k:Nat):Int)=bat l ((i+k:Nat):Int)
theorem atd_ge (l:List UInt8)(i d n:Nat)(hd:1≤d)(hdi:d≤i)(hi:i≤l.length)(hn:2≤n)(hn2:n≤273):(n:Int)≤atd l i d 273↔i+n≤l.length∧same l i d n:=by
 rw[atd_eq l i d 273 hd hdi hi (by omega)]
 have:=lcp_ge l (min (273:Int) ((l.length:Int)-i)).toNat (i-d) i n
 split
 ·constructor
  ·intro;omega
  ·rintro⟨h1,h2⟩
   have:=this.2 ⟨by omega,h2⟩
   omega
 ·rw[Int.ofNat_le,this]
  constructor
  ·rintro⟨h1,h2⟩;exact⟨by omega,h2⟩
  ·rintro⟨h1,h2⟩;exact⟨by omega,h2⟩
def occ (l:List UInt8)(w:Int)(i:Nat)(t:Pc):Prop :=
 (i<l.length∧t=litP l i)∨∃n d:Nat,t=((n:Int),(d:Int),0)∧2≤n∧n≤273∧1≤d∧(d:Int)≤w∧d≤i∧i+n≤l.length∧same l i d n
theorem occ.fits {l:List UInt8}{w:Int}{i:Nat}{t:Pc}(hw:w≤4096)(h:occ l w i t):fits l i t:=by
 rcases h with⟨h1,rfl⟩|⟨n,d,rfl,h1,h2,h3,h4,h5,h6,_⟩
 ·exact lit_fits h1
 ·exact⟨.inr ⟨by dsimp only;omega,by dsimp only;omega,by dsimp only;omega,by dsimp only;omega,rfl⟩,by dsimp only;omega,by dsimp only;omega⟩
theorem rc_first (l:List UInt8)(i m n:Int)(hm:0≤m)(hn:1≤n):∀(D d:Nat),1≤d→d≤D→n≤atd l i d m→∃k,k<(rc l i m D).1.length∧n≤(rc l i m D).1[k]!.1∧(rc l i m D).1[k]!.2≤d∧∀j,j<k→(rc l i m D).1[j]!.1<n
 |0,d,h1,h2,_=>by omega
 |D+1,d,h1,h2,h3=>by
  have low:∀j,j<(rc l i m D).1.length→(rc l i m D).1[j]!.1≤(rc l i m D).2:=fun j hj=>by
   obtain⟨e,g1,g2,g3,_⟩:=rc_mem l i m hm D _ (bang_mem hj)
   have:=rc_max l i m D e g1 g2
   rw[g3];exact this
  have old:∀d,1≤d→d≤D→n≤atd l i d m→∃k,k<(rc l i m (D+1)).1.length∧n≤(rc l i m (D+1)).1[k]!.1∧(rc l i m (D+1)).1[k]!.2≤d∧∀j,j<k→(rc l i m (D+1)).1[j]!.1<n:=fun d g1 g2 g3=>by
   obtain⟨k,k1,k2,k3,k4⟩:=rc_first l i m n hm hn D d g1 g2 g3
   rw[rc_succ]
   split
   ·have e:∀j,j<(rc l i m D).1.length→((rc l i m D).1++[(atd l i ((D:Int)+1) m,(D:Int)+1)])[j]! = (rc l i m D).1[j]!:=fun j hj=>by
     rw[getElem!_pos _ j (by rw[List.length_append];omega),List.getElem_append_left hj,getElem!_pos _ j hj]
    refine⟨k,by rw[List.length_append];omega,?_,?_,fun j hj=>?_⟩
    ·rw[e k k1];exact k2
    ·rw[e k k1];exact k3
    ·rw[e j (by omega)];exact k4 j hj
   ·exact⟨k,k1,k2,k3,k4⟩
  by_cases hd:d≤D
  ·exact old d h1 hd h3
  ·obtain rfl:d=D+1:=by omega
   rw[show((D+1:Nat):Int)=(D:Int)+1 by omega]at h3
   by_cases hlt:(rc l i m D).2<n
   ·rw[rc_succ,if_pos (by omega)]
    refine⟨(rc l i m D).1.length,by simp,?_,?_,fun j hj=>?_⟩
    ·rw[getElem!_pos _ _ (by simp),List.getElem_append_right (Nat.le_refl _)];simpa using h3
    ·rw[getElem!_pos _ _ (by simp),List.getElem_append_right (Nat.le_refl _)];simp
    ·rw[getElem!_pos _ j (by rw[List.length_append];omega),List.getElem_append_left hj]
     have:=low j hj
     rw[getElem!_pos _ j hj]at this;omega
   ·
    have hne:(rc l i m D).1≠[]:=fun hnil=>by have:=rc_nil l i m D hnil;omega
    obtain⟨x,hx⟩:∃x,(rc l i m D).1.getLast?=some x:=⟨_,List.getLast?_eq_some_getLast hne⟩
    have h5:=rc_last l i m D x hx
    obtain⟨e,g1,g2,g3,_⟩:=rc_mem l i m hm D x (List.mem_of_getLast? hx)
    obtain⟨k,k1,k2,k3,k4⟩:=old e g1 g2 (by rw[g3]at h5;dsimp only at h5;omega)
    exact⟨k,k1,k2,by omega,k4⟩
theorem cands_rc {l:List UInt8}{i:Nat}{w:Int}(hw:1≤w∧w≤4096)(hi:i≤l.length)(hn:l.length≤4096):cands l i w 273=(rc l i 273 (min w i).toNat).1:=by
 rw[cands_eq];unfold rcands;rw[if_pos ⟨⟨hw.1,hw.2,by omega,by omega⟩,by omega,by omega,hn⟩]
theorem trN_mem {d:Int}{lo:Nat}:∀{n m:Nat},lo<m→m≤n→((m:Int),d,(0:Int))∈trN d lo n
 |0,m,_,h=>by omega
 |n+1,m,h1,h2=>by
  unfold trN
  rw[if_pos (by omega)]
  by_cases e:m=n+1
  ·subst e;exact List.mem_cons_self
  ·exact List.mem_cons_of_mem _ (trN_mem h1 (by omega))
theorem trK_mem {cs:List (Int × Int)}{t:Pc}:∀{n k:Nat},k<n→t∈trN cs[k]!.2 (shr cs k) cs[k]!.1.toNat→t∈trK cs n
 |0,k,h,_=>by omega
 |n+1,k,h,ht=>by
  unfold trK
  by_cases e:k=n
  ·subst e;exact List.mem_append_left _ ht
  ·exact List.mem_append_right _ (trK_mem (by omega) ht)
theorem trN_sorted {d:Int}{lo:Nat}:∀{n:Nat},(trN d lo n).Pairwise (fun a b=>b.1<a.1)
 |0=>.nil
 |n+1=>by
  unfold trN
  split
  ·refine List.Pairwise.cons (fun t ht=>?_) trN_sorted
   have:=trN_in ht
   show t.1<((n+1:Nat):Int);omega
  ·exact .nil
theorem trK_in {cs:List (Int × Int)}:∀{k:Nat} {t:Pc},t∈trK cs k→∃j,j<k∧t∈trN cs[j]!.2 (shr cs j) cs[j]!.1.toNat
 |0,t,h=>by cases h
 |k+1,t,h=>by
  rcases List.mem_append.1 h with h|h
  ·exact⟨k,by omega,h⟩
  ·obtain⟨j,h1,h2⟩:=trK_in h;exact⟨j,by omega,h2⟩
theorem rising_lt {cs:List (Int × Int)}(h:rising cs):∀{k j:Nat},j≤k→k<cs.length→cs[j]!.1≤cs[k]!.1
 |0,j,h1,h2=>by
   obtain rfl:j=0:=by omega
   exact Int.le_refl _
 |k+1,j,h1,h2=>by
  by_cases e:j=k+1
  ·subst e;exact Int.le_refl _
  ·have g1:=rising_lt h (k:=k) (j:=j) (by omega) (by omega)
   have g2:=rising_get h k h2
   omega
theorem trK_sorted {cs:List (Int × Int)}(h:rising cs)(hp:∀c∈cs,2≤c.1):∀{k:Nat},k≤cs.length→(trK cs k).Pairwise (fun a b=>b.1<a.1)
 |0,_=>.nil
 |k+1,hk=>by
  unfold trK
  refine List.pairwise_append.2 ⟨trN_sorted,trK_sorted h hp (by omega),fun a ha b hb=>?_⟩
  obtain⟨j,h1,h2⟩:=trK_in hb
  have g1:=trN_in ha
  have g2:=trN_in h2
  have g3:=rising_lt h (k:=k-1) (j:=j) (by omega) (by omega)
  have g4:=hp _ (bang_mem (show k-1<cs.length by omega))
  have g5:=hp _ (bang_mem (show j<cs.length by omega))
  unfold shr at g1
  rw[if_pos (by omega)]at g1
  omega
section
variable {l:List UInt8} {i:Nat} {w:Int} (hw:1≤w∧w≤4096) (hi:i<l.length) (hn:l.length≤4096)
 include hw hi hn
theorem cands_occ {n d:Nat}(hn2:2≤n)(h:((n:Int),(d:Int))∈cands l i w 273):occ l w i ((n:Int),(d:Int),0):=by
 have h0:=cands_in h
 rw[cands_rc hw (by omega) hn]at h
 obtain⟨e,h1,h2,h3,_⟩:=rc_mem l i 273 (by omega) _ _ h
 have h4:=congrArg Prod.fst h3
 have h5:=congrArg Prod.snd h3
 dsimp only at h0 h4 h5
 obtain rfl:d=e:=by omega
 have:=(atd_ge l i d n h1 (by omega) (by omega) hn2 (by omega)).1 (by omega)
 exact .inr ⟨n,d,rfl,hn2,by omega,h1,by omega,by omega,this⟩
theorem tries_sorted :(triesL l i w).Pairwise (fun a b=>b.1<a.1):=by
 unfold triesL
 have hr:rising (cands l i w 273):=by rw[cands_rc hw (by omega) hn];exact rc_rising _ _ _ _
 refine List.pairwise_append.2 ⟨trK_sorted hr (fun c hc=>(cands_in hc).1) (Nat.le_refl _),List.pairwise_singleton _ _,fun a ha b hb=>?_⟩
 obtain rfl:=List.mem_singleton.1 hb
 obtain⟨j,h1,h2⟩:=trK_in ha
 have:=shr_pos h1
 have:=(trN_in h2).1
 show 1<a.1;omega
theorem tries_occ {t:Pc}(ht:t∈triesL l i w):occ l w i t:=by
 rcases List.mem_append.1 ht with ht|ht
 ·obtain⟨j,h1,h2⟩:=trK_in ht
  have g1:=trN_in h2
  have g2:=shr_pos h1
  have g3:=cands_in (bang_mem h1)
  have g4:=bang_mem h1
  obtain⟨a,b,y⟩:=t
  obtain⟨n,rfl⟩:∃n:Nat,a=n:=⟨a.toNat,by dsimp only at g1;omega⟩
  obtain⟨N,D,hND⟩:∃N D:Nat,(cands l i w 273)[j]! = ((N:Int),(D:Int)):=⟨(cands l i w 273)[j]!.1.toNat,(cands l i w 273)[j]!.2.toNat,by rw[Int.toNat_of_nonneg (by omega),Int.toNat_of_nonneg (by omega)]⟩
  rw[hND]at g1 g3 g4
  dsimp only at g1 g3
  rcases cands_occ hw hi hn (by omega) g4 with⟨_,h⟩|⟨n',d',h,k1,k2,k3,k4,k5,k6,k7⟩
  ·have:=congrArg (·.2.1) h;change (D:Int)=0 at this;omega
  ·have e1:=congrArg (·.1) h
   have e2:=congrArg (·.2.1) h
   change (N:Int)=n' at e1
   change (D:Int)=d' at e2
   obtain rfl:N=n':=by omega
   obtain rfl:D=d':=by omega
   exact .inr ⟨n,D,by rw[g1.2.2.1,g1.2.2.2],by omega,by omega,k3,k4,k5,by omega,fun k hk=>k7 k (by omega)⟩
 ·obtain rfl:=List.mem_singleton.1 ht
  exact .inl ⟨hi,rfl⟩
theorem tries_cover {t:Pc}(ht:occ l w i t):∃u∈triesL l i w,u.1=t.1∧u.2.1≤t.2.1∧(t.2.1=0∧u=t∨1≤u.2.1):=by
 rcases ht with⟨h1,rfl⟩|⟨n,d,rfl,h1,h2,h3,h4,h5,h6,h7⟩
 ·exact⟨litP l i,List.mem_append_right _ List.mem_cons_self,rfl,Int.le_refl _,.inl ⟨rfl,rfl⟩⟩
 ·have ha:=(atd_ge l i d n h3 h5 (by omega) h1 h2).2 ⟨h6,h7⟩
  obtain⟨k,k1,k2,k3,k4⟩:=rc_first l i 273 n (by omega) (by omega) (min w i).toNat d h3 (by omega) ha
  rw[←cands_rc hw (by omega) hn]at k1 k2 k3 k4
  have g3:=cands_in (bang_mem k1)
  refine⟨((n:Int),(cands l i w 273)[k]!.2,0),List.mem_append_left _ (trK_mem k1 (trN_mem ?_ (by omega))),rfl,k3,.inr (by dsimp only;omega)⟩
  unfold shr
  split
  ·have:=k4 (k-1) (by omega);omega
  ·omega
end
theorem price_mono {c:Cst}{n d e:Int}{y z:Int}(hc:vC c)(h1:1≤d)(h2:d≤e):price c (n,d,y)≤price c (n,e,z):=by
 unfold price
 dsimp only
 rw[if_neg (by omega),if_neg (by omega)]
 have:iblen d≤iblen e:=by unfold iblen;have:=blen_mono (n:=d.toNat) (m:=e.toNat) (by omega);omega
 have:=Int.mul_le_mul_of_nonneg_left this hc.2.2.1.1
 omega
end Go.Proofs.YteddogfolceahaaGreatDoor
end
