/- Part 6 of the proof of the law TopDamage: texts merged. No condition. -/
import Derived.Test.YteddogfolceahaaGreatZTopDamageE
set_option linter.unusedSimpArgs false
set_option linter.unusedVariables false
section
set_option maxRecDepth 4000
namespace Go.Proofs.YteddogfolceahaaGreat
open Go.Gh Go.RowKit

abbrev nOk (z:Int):Prop:=0≤z∧z≤4611686018427387903
instance (L:List Int):Decidable (∀z∈L,nOk z):=inferInstance
def mEncN (L:List Int):List UInt8 × Int:=if 4096<L.length then([],9)else if ∀z∈L,nOk z then(if L.length=0 then vnum 0 else vnum L.length++fin (nencN L L.length 0 (List.replicate 64 1024) encZ),0)else([],2)
theorem ibang_mem {L:List Int}{i:Nat}(h:i<L.length):L[i]!∈L:=by rw[getElem!_pos L i h];exact List.getElem_mem h
theorem all_bang {L:List Int}(h:∀j,j<L.length→nOk L[j]!):∀z∈L,nOk z:=by
 intro z hz
 obtain⟨i,hi,rfl⟩:=List.mem_iff_getElem.1 hz
 have:=h i hi
 rwa [getElem!_pos L i hi]at this
theorem EncodeNumbers_any (L:List Int)(v:Value)(h:SH)(hv:Has h (nodes L) 1 L.length v)(hl:L.length≤maxLen):SRun Tryz.prog 87 [v] h fun r q=>r=.tuple #[S (mEncN L).1,I (mEncN L).2]∧q=h:=by
 obtain⟨ad,fl,rfl,hh⟩:=id hv
 by_cases h0:4096<L.length
 ·rw[show mEncN L=([],9)from if_pos h0]
  refine zR Tryz.func87 rfl rfl ?_
  repeat'(first|apply zF|apply zB|apply zE|(apply o_g zC;exact rfl;exact rfl)|(apply yC;exact rfl;(focus first|omega))|apply zA|apply zP|apply zN|((with_reducible apply Sd.mk);first|exact True.intro))
  all_goals first
   |(exfalso;omega)
   |(apply zL;(exact(show ResS _ _ _ _ [_,_] from⟨rfl,⟨rfl,trivial⟩⟩));(focus exact⟨rfl,rfl⟩);(focus repeat with_reducible first|exact Take.nil|apply Take.c|apply Take.drop))
 ·have hE:=fun M N=>encodeI_any M N (List.replicate 64 1024) L (.slice ad L.length fl) h hv (by omega) List.length_replicate
  have hm:mEncN L=if ∀z∈L,nOk z then(if L.length=0 then vnum 0 else vnum L.length++fin (nencN L L.length 0 (List.replicate 64 1024) encZ),0)else([],2):=if_neg h0
  rw[hm]
  have hB:∀h,SRun Tryz.prog 75 [] h fun r q=>∃M N,r=gptr M 0 2∧q=(M,⟨numC N,false⟩)::(N,⟨nodes (List.replicate 64 1024),false⟩)::h:=NewNumbers_any
  generalize (if L.length=0 then vnum 0 else vnum L.length++fin (nencN L L.length 0 (List.replicate 64 1024) encZ))=R at *
  generalize (List.replicate 64 1024:List Int)=X at *
  have hlb:(nodes L).length=L.length:=by simp
  refine zR Tryz.func87 rfl rfl ?_
  repeat'(first|apply zF|apply zB|apply zE|(apply o_g zC;exact rfl;exact rfl)|(apply yD;exact rfl;(focus first|omega))|apply zA|apply zI|apply zH|((with_reducible apply Sd.mk);first|exact True.intro))
  all_goals first|(exfalso;omega)|skip
  refine zZ (S:=Nat) (fun i=>[(0,.slice ad L.length fl),(9,.slice ad L.length fl),(10,I L.length),(11,I i)]) (fun _=>h) (fun i=>i≤L.length∧∀j,j<i→nOk L[j]!) (fun i=>L.length-i) 0 ⟨Nat.zero_le _,fun j hj=>absurd hj (Nat.not_lt_zero _)⟩ (by repeat'(first|exact trivial|refine⟨rfl,?_⟩|refine⟨congrArg some ?_,?_⟩)) (by repeat with_reducible first|exact Take.nil|apply Take.c|apply Take.drop) ?_
  rintro i ⟨hi,hall⟩
  by_cases hil:i<L.length
  ·obtain⟨A,ro,h1,rfl,hp⟩:=hh (by omega)
   obtain⟨z,hz⟩:∃z,z=L[i]!:=⟨_,rfl⟩
   have hcl:(nodes L)[0+((i:Int)).toNat*1]?=some (I z):=by rw[hz];exact yM hil
   repeat'(first|apply zF|apply zB|apply zE|(apply o_g zC;exact rfl;exact rfl)|(apply o_ar zC;exact rfl;exact rfl)|(apply zM zC;(iterate 3 exact rfl);(focus exact pk))|(apply zU;exact rfl;exact rfl)|(apply yF;iterate 4 exact rfl)|(apply o_guardF;(iterate 3 exact rfl);all_goals intro hc)|(apply yB;exact rfl)|(apply yC;exact rfl;(focus first|omega))|(apply w_if;exact rfl;all_goals intro hc)|apply zA|apply zP|apply zG|apply yP|apply zI|apply zN|apply zH|((with_reducible apply Sd.mk);first|exact True.intro|omega)|((with_reducible apply Ln.mk);first|(simp[hlb];first|done|omega))|((with_reducible apply Wr.mk);first|exact IntWalk.i64_in _ (by omega))|((with_reducible apply Ce.mk);first|exact ‹_›)|exact True.intro|exact rfl)
   all_goals first
    |(exfalso;omega)
    |exact⟨i+1,⟨hil,fun j hj=>by
      by_cases e:j=i
      ·rw[e,←hz];omega
      ·exact hall j (by omega)⟩,by show L.length-(i+1)<L.length-i;omega,(by repeat'(first|exact trivial|refine⟨rfl,?_⟩|refine⟨congrArg some ?_,?_⟩)),(by repeat with_reducible first|exact Take.nil|apply Take.c|apply Take.drop)⟩
    |(rw[if_neg (fun g=>by have:=g z (by rw[hz];exact ibang_mem hil);omega)];(apply zL;(exact(show ResS _ _ _ _ [_,_] from⟨rfl,⟨rfl,trivial⟩⟩));(focus exact⟨rfl,rfl⟩);(focus repeat with_reducible first|exact Take.nil|apply Take.c|apply Take.drop)))
  ·obtain rfl:i=L.length:=by omega
   rw[if_pos (all_bang hall)]
   repeat'(first|apply zF|apply zB|apply zE|(apply o_g zC;exact rfl;exact rfl)|(apply zD;exact rfl;exact rfl;(focus first|exact rfl);exact rfl;(focus exact⟨_,hB _,by repeat with_reducible exact Take.nil⟩);rintro _ _ ⟨M,N,rfl,rfl⟩)|(apply yD;exact rfl;(focus first|omega))|apply zA|apply zK|apply zJ|apply zV|((with_reducible apply Sd.mk);first|exact True.intro))
   all_goals first|(exfalso;omega)|skip
   refine o_iface (d:=.pointer 149) rfl (by kernel_rfl) rfl rfl ?_
   repeat'(first|apply zE|(apply o_g zC;exact rfl;exact rfl)|(apply zD;exact rfl;exact rfl;(focus first|exact rfl);exact rfl;(focus exact⟨_,hE M N,by repeat with_reducible exact Take.nil⟩);rintro _ _ ⟨rfl,rfl⟩)|apply zA|apply zN|((with_reducible apply Sd.mk);first|exact True.intro))
   all_goals first
    |(exfalso;omega)
    |(apply zL;(exact(show ResS _ _ _ _ [_,_] from⟨rfl,⟨rfl,trivial⟩⟩));(focus exact⟨rfl,rfl⟩);(focus repeat with_reducible first|exact Take.nil|apply Take.c|apply Take.drop))

def vb1 (f:Int)(i:Nat):Int:=((BitVec.ofInt 8 f&&&BitVec.ofInt 8 (128/2^i)).toNat:Int)
def vlow (f:Int)(k:Nat):Int:=((BitVec.ofInt 8 f&&&BitVec.ofInt 8 (127/2^k)).toNat:Int)
def vlead (f:Int):Nat→Nat→Nat
 |0,i=>i
 |n+1,i=>if vb1 f i≠0 then vlead f n (i+1)else i
def vacc (l:List UInt8):Nat→Nat→Int→Int
 |0,_,v=>v
 |n+1,i,v=>vacc l n (i+1) (v*256+bat l (i:Int))
theorem vlow_in (f:Int){k:Nat}(hk:k≤8):0≤vlow f k∧vlow f k<2^(7-k):=by
 unfold vlow
 refine⟨Int.natCast_nonneg _,?_⟩
 have h1:(BitVec.ofInt 8 f&&&BitVec.ofInt 8 (127/2^k)).toNat≤(BitVec.ofInt 8 (127/2^k)).toNat:=by
  rw[BitVec.toNat_and];exact Nat.and_le_right
 have h2:((BitVec.ofInt 8 (127/2^k)).toNat:Int)<2^(7-k):=by
  have:k=0∨k=1∨k=2∨k=3∨k=4∨k=5∨k=6∨k=7∨k=8:=by omega
  rcases this with rfl|rfl|rfl|rfl|rfl|rfl|rfl|rfl|rfl <;> decide
 omega
theorem pow_cap {k:Nat}(hk:k≤8):(2:Int)^(7-k)*256^k≤18446744073709551616:=by
 have:k=0∨k=1∨k=2∨k=3∨k=4∨k=5∨k=6∨k=7∨k=8:=by omega
 rcases this with rfl|rfl|rfl|rfl|rfl|rfl|rfl|rfl|rfl <;> decide
theorem or256 {v b:Int}(hv:0≤v∧v*256<18446744073709551616)(hb:0≤b∧b<256):IntKind.u64.wrap ((BitVec.ofInt IntKind.u64.bits (v*256) ||| BitVec.ofInt IntKind.u64.bits b).toNat:Int)=v*256+b:=by
 obtain⟨x,rfl⟩:=Int.eq_ofNat_of_zero_le hv.1
 obtain⟨y,rfl⟩:=Int.eq_ofNat_of_zero_le hb.1
 have e:(BitVec.ofInt 64 ((x*256:Nat):Int) ||| BitVec.ofInt 64 (y:Int)).toNat=x*256+y:=by
  rw[BitVec.ofInt_natCast,BitVec.ofInt_natCast,BitVec.toNat_or,BitVec.toNat_ofNat,BitVec.toNat_ofNat,Nat.mod_eq_of_lt (by omega),Nat.mod_eq_of_lt (by omega),Nat.mul_comm x 256]
  have:=Nat.two_pow_add_eq_or_of_lt (i:=8) (b:=y) (by omega) x
  exact this.symm
 rw[show IntKind.u64.bits=64 from rfl,show((x:Int))*256=((x*256:Nat):Int)by omega,e,IntWalk.u64_in _ (by omega)]
 omega
def vpeek (l:List UInt8):Int × Int × Bool :=
 if l.length=0 then(0,0,false)else
 if l.length<vlead (bat l 0) 8 0+1 then(0,0,false)else
 if 9223372036854775807-vbnd (vlead (bat l 0) 8 0)<vacc l (vlead (bat l 0) 8 0) 1 (vlow (bat l 0) (vlead (bat l 0) 8 0))then(0,0,false)else
 (vacc l (vlead (bat l 0) 8 0) 1 (vlow (bat l 0) (vlead (bat l 0) 8 0))+vbnd (vlead (bat l 0) 8 0),(vlead (bat l 0) 8 0:Int)+1,true)

theorem one_le_256 (m:Nat):(1:Int)≤256^m:=by
 have h:0<256^m:=Nat.pow_pos (by decide:0<256)
 have e:((256:Int)^m)=((256^m:Nat):Int):=by rw[Int.natCast_pow];rfl
 rw[e];omega
theorem peek_any (n:Nat)(l:List UInt8)(e:Int)(h:SH)(hl:l.length≤1000000):SRun Tryz.prog 116 [gptr n 0 2] (rdB n l e::h) fun r q=>r=.tuple #[I (vpeek l).1,I (vpeek l).2.1,B (vpeek l).2.2]∧q=rdB n l e::h:=by
 by_cases h0:l.length=0
 ·obtain rfl:l=[]:=List.length_eq_zero_iff.1 h0
  rw[show vpeek []=(0,0,false)from rfl]
  refine zR Tryz.func116 rfl rfl ?_
  repeat'(first|apply zF|apply zB|apply zE|(apply o_g zC;exact rfl;exact rfl)|(apply zM zC;(iterate 3 exact rfl);(focus exact pk))|(apply yB;exact rfl)|apply zA|apply zP|apply zN|((with_reducible apply Sd.mk);first|exact True.intro)|((with_reducible apply Ln.mk);first|rfl)|((with_reducible apply Ce.mk);first|rfl)|exact True.intro|exact rfl)
  all_goals first
   |(exfalso;omega)
   |contradiction
   |(apply zL;(exact(show ResS _ _ _ _ [_,_,_] from⟨rfl,⟨rfl,⟨rfl,trivial⟩⟩⟩));(focus exact⟨rfl,rfl⟩);(focus repeat with_reducible first|exact Take.nil|apply Take.c|apply Take.drop))
 ·have hne:l≠[]:=fun g=>h0 (by rw[g];rfl)
  obtain⟨f,hf⟩:∃f,f=bat l 0:=⟨_,rfl⟩
  have hf2:=bat_255 l 0
  rw[←hf]at hf2
  obtain⟨K,hK⟩:∃K,vlead f 8 0=K:=⟨_,rfl⟩
  have hv:vpeek l=if l.length<K+1 then(0,0,false)else if 9223372036854775807-vbnd K<vacc l K 1 (vlow f K)then(0,0,false)else(vacc l K 1 (vlow f K)+vbnd K,(K:Int)+1,true):=by
   unfold vpeek;rw[if_neg h0,←hf,hK]
  rw[hv]
  refine zR Tryz.func116 rfl rfl ?_
  repeat'(first|apply zF|apply zB|apply zE|(apply o_g zC;exact rfl;exact rfl)|(apply zM zC;(iterate 3 exact rfl);(focus exact pk))|(apply yD;exact rfl;(focus first|omega))|apply zA|apply zI|apply zH|((with_reducible apply Sd.mk);first|exact True.intro|omega)|((with_reducible apply Ln.mk);first|rfl)|((with_reducible apply Ce.mk);first|rfl)|exact True.intro|exact rfl)
  all_goals first|contradiction|(exfalso;omega)|skip
  refine zZ (S:=Nat) (fun i=>[(0,gptr n 0 2),(5,Y f),(6,I i)]) (fun _=>rdB n l e::h) (fun i=>i≤8∧vlead f (8-i) i=K) (fun i=>8-i) 0 ⟨Nat.zero_le _,hK⟩ ⟨rfl,by rw[hf];rfl,rfl,trivial⟩ (by repeat with_reducible first|exact Take.nil|apply Take.c|apply Take.drop) ?_
  rintro i ⟨hi,he⟩
  have hsh:(128:Int)/2^(min ((i:Int)).toNat IntKind.u8.bits)=128/2^i:=by rw[Int.toNat_natCast,show IntKind.u8.bits=8 from rfl,Nat.min_eq_left hi]
  have hand:IntKind.u8.wrap ((BitVec.ofInt IntKind.u8.bits f&&&BitVec.ofInt IntKind.u8.bits (128/2^i)).toNat:Int)=vb1 f i:=by
   show IntKind.u8.wrap (vb1 f i)=vb1 f i
   have:0≤vb1 f i∧vb1 f i<256:=by
    unfold vb1
    have:=(BitVec.ofInt 8 f&&&BitVec.ofInt 8 (128/2^i)).isLt
    omega
   exact IntWalk.u8_in _ (by omega)
  by_cases hgo:i<8∧vb1 f i≠0
  ·obtain⟨hg1,hg2⟩:=hgo
   have hst:vlead f (8-i) i=vlead f (8-(i+1)) (i+1):=by rw[show 8-i=(8-(i+1))+1 by omega];exact if_pos hg2
   rw[hst]at he
   repeat'(first|apply zF|apply zB|apply zE|(apply o_g zC;exact rfl;exact rfl)|(apply o_ar zC;exact rfl;exact rfl)|(apply o_ex;exact rfl;exact rfl)|(apply zU;exact rfl;exact rfl)|(apply o_gT;(iterate 3 exact rfl);(focus first|omega))|(apply yC;exact rfl;(focus first|omega))|apply zA|apply zG|apply zI|apply zH|((with_reducible apply Sd.mk);first|exact True.intro|omega)|((with_reducible apply Wr.mk);first|exact hand|exact IntWalk.i64_in _ (by omega))|((with_reducible apply Ex.mk);first|exact hsh))
   all_goals first
    |(exfalso;omega)
    |exact⟨i+1,⟨hg1,he⟩,by show 8-(i+1)<8-i;omega,(by repeat'(first|exact trivial|refine⟨rfl,?_⟩|refine⟨congrArg some ?_,?_⟩)),(by repeat with_reducible first|exact Take.nil|apply Take.c|apply Take.drop)⟩
  ·have hKi:i=K:=by
    rw[←he]
    by_cases h8:i<8
    ·have hz:¬vb1 f i≠0:=fun g=>hgo ⟨h8,g⟩
     rw[show 8-i=(8-(i+1))+1 by omega]
     exact(if_neg hz).symm
    ·rw[show 8-i=0 by omega];rfl
   subst hKi
   by_cases hs:l.length<i+1
   ·rw[if_pos hs]
    repeat'(first|apply zF|apply zB|apply zE|(apply o_g zC;exact rfl;exact rfl)|(apply o_ar zC;exact rfl;exact rfl)|(apply o_ex;exact rfl;exact rfl)|(apply zM zC;(iterate 3 exact rfl);(focus exact pk))|(apply zU;exact rfl;exact rfl)|(apply yF;iterate 4 exact rfl)|(apply o_guardT;(iterate 3 exact rfl);all_goals intro hc)|(apply zS;exact rfl)|(apply yC;exact rfl;(focus first|omega))|(apply yD;exact rfl;(focus first|omega))|apply zA|apply zP|apply zK|apply zJ|apply zN|apply zV|((with_reducible apply Sd.mk);first|exact True.intro|omega)|((with_reducible apply Ln.mk);first|rfl)|((with_reducible apply Wr.mk);first|exact hand|exact IntWalk.i64_in _ (by omega))|((with_reducible apply Ex.mk);first|exact hsh)|((with_reducible apply Ce.mk);first|rfl)|exact True.intro|exact rfl)
    all_goals first
     |(exfalso;omega)
     |(exfalso;exact hgo ⟨by omega,by assumption⟩)
     |(apply zL;(exact(show ResS _ _ _ _ [_,_,_] from⟨rfl,⟨rfl,⟨rfl,trivial⟩⟩⟩));(focus exact⟨rfl,rfl⟩);(focus repeat with_reducible first|exact Take.nil|apply Take.c|apply Take.drop))
   ·rw[if_neg hs]
    have hsh2:(127:Int)/2^(min ((i:Int)).toNat IntKind.u8.bits)=127/2^i:=by rw[Int.toNat_natCast,show IntKind.u8.bits=8 from rfl,Nat.min_eq_left hi]
    have hlo:=vlow_in f hi
    have hlo2:vlow f i<256:=by
     unfold vlow
     have:=(BitVec.ofInt 8 f&&&BitVec.ofInt 8 (127/2^i)).isLt
     omega
    have hand2:IntKind.u8.wrap ((BitVec.ofInt IntKind.u8.bits f&&&BitVec.ofInt IntKind.u8.bits (127/2^i)).toNat:Int)=vlow f i:=by
     show IntKind.u8.wrap (vlow f i)=vlow f i
     exact IntWalk.u8_in _ (by omega)
    repeat'(first|apply zF|apply zB|apply zE|(apply o_g zC;exact rfl;exact rfl)|(apply o_ar zC;exact rfl;exact rfl)|(apply o_ex;exact rfl;exact rfl)|(apply zM zC;(iterate 3 exact rfl);(focus exact pk))|(apply zU;exact rfl;exact rfl)|(apply yF;iterate 4 exact rfl)|(apply o_guardT;(iterate 3 exact rfl);all_goals intro hc)|(apply zS;exact rfl)|(apply yD;exact rfl;(focus first|omega))|apply zA|apply zK|apply zJ|apply zI|apply zV|apply zH|((with_reducible apply Sd.mk);first|exact True.intro|omega)|((with_reducible apply Ln.mk);first|rfl)|((with_reducible apply Wr.mk);first|exact hand|exact hand2|exact IntWalk.i64_in _ (by omega)|exact IntWalk.u64_in _ (by omega))|((with_reducible apply Ex.mk);first|exact hsh|exact hsh2)|((with_reducible apply Ce.mk);first|rfl)|exact True.intro|exact rfl)
    all_goals first
     |(exfalso;omega)
     |(exfalso;exact hgo ⟨by omega,by assumption⟩)
     |skip
    ·have hcap:=pow_cap hi
     obtain⟨R,hR⟩:∃R,vacc l i 1 (vlow f i)=R:=⟨_,rfl⟩
     have hbd:=vbnd_in i hi
     have hBo:=fun h=>bound_any i h hi
     rw[hR]
     generalize hT:(2:Int)^(7-i)*256^i=T at hcap
     refine zZ (S:=Nat × Int × Int) (fun x=>[(0,gptr n 0 2),(6,I i),(7,.int .u64 x.2.1),(8,I ((x.1:Int)+1))]) (fun _=>rdB n l e::h) (fun x=>x.1≤i∧(0≤x.2.1∧x.2.1<x.2.2∧x.2.2*256^(i-x.1)=T)∧vacc l (i-x.1) (x.1+1) x.2.1=R) (fun x=>i-x.1) (0,vlow f i,2^(7-i)) ⟨Nat.zero_le _,⟨hlo.1,hlo.2,hT⟩,hR⟩ (by repeat'(first|exact trivial|refine⟨rfl,?_⟩|refine⟨congrArg some ?_,?_⟩)) (by repeat with_reducible first|exact Take.nil|apply Take.c|apply Take.drop) ?_
     rintro⟨j,v,W⟩ ⟨hj,⟨hv0,hvW,hWT⟩,he2⟩
     dsimp only at hj hv0 hvW hWT he2 ⊢
     by_cases hji:j<i
     ·rw[show i-j=(i-(j+1))+1 by omega]at hWT he2
      have he2:vacc l (i-(j+1)) (j+1+1) (v*256+bat l ((j:Int)+1))=R:=he2
      rw[Int.pow_succ,Int.mul_comm (256^(i-(j+1))) 256,←Int.mul_assoc]at hWT
      have hp1:(1:Int)≤256^(i-(j+1)):=one_le_256 _
      have hle:=Int.mul_le_mul_of_nonneg_left hp1 (show 0≤W*256 by omega)
      rw[hWT]at hle
      have hb:=bat_255 l ((j:Int)+1)
      have hshl:IntKind.u64.wrap (v*2^(min (Int.toNat 8) IntKind.u64.bits))=v*256:=by
       rw[show(2:Int)^(min (Int.toNat 8) IntKind.u64.bits)=256 from rfl]
       exact IntWalk.u64_in _ (by omega)
      have hor:=or256 (v:=v) (b:=bat l ((j:Int)+1)) (by omega) (by omega)
      repeat'(first|apply zF|apply zB|apply zE|(apply o_g zC;exact rfl;exact rfl)|(apply o_ar zC;exact rfl;exact rfl)|(apply zM zC;(iterate 3 exact rfl);(focus exact pk))|(apply yC;exact rfl;(focus first|omega))|apply zA|apply zG|apply zI|apply zH|((with_reducible apply Sd.mk);first|exact True.intro|omega)|((with_reducible apply Ln.mk);first|rfl)|((with_reducible apply Wr.mk);first|exact hshl|exact hor|exact IntWalk.i64_in _ (by omega)|exact IntWalk.u64_in _ (by omega))|((with_reducible apply Ce.mk);first|rfl)|exact True.intro|exact rfl)
      all_goals first
       |(exfalso;omega)
       |exact⟨(j+1,v*256+bat l ((j:Int)+1),W*256),⟨hji,⟨by dsimp only;omega,by dsimp only;omega,hWT⟩,he2⟩,by show i-(j+1)<i-j;omega,(by repeat'(first|exact trivial|refine⟨rfl,?_⟩|refine⟨congrArg some ?_,?_⟩)),(by repeat with_reducible first|exact Take.nil|apply Take.c|apply Take.drop)⟩
     ·obtain rfl:j=i:=by omega
      rw[Nat.sub_self]at hWT he2
      rw[Int.pow_zero,Int.mul_one]at hWT
      have he2:v=R:=he2
      rw[←he2]
      repeat'(first|apply zF|apply zB|apply zE|(apply o_g zC;exact rfl;exact rfl)|(apply o_ar zC;exact rfl;exact rfl)|(apply zD;exact rfl;exact rfl;(focus first|exact rfl);exact rfl;(focus exact⟨_,hBo _,by repeat with_reducible exact Take.nil⟩);rintro _ _ ⟨rfl,rfl⟩)|(apply yD;exact rfl;(focus first|omega))|(apply w_if;exact rfl;all_goals intro hc)|apply zA|apply zP|apply zK|apply zJ|apply zI|apply zN|apply zV|((with_reducible apply Sd.mk);first|exact True.intro)|((with_reducible apply Wr.mk);first|exact IntWalk.i64_in _ (by omega)|exact IntWalk.u64_in _ (by omega)))
      all_goals first
       |(exfalso;omega)
       |(rw[if_pos (by assumption)];(apply zL;(exact(show ResS _ _ _ _ [_,_,_] from⟨rfl,⟨rfl,⟨rfl,trivial⟩⟩⟩));(focus exact⟨rfl,rfl⟩);(focus repeat with_reducible first|exact Take.nil|apply Take.c|apply Take.drop)))
       |(rw[if_neg (by assumption)];(apply zL;(exact(show ResS _ _ _ _ [_,_,_] from⟨rfl,⟨rfl,⟨rfl,trivial⟩⟩⟩));(focus exact⟨rfl,rfl⟩);(focus repeat with_reducible first|exact Take.nil|apply Take.c|apply Take.drop)))
    ·have hcap:=pow_cap hi
     obtain⟨R,hR⟩:∃R,vacc l i 1 (vlow f i)=R:=⟨_,rfl⟩
     have hbd:=vbnd_in i hi
     have hBo:=fun h=>bound_any i h hi
     rw[hR]
     generalize hT:(2:Int)^(7-i)*256^i=T at hcap
     refine zZ (S:=Nat × Int × Int) (fun x=>[(0,gptr n 0 2),(6,I i),(7,.int .u64 x.2.1),(8,I ((x.1:Int)+1))]) (fun _=>rdB n l e::h) (fun x=>x.1≤i∧(0≤x.2.1∧x.2.1<x.2.2∧x.2.2*256^(i-x.1)=T)∧vacc l (i-x.1) (x.1+1) x.2.1=R) (fun x=>i-x.1) (0,vlow f i,2^(7-i)) ⟨Nat.zero_le _,⟨hlo.1,hlo.2,hT⟩,hR⟩ (by repeat'(first|exact trivial|refine⟨rfl,?_⟩|refine⟨congrArg some ?_,?_⟩)) (by repeat with_reducible first|exact Take.nil|apply Take.c|apply Take.drop) ?_
     rintro⟨j,v,W⟩ ⟨hj,⟨hv0,hvW,hWT⟩,he2⟩
     dsimp only at hj hv0 hvW hWT he2 ⊢
     by_cases hji:j<i
     ·rw[show i-j=(i-(j+1))+1 by omega]at hWT he2
      have he2:vacc l (i-(j+1)) (j+1+1) (v*256+bat l ((j:Int)+1))=R:=he2
      rw[Int.pow_succ,Int.mul_comm (256^(i-(j+1))) 256,←Int.mul_assoc]at hWT
      have hp1:(1:Int)≤256^(i-(j+1)):=one_le_256 _
      have hle:=Int.mul_le_mul_of_nonneg_left hp1 (show 0≤W*256 by omega)
      rw[hWT]at hle
      have hb:=bat_255 l ((j:Int)+1)
      have hshl:IntKind.u64.wrap (v*2^(min (Int.toNat 8) IntKind.u64.bits))=v*256:=by
       rw[show(2:Int)^(min (Int.toNat 8) IntKind.u64.bits)=256 from rfl]
       exact IntWalk.u64_in _ (by omega)
      have hor:=or256 (v:=v) (b:=bat l ((j:Int)+1)) (by omega) (by omega)
      repeat'(first|apply zF|apply zB|apply zE|(apply o_g zC;exact rfl;exact rfl)|(apply o_ar zC;exact rfl;exact rfl)|(apply zM zC;(iterate 3 exact rfl);(focus exact pk))|(apply yC;exact rfl;(focus first|omega))|apply zA|apply zG|apply zI|apply zH|((with_reducible apply Sd.mk);first|exact True.intro|omega)|((with_reducible apply Ln.mk);first|rfl)|((with_reducible apply Wr.mk);first|exact hshl|exact hor|exact IntWalk.i64_in _ (by omega)|exact IntWalk.u64_in _ (by omega))|((with_reducible apply Ce.mk);first|rfl)|exact True.intro|exact rfl)
      all_goals first
       |(exfalso;omega)
       |exact⟨(j+1,v*256+bat l ((j:Int)+1),W*256),⟨hji,⟨by dsimp only;omega,by dsimp only;omega,hWT⟩,he2⟩,by show i-(j+1)<i-j;omega,(by repeat'(first|exact trivial|refine⟨rfl,?_⟩|refine⟨congrArg some ?_,?_⟩)),(by repeat with_reducible first|exact Take.nil|apply Take.c|apply Take.drop)⟩
     ·obtain rfl:j=i:=by omega
      rw[Nat.sub_self]at hWT he2
      rw[Int.pow_zero,Int.mul_one]at hWT
      have he2:v=R:=he2
      rw[←he2]
      repeat'(first|apply zF|apply zB|apply zE|(apply o_g zC;exact rfl;exact rfl)|(apply o_ar zC;exact rfl;exact rfl)|(apply zD;exact rfl;exact rfl;(focus first|exact rfl);exact rfl;(focus exact⟨_,hBo _,by repeat with_reducible exact Take.nil⟩);rintro _ _ ⟨rfl,rfl⟩)|(apply yD;exact rfl;(focus first|omega))|(apply w_if;exact rfl;all_goals intro hc)|apply zA|apply zP|apply zK|apply zJ|apply zI|apply zN|apply zV|((with_reducible apply Sd.mk);first|exact True.intro)|((with_reducible apply Wr.mk);first|exact IntWalk.i64_in _ (by omega)|exact IntWalk.u64_in _ (by omega)))
      all_goals first
       |(exfalso;omega)
       |(rw[if_pos (by assumption)];(apply zL;(exact(show ResS _ _ _ _ [_,_,_] from⟨rfl,⟨rfl,⟨rfl,trivial⟩⟩⟩));(focus exact⟨rfl,rfl⟩);(focus repeat with_reducible first|exact Take.nil|apply Take.c|apply Take.drop)))
       |(rw[if_neg (by assumption)];(apply zL;(exact(show ResS _ _ _ _ [_,_,_] from⟨rfl,⟨rfl,⟨rfl,trivial⟩⟩⟩));(focus exact⟨rfl,rfl⟩);(focus repeat with_reducible first|exact Take.nil|apply Take.c|apply Take.drop)))

theorem same_any (x:Int)(h:SH):SRun Tryz.prog 80 [I x] h fun r q=>r=I x∧q=h:=by
 refine zR Tryz.func80 rfl rfl ?_
 repeat'(first|apply zF|apply zB|apply zE|(apply o_g zC;exact rfl;exact rfl)|apply zA|apply zN|((with_reducible apply Sd.mk);first|exact True.intro))
 all_goals first
  |(apply zL;(exact(show ResS _ _ _ _ [_] from⟨rfl,trivial⟩));(focus exact⟨rfl,rfl⟩);(focus repeat with_reducible first|exact Take.nil|apply Take.c|apply Take.drop))
def rdN (l:List UInt8)(m:Int):Int × List UInt8 × Int :=
 if(vpeek l).2.2=false then(0,l,12)else if(vpeek l).1<0∨m<(vpeek l).1 then(0,l,2)else((vpeek l).1,l.drop (vpeek l).2.1.toNat,0)
theorem vpeek_len (l:List UInt8):0≤(vpeek l).2.1∧(vpeek l).2.1≤l.length:=by
 unfold vpeek
 split
 ·simp
 ·split
  ·simp
  ·split
   ·simp
   ·dsimp only;omega
theorem read_any (n:Nat)(l:List UInt8)(m:Int)(h:SH)(hl:l.length≤1000000):SRun Tryz.prog 79 [gptr n 0 2,.func (.func 80) ⟨[]⟩ ⟨[]⟩,I 0,I m] (rdB n l 0::h) fun r q =>
  r=I (rdN l m).1∧q=rdB n (rdN l m).2.1 (rdN l m).2.2::h:=by
 have hP:=peek_any n l 0 h hl
 have hlen:=vpeek_len l
 unfold rdN
 generalize vpeek l=V at *
 obtain⟨a,s,ok⟩:=V
 dsimp only at *
 by_cases h0:ok=false
 ·subst h0
  rw[if_pos rfl]
  refine w_body4 Tryz.func79 rfl rfl ?_
  repeat'(first|apply zF|apply zB|apply zE|(apply o_g zC;exact rfl;exact rfl)|(apply yR;exact rfl;exact rfl)|(apply zM zC;(iterate 3 exact rfl);(focus exact pk))|(apply zD;exact rfl;exact rfl;(focus first|exact rfl);exact rfl;(focus exact⟨_,hP,by repeat with_reducible exact Take.nil⟩);rintro _ _ ⟨rfl,rfl⟩)|(apply zD;exact rfl;exact rfl;(focus first|exact rfl);exact rfl;(focus exact⟨_,same_any _ _,by repeat with_reducible exact Take.nil⟩);rintro _ _ ⟨rfl,rfl⟩)|(apply zD;exact rfl;exact rfl;(focus first|exact rfl);exact rfl;(focus exact⟨_,rfail_any _ _ _ _ _,by repeat with_reducible exact Take.nil⟩);rintro _ _ rfl)|(apply yB;exact rfl)|(apply zS;exact rfl)|apply zA|apply zG|apply zI|apply zN|apply zH|((with_reducible apply Sd.mk);first|exact True.intro)|((with_reducible apply Ln.mk);first|rfl)|((with_reducible apply Ce.mk);first|rfl)|exact True.intro|exact rfl)
  all_goals first
   |contradiction
   |(exfalso;omega)
   |(apply zL;(exact(show ResS _ _ _ _ [_] from⟨rfl,trivial⟩));(focus exact⟨rfl,rfl⟩);(focus repeat with_reducible first|exact Take.nil|apply Take.c|apply Take.drop))
 ·obtain rfl:ok=true:=by simpa using h0
  rw[if_neg (by decide)]
  by_cases h1:a<0∨m<a
  ·rw[if_pos h1]
   refine w_body4 Tryz.func79 rfl rfl ?_
   repeat'(first|apply zF|apply zB|apply zE|(apply o_g zC;exact rfl;exact rfl)|(apply yR;exact rfl;exact rfl)|(apply zM zC;(iterate 3 exact rfl);(focus exact pk))|(apply zD;exact rfl;exact rfl;(focus first|exact rfl);exact rfl;(focus exact⟨_,hP,by repeat with_reducible exact Take.nil⟩);rintro _ _ ⟨rfl,rfl⟩)|(apply zD;exact rfl;exact rfl;(focus first|exact rfl);exact rfl;(focus exact⟨_,same_any _ _,by repeat with_reducible exact Take.nil⟩);rintro _ _ ⟨rfl,rfl⟩)|(apply zD;exact rfl;exact rfl;(focus first|exact rfl);exact rfl;(focus exact⟨_,rfail_any _ _ _ _ _,by repeat with_reducible exact Take.nil⟩);rintro _ _ rfl)|(apply zU;exact rfl;exact rfl)|(apply yF;iterate 4 exact rfl)|(apply o_guardF;(iterate 3 exact rfl);all_goals intro hc)|(apply yB;exact rfl)|(apply zS;exact rfl)|(apply yC;exact rfl;(focus first|omega))|apply zA|apply zG|apply zI|apply zN|apply zH|((with_reducible apply Sd.mk);first|exact True.intro)|((with_reducible apply Ln.mk);first|rfl)|((with_reducible apply Ce.mk);first|rfl)|exact True.intro|exact rfl)
   all_goals first
    |contradiction
    |(exfalso;omega)
    |(apply zL;(exact(show ResS _ _ _ _ [_] from⟨rfl,trivial⟩));(focus exact⟨rfl,rfl⟩);(focus repeat with_reducible first|exact Take.nil|apply Take.c|apply Take.drop))
  ·rw[if_neg h1]
   refine w_body4 Tryz.func79 rfl rfl ?_
   repeat'(first|apply zF|apply zB|apply zE|(apply o_g zC;exact rfl;exact rfl)|(apply yR;exact rfl;exact rfl)|(apply zM zC;(iterate 3 exact rfl);(focus exact pk))|(apply zX zC;(iterate 4 exact rfl);(focus exact up))|(apply zD;exact rfl;exact rfl;(focus first|exact rfl);exact rfl;(focus exact⟨_,hP,by repeat with_reducible exact Take.nil⟩);rintro _ _ ⟨rfl,rfl⟩)|(apply zD;exact rfl;exact rfl;(focus first|exact rfl);exact rfl;(focus exact⟨_,same_any _ _,by repeat with_reducible exact Take.nil⟩);rintro _ _ ⟨rfl,rfl⟩)|(apply zU;exact rfl;exact rfl)|(apply o_gF;(iterate 3 exact rfl);(focus first|omega))|(apply zS;exact rfl)|(apply yD;exact rfl;(focus first|omega))|apply zA|apply zP|apply yP|apply zI|apply zN|apply zH|((with_reducible apply Sd.mk);first|exact True.intro|omega)|((with_reducible apply Ln.mk);first|rfl)|((with_reducible apply Ce.mk);first|rfl)|((with_reducible apply Se.mk);first|(focus(repeat(first|exact SetAt.zero));done))|exact True.intro|exact rfl)
   all_goals first
    |contradiction
    |(exfalso;omega)
    |(apply zL;(exact(show ResS _ _ _ _ [_] from⟨rfl,trivial⟩));(focus exact⟨rfl,rfl⟩);(focus repeat with_reducible first|exact Take.nil|apply Take.c|apply Take.drop))
theorem rNumber_any (n:Nat)(l:List UInt8)(m:Int)(h:SH)(hl:l.length≤1000000):SRun Tryz.prog 47 [gptr n 0 2,I m] (rdB n l 0::h) fun r q =>
  r=I (rdN l m).1∧q=rdB n (rdN l m).2.1 (rdN l m).2.2::h:=by
 have hR:=read_any n l m h hl
 generalize rdN l m=V at *
 refine zY Tryz.func47 rfl rfl ?_
 repeat'(first|apply zF|apply zB|apply zE|(apply o_g zC;exact rfl;exact rfl)|(apply zD;exact rfl;exact rfl;(focus first|exact rfl);exact rfl;(focus exact⟨_,hR,by repeat with_reducible exact Take.nil⟩);rintro _ _ ⟨rfl,rfl⟩)|apply zA|apply zN|((with_reducible apply Sd.mk);first|exact True.intro))
 all_goals first
  |(apply zL;(exact(show ResS _ _ _ _ [_] from⟨rfl,trivial⟩));(focus exact⟨rfl,rfl⟩);(focus repeat with_reducible first|exact Take.nil|apply Take.c|apply Take.drop))

theorem bdec_ok {P:List Int}{c:Int}{d:Dec}(h:DecOk d)(hP:P.length=2048)(hc:0≤c∧c≤255):DecOk (bdec P c d).2.1∧(bdec P c d).1.length=2048∧0≤(bdec P c d).2.2∧(bdec P c d).2.2≤255:=by
 have hk:(c/32).toNat<8:=by omega
 obtain⟨h1,h2,h3⟩:=tdec_ok (k:=8) (t:=bsel P (c/32).toNat) (j:=1) h
 have h28:(2^8:Nat)=256:=rfl
 rw[h28]at h3
 refine⟨h1,bput_len hP hk (by rw[h2];exact bsel_len hP hk),Int.natCast_nonneg _,?_⟩
 show(((tdec 8 (bsel P (c/32).toNat) d 1).2.2-256:Nat):Int)≤255
 omega

theorem norm_out :∀(k:Nat) (e:Enc),e.out.length≤(norm k e).out.length
 |0,e=>Nat.le_refl _
 |k+1,e=>by
  unfold norm
  split
  ·have:=norm_out k (eshift e)
   have h2:(eshift e).out.length=e.out.length+1:=by show(e.out++[_]).length=_;simp
   omega
  ·exact Nat.le_refl _
theorem fin_len (e:Enc):(fin e).length=e.out.length+4:=by unfold fin;rw[List.length_append];rfl
abbrev e00 :Enc:=⟨[],0,4294967295⟩
theorem EncB.re {n:Nat}{h h' p:SH}{e:Enc}(hb:EncB n h e p)(t:Take h h'):∃p',EncB n h' e p'∧Take p p':=by
 cases hb with
 |nil=>exact⟨_,.nil _ _,.cons .head t⟩
 |some=>exact⟨_,.some _ _ _ _,.cons .head (.cons .head t)⟩
theorem EncB.push {n:Nat}{h p:SH}{e:Enc}(hb:EncB n h e p)(x:Nat × Blk):∃p',EncB n (x::h) e p'∧Take (x::p) p':=by
 cases hb with
 |nil=>exact⟨_,.nil _ _,.cons (.tail .head) .nil⟩
 |some=>exact⟨_,.some _ _ _ _,.cons (.tail .head) (.cons (.tail .head) .nil)⟩
theorem EncR.re {n:Nat}{p p':SH}{e:Enc}(hr:EncR n p' e)(t:Take p p'):EncR n p e:=by
 cases hr with
 |nil _ _ _ hp=>obtain⟨p1,g,_⟩:=t.pick hp;exact .nil _ _ _ g
 |some _ _ _ _ _ _ hp ha=>obtain⟨p1,g,_⟩:=t.pick hp;obtain⟨p2,g2,_⟩:=t.pick ha;exact .some _ _ _ _ _ _ g g2
def E2 (n m:Nat)(h:SH)(e e2:Enc)(p:SH):Prop:=∃q1 p',EncB m h e2 q1∧EncB n q1 e p'∧Take p p'
theorem E2.swap {n m:Nat}{h p:SH}{e e2:Enc}(k:E2 n m h e e2 p):E2 m n h e2 e p:=by
 obtain⟨q1,p',h1,h2,t⟩:=k
 obtain⟨r1,r,g1,g2,t2⟩:=h1.swap h2
 exact⟨r1,r,g1,g2,t.trans t2⟩
theorem E2.re {n m:Nat}{h h' p:SH}{e e2:Enc}(k:E2 n m h e e2 p)(t:Take h h'):E2 n m h' e e2 p:=by
 obtain⟨q1,p',h1,h2,t1⟩:=k
 obtain⟨r1,g1,t2⟩:=h1.re t
 obtain⟨r,g2,t3⟩:=h2.re t2
 exact⟨r1,r,g1,g2,t1.trans t3⟩
theorem E2.push {n m:Nat}{h p:SH}{e e2:Enc}(k:E2 n m h e e2 p)(x:Nat × Blk):E2 n m (x::h) e e2 (x::p):=by
 obtain⟨q1,p',h1,h2,t1⟩:=k
 obtain⟨r1,g1,t2⟩:=h1.push x
 obtain⟨r,g2,t3⟩:=h2.push x
 obtain⟨r',g3,t4⟩:=g2.re t2
 exact⟨r1,r',g1,g3,(Take.trans (h1:=x::p') (by obtain⟨A,b⟩:=x;exact .cons .head t1) t3).trans t4⟩
theorem E2.pick {n m:Nat}{h p:SH}{e e2:Enc}(k:E2 n m h e e2 p){A:Nat}{b:Blk}{h1:SH}(hp:Pick h A b h1):∃p1,Pick p A b p1:=by
 obtain⟨q1,p',g1,g2,t1⟩:=k
 obtain⟨r1,hp1⟩:=g1.pick hp
 obtain⟨r2,hp2⟩:=g2.pick hp1
 obtain⟨r3,hp3,_⟩:=t1.pick hp2
 exact⟨r3,hp3⟩
theorem E2.r {n m:Nat}{h p:SH}{e e2:Enc}(k:E2 n m h e e2 p):EncR n p e:=by
 obtain⟨q1,p',g1,g2,t1⟩:=k
 exact g2.r.re t1
theorem E2.take {n m:Nat}{h p:SH}{e e2:Enc}(k:E2 n m h e e2 p):Take p h:=by
 obtain⟨q1,p',g1,g2,t1⟩:=k
 exact t1.trans (g2.take.trans g1.take)

structure Sz (N:Nat)(s k:Nat):Prop where
 hi:s*16384^N≤4294967295*256^k*8193^N
 lo:4294967295*256^k*8191^N≤s*16384^N
theorem Sz.shift {N s k:Nat}(h:Sz N s k):Sz N (s*256) (k+1):=by
 have e1:∀c,4294967295*256^(k+1)*c^N=256*(4294967295*256^k*c^N):=fun c=>by
  rw[Nat.pow_succ,Nat.mul_comm (256^k) 256,←Nat.mul_assoc,Nat.mul_comm 4294967295 256,Nat.mul_assoc 256,Nat.mul_assoc 256]
 have e2:s*256*16384^N=256*(s*16384^N):=by rw[Nat.mul_comm s 256,Nat.mul_assoc]
 refine⟨?_,?_⟩
 ·rw[e1,e2];exact Nat.mul_le_mul_left _ h.hi
 ·rw[e1,e2];exact Nat.mul_le_mul_left _ h.lo
theorem pow_small {a b:Nat}(hab:a≤b)(h:b^1000<2*a^1000){N:Nat}(hN:N≤1000):b^N<2*a^N:=by
 rcases Nat.lt_or_ge (b^N) (2*a^N)with k|k
 ·exact k
 ·exfalso
  have h1:a^(1000-N)≤b^(1000-N):=Nat.pow_le_pow_left hab _
  have h2:=Nat.mul_le_mul k h1
  rw[Nat.mul_assoc,←Nat.pow_add,←Nat.pow_add,show N+(1000-N)=1000 by omega]at h2
  omega
theorem Sz.len {N s k:Nat}(h:Sz N s k)(hN:N≤1000)(h1:16777216≤s)(h2:s≤4294967295):N/8≤k+1∧k≤N/8:=by
 have p1:8193^N<2*8192^N:=pow_small (by decide) (by decide +kernel) hN
 have p2:8192^N<2*8191^N:=pow_small (by decide) (by decide +kernel) hN
 have e:16384^N=2^N*8192^N:=by rw[←Nat.mul_pow]
 have e256:256^k=2^(8*k):=by rw[Nat.pow_mul]
 have a1:=h.hi
 have a2:=h.lo
 rw[e,e256]at a1 a2
 have q:0<8192^N:=Nat.pow_pos (by decide)
 have q':0<8191^N:=Nat.pow_pos (by decide)
 generalize 8192^N=x at *
 generalize 8193^N=y at *
 generalize 8191^N=z at *
 have b1:2^N<2^(8*k+9):=by
  have c1:16777216*(2^N*x)≤s*(2^N*x):=Nat.mul_le_mul_right _ h1
  have c2:4294967295*2^(8*k)*y≤4294967295*2^(8*k)*(2*x):=Nat.mul_le_mul_left _ (by omega)
  rcases Nat.lt_or_ge (2^N) (2^(8*k+9))with g|g
  ·exact g
  ·exfalso
   have c3:16777216*(2^(8*k+9)*x)≤16777216*(2^N*x):=Nat.mul_le_mul_left _ (Nat.mul_le_mul_right _ g)
   have c4:2^(8*k+9)*x=512*(2^(8*k)*x):=by rw[Nat.pow_add,Nat.mul_comm (2^(8*k)),Nat.mul_assoc]
   have c5:4294967295*2^(8*k)*(2*x)=8589934590*(2^(8*k)*x):=by rw[Nat.mul_left_comm,←Nat.mul_assoc,←Nat.mul_assoc,←Nat.mul_assoc]
   have c6:0<2^(8*k)*x:=Nat.mul_pos (Nat.pow_pos (by decide)) q
   omega
 have b2:2^(8*k)<2^(N+1):=by
  have c1:s*(2^N*x)≤4294967295*(2^N*x):=Nat.mul_le_mul_right _ h2
  have c2:2^N*x<2^N*(2*z):=Nat.mul_lt_mul_of_pos_left p2 (Nat.pow_pos (by decide))
  have c3:4294967295*2^(8*k)*z=4294967295*(2^(8*k)*z):=Nat.mul_assoc _ _ _
  have c4:2^N*(2*z)=2^(N+1)*z:=by rw[Nat.pow_succ,Nat.mul_assoc]
  have c5:2^(8*k)*z<2^(N+1)*z:=by omega
  exact Nat.lt_of_mul_lt_mul_right c5
 have d1:=(Nat.pow_lt_pow_iff_right (by decide:1<2)).1 b1
 have d2:=(Nat.pow_lt_pow_iff_right (by decide:1<2)).1 b2
 omega

abbrev boF (b:Bool):List Value:=[B b]
theorem boW (b:Bool):(boF b).length=1:=rfl
@[simp] theorem len_bos (l:List Bool):(recs boF l).length=l.length:=by rw[recs_len boW];omega

def val (l:List UInt8):Nat:=l.foldl (fun a c=>a*256+c.toNat) 0
theorem foldl_val (l:List UInt8):∀a:Nat,l.foldl (fun a c=>a*256+c.toNat) a=a*256^l.length+val l:=by
 induction l with
 |nil=>intro a;simp[val]
 |cons c r ih =>
  intro a
  have h1:=ih (a*256+c.toNat)
  have h2:=ih (0*256+c.toNat)
  simp only[List.foldl_cons,List.length_cons]
  rw[h1,show val (c::r)=(0*256+c.toNat)*256^r.length+val r from h2,Nat.pow_succ]
  rw[Nat.add_mul,Nat.zero_mul,Nat.zero_add,Nat.mul_assoc,Nat.mul_comm 256]
  omega
theorem val_app (l m:List UInt8):val (l++m)=val l*256^m.length+val m:=by
 show(l++m).foldl _ 0=_
 rw[List.foldl_append,foldl_val m];rfl
theorem val_one (c:UInt8):val [c]=c.toNat:=by simp[val]
theorem val_snoc (l:List UInt8)(c:UInt8):val (l++[c])=val l*256+c.toNat:=by rw[val_app,val_one];rfl
theorem val_cons (c:UInt8)(l:List UInt8):val (c::l)=c.toNat*256^l.length+val l:=by
 have:=val_app [c] l
 rw[val_one]at this;exact this
theorem val_lt :∀l:List UInt8,val l<256^l.length
 |[]=>by decide
 |c::r=>by
  have h1:=val_lt r
  have h2:=c.toNat_lt
  rw[val_cons,List.length_cons,Nat.pow_succ]
  have h3:c.toNat*256^r.length≤255*256^r.length:=Nat.mul_le_mul_right _ (by omega)
  omega
theorem b8_nat {n:Int}(h:0≤n∧n<256):((b8 n).toNat:Int)=n:=b8_val h

theorem bat_mid (P R:List UInt8)(c:UInt8):bat (P++c::R) (P.length:Nat)=c.toNat:=by
 unfold bat
 rw[Int.toNat_natCast,List.getD_eq_getElem?_getD,List.getElem?_append_right (Nat.le_refl _),Nat.sub_self];rfl
theorem set_mid (P R:List UInt8)(c d:UInt8):(P++c::R).set P.length d=P++d::R:=by
 rw[List.set_append_right _ _ (Nat.le_refl _),Nat.sub_self];rfl
theorem carryAt_val :∀(n:Nat) (P R:List UInt8),P.length=n→val P+1<256^n→∃P',carryAt (P++R) n=P'++R∧P'.length=n∧val P'=val P+1
 |0,P,R,h,hv=>by simp at hv
 |n+1,P,R,h,hv=>by
  obtain⟨Q,c,rfl⟩:∃Q c,P=Q++[c]:=⟨P.dropLast,P.getLast (fun e=>by subst e;simp at h),(List.dropLast_concat_getLast _).symm⟩
  have hQ:Q.length=n:=by simpa using h
  subst hQ
  rw[List.append_assoc,List.singleton_append]
  have hc:=c.toNat_lt
  unfold carryAt
  rw[bat_mid,set_mid]
  split
  ·rename_i h1
   refine⟨Q++[b8 (((c.toNat:Int)+1)%256)],by simp,by simp,?_⟩
   rw[val_snoc,val_snoc]
   have:=b8_nat (n:=((c.toNat:Int)+1)%256) (by omega)
   omega
  ·rename_i h1
   have h2:((c.toNat:Int)+1)%256=0:=Classical.not_not.1 h1
   have h3:c.toNat=255:=by omega
   rw[val_snoc,Nat.pow_succ]at hv
   obtain⟨Q',g1,g2,g3⟩:=carryAt_val Q.length Q (b8 (((c.toNat:Int)+1)%256)::R) rfl (by omega)
   refine⟨Q'++[b8 (((c.toNat:Int)+1)%256)],by rw[g1];simp,by simp[g2],?_⟩
   rw[val_snoc,val_snoc,g3]
   have:=b8_nat (n:=((c.toNat:Int)+1)%256) (by omega)
   omega
theorem carry_val {l:List UInt8}(h:val l+1<256^l.length):val (carry l)=val l+1:=by
 obtain⟨P,g1,g2,g3⟩:=carryAt_val l.length l [] rfl h
 rw[List.append_nil,List.append_nil]at g1
 unfold carry;rw[g1,g3]

def num' (e:Enc):Int:=(val e.out:Int)*4294967296+e.low
def InB (e:Enc):Prop:=num' e+e.size≤4294967296*((256^e.out.length:Nat):Int)
theorem fin_val {e:Enc}(h:0≤e.low∧e.low≤4294967295):(val (fin e):Int)=num' e:=by
 unfold fin num'
 rw[val_app]
 have h4:val (tail4 e.low)=e.low.toNat:=by
  unfold tail4
  rw[val_cons,val_cons,val_cons,val_one]
  have a1:=b8_nat (n:=e.low/16777216) (by omega)
  have a2:=b8_nat (n:=e.low/65536%256) (by omega)
  have a3:=b8_nat (n:=e.low/256%256) (by omega)
  have a4:=b8_nat (n:=e.low%256) (by omega)
  simp only[List.length_cons,List.length_nil]
  omega
 rw[h4,show(tail4 e.low).length=4 from rfl]
 omega
theorem estep_num {n:Nat}{e:Enc}(hok:EncOk n e)(hi:InB e)(z b:Int):num' (estep e z b)=num' e+(if b=0 then 0 else bound e.size z)∧InB (estep e z b)∧(estep e z b).out.length=e.out.length ∧
  (estep e z b).size=if b=0 then bound e.size z else e.size-bound e.size z:=by
 have hd:=size_dvd hok.size z
 have hl:=hok.low
 unfold InB num' at hi
 unfold estep
 split
 ·refine⟨by unfold num';dsimp only;omega,?_,rfl,rfl⟩
  unfold InB num';dsimp only;omega
 ·split
  ·have hlt:val e.out+1<256^e.out.length:=by
    generalize 256^e.out.length=w at *;omega
   have hc:=carry_val hlt
   refine⟨by unfold num';dsimp only;rw[hc];omega,?_,carry_len _,rfl⟩
   unfold InB num';dsimp only;rw[hc,carry_len];omega
  ·refine⟨by unfold num';dsimp only;omega,?_,rfl,rfl⟩
   unfold InB num';dsimp only;omega
theorem eshift_num {e:Enc}(h:0≤e.low∧e.low≤4294967295):num' (eshift e)=num' e*256∧(eshift e).out.length=e.out.length+1∧(eshift e).size=e.size*256:=by
 refine⟨?_,by show(e.out++[_]).length=_;simp,rfl⟩
 show(val (e.out++[_]):Int)*4294967296+e.low*256%4294967296=((val e.out:Int)*4294967296+e.low)*256
 rw[val_snoc]
 have:=b8_nat (n:=e.low/16777216) (by omega)
 omega

structure Syn (D:List UInt8)(e:Enc)(d:Dec):Prop where
 size:d.size=e.size
 len:e.out.length+4≤D.length
 rest:d.rest=D.drop (e.out.length+4)
 miss:d.missing=false
 code:d.code=(val (D.take (e.out.length+4)):Int)-num' e
 rng:0≤d.code∧d.code<d.size
theorem dstep_syn {D:List UInt8}{n:Nat}{e:Enc}{d:Dec}(s:Syn D e d)(hok:EncOk n e)(hi:InB e)(z b:Int)(hb:b=0↔(dstep d z).2=0):Syn D (estep e z b) (dstep d z).1:=by
 obtain⟨h1,h2,h3,h4⟩:=estep_num hok hi z b
 have hd:=size_dvd hok.size z
 have hs:=s.size
 have hr:=s.rng
 have hc:=s.code
 unfold dstep at hb ⊢
 rw[hs]at hb ⊢
 split at hb
 ·rename_i hlt
  rw[if_pos hlt]
  have hb0:b=0:=hb.2 rfl
  rw[if_pos hb0]at h1 h4
  exact⟨h4.symm,by rw[h3];exact s.len,by rw[h3];exact s.rest,s.miss,by rw[h3,h1];dsimp only;omega,by dsimp only;omega⟩
 ·rename_i hlt
  rw[if_neg hlt]
  have hb0:¬b=0:=fun h=>by have:=hb.1 h;cases this
  rw[if_neg hb0]at h1 h4
  exact⟨h4.symm,by rw[h3];exact s.len,by rw[h3];exact s.rest,s.miss,by rw[h3,h1];dsimp only;omega,by dsimp only;omega⟩
theorem dnext_syn {D:List UInt8}{e:Enc}{d:Dec}(s:Syn D e d)(hl:0≤e.low∧e.low≤4294967295)(hsz:e.size<16777216)(hD:e.out.length+5≤D.length):Syn D (eshift e) { dnext d with size:=(dnext d).size*256 }:=by
 obtain⟨h1,h2,h3⟩:=eshift_num hl
 have hlt:e.out.length+4<D.length:=by omega
 have hr:d.rest=D[e.out.length+4]::D.drop (e.out.length+4+1):=by rw[s.rest,List.drop_eq_getElem_cons hlt]
 have hc:=(D[e.out.length+4]).toNat_lt
 have hv:val (D.take (e.out.length+5))=val (D.take (e.out.length+4))*256+(D[e.out.length+4]).toNat:=by
  rw[←val_snoc,List.take_append_getElem hlt]
 have hsi:=s.size
 have hrg:=s.rng
 have hco:=s.code
 obtain⟨rest,code,size,missing,full⟩:=d
 dsimp only at hr hsi hrg hco
 subst hr
 have e5:(eshift e).out.length+4=e.out.length+5:=by omega
 refine⟨by rw[h3,←hsi];rfl,by omega,?_,s.miss,?_,?_⟩
 ·show D.drop (e.out.length+4+1)=_
  rw[e5]
 ·show code*256%4294967296+((D[e.out.length+4]).toNat:Int)=_
  rw[e5,hv,h1]
  omega
 ·show 0≤code*256%4294967296+((D[e.out.length+4]).toNat:Int)∧code*256%4294967296+((D[e.out.length+4]).toNat:Int)<size*256
  omega
theorem norm_len (k:Nat)(e:Enc):e.out.length≤(norm k e).out.length:=norm_out k e
theorem eshift_low (e:Enc):0≤(eshift e).low∧(eshift e).low≤4294967295:=by
 show 0≤e.low*256%4294967296∧e.low*256%4294967296≤4294967295;omega
theorem norm_syn {D:List UInt8}:∀(k:Nat) {e:Enc} {d:Dec},Syn D e d→(0≤e.low∧e.low≤4294967295)→(norm k e).out.length+4≤D.length→Syn D (norm k e) (dnorm k d)
 |0,_,_,s,_,_=>s
 |k+1,e,d,s,hl,hD=>by
  unfold norm at hD ⊢
  unfold dnorm
  rw[s.size]
  by_cases hc:e.size<16777216
  ·rw[if_pos hc]at hD ⊢
   rw[if_pos hc]
   have h2:(eshift e).out.length=e.out.length+1:=(eshift_num hl).2.1
   have h3:=norm_len k (eshift e)
   exact norm_syn k (dnext_syn s hl hc (by omega)) (eshift_low e) hD
  ·rw[if_neg hc,if_neg hc];exact s
theorem dnext_miss {d:Dec}(h:(dnext d).missing=false):d.missing=false∧d.rest≠[]:=by
 obtain⟨rest,code,size,missing,full⟩:=d
 cases rest with
 |nil=>cases h
 |cons c r=>exact⟨h,by simp⟩
theorem dnorm_miss :∀(k:Nat) {d:Dec},(dnorm k d).missing=false→d.missing=false
 |0,_,h=>h
 |k+1,d,h=>by
  unfold dnorm at h
  split at h
  ·have h0:=dnorm_miss k h
   exact(dnext_miss (d:=d) h0).1
  ·exact h
theorem eshift_InB {e:Enc}(hl:0≤e.low∧e.low≤4294967295)(h:InB e):InB (eshift e):=by
 obtain⟨h1,h2,h3⟩:=eshift_num hl
 unfold InB at h ⊢
 rw[h1,h2,h3,Nat.pow_succ]
 generalize 256^e.out.length=w at *
 omega
theorem norm_InB (k:Nat):∀{e:Enc},(0≤e.low∧e.low≤4294967295)→InB e→InB (norm k e):=by
 induction k with
 |zero=>intro e _ h;exact h
 |succ k ih =>
  intro e hl h
  unfold norm
  split
  ·exact ih (eshift_low e) (eshift_InB hl h)
  ·exact h
theorem ebit_InB {n:Nat}{e:Enc}(hok:EncOk n e)(hi:InB e)(z b:Int):InB (ebit e z b):=norm_InB 2 (estep_ok hok z b).2.1 (estep_num hok hi z b).2.1
theorem ebit_syn {D:List UInt8}{n:Nat}{e:Enc}{d:Dec}(s:Syn D e d)(hok:EncOk n e)(hi:InB e)(z b:Int)(hb:b=0↔(dbit d z).2=0)(hD:(ebit e z b).out.length+4≤D.length):Syn D (ebit e z b) (dbit d z).1 :=
 norm_syn 2 (dstep_syn s hok hi z b hb) (estep_ok hok z b).2.1 hD
theorem e00_InB :InB e00:=by unfold InB;decide
theorem dnew_syn {D:List UInt8}(h4:4≤D.length)(hf:(dnew D).full=false):Syn D e00 (dnew D):=by
 match D,h4 with
 |a::b::c::d::r,_ =>
  have h1:=a.toNat_lt;have h2:=b.toNat_lt;have h3:=c.toNat_lt;have h5:=d.toNat_lt
  have hv:val [a,b,c,d]=((a.toNat*256+b.toNat)*256+c.toNat)*256+d.toNat:=by simp[val]
  have hcode:(dnew (a::b::c::d::r)).code=(val [a,b,c,d]:Int):=by
   rw[hv]
   show(((0*256%4294967296+(a.toNat:Int))*256%4294967296+(b.toNat:Int))*256%4294967296+(c.toNat:Int))*256%4294967296+(d.toNat:Int)=_
   omega
  have hne:(dnew (a::b::c::d::r)).code≠4294967295:=fun h=>by
   have:(dnew (a::b::c::d::r)).full=true:=by
    show decide ((dnew (a::b::c::d::r)).code=4294967295)=true
    rw[h];rfl
   rw[hf]at this;cases this
  refine⟨rfl,by simp,rfl,rfl,?_,?_⟩
  ·rw[hcode];show _=(val [a,b,c,d]:Int)-num' e00
   show _=(val [a,b,c,d]:Int)-((0:Nat)*4294967296+0:Int)
   omega
  ·show 0≤(dnew (a::b::c::d::r)).code∧(dnew (a::b::c::d::r)).code<4294967295
   rw[hcode]at hne ⊢
   rw[hv]at hne ⊢
   omega

theorem dnext_full (d:Dec):(dnext d).full=d.full:=by
 obtain⟨rest,code,size,missing,full⟩:=d
 cases rest <;> rfl
theorem dnorm_full (k:Nat):∀(d:Dec),(dnorm k d).full=d.full:=by
 induction k with
 |zero=>intro d;rfl
 |succ k ih =>
  intro d
  unfold dnorm
  split
  ·rw[ih];exact dnext_full d
  ·rfl
theorem dbit_full (d:Dec)(z:Int):(dbit d z).1.full=d.full:=by
 show(dnorm 2 (dstep d z).1).full=_
 rw[dnorm_full];unfold dstep;split <;> rfl
theorem dbit_miss {d:Dec}{z:Int}(h:(dbit d z).1.missing=false):d.missing=false:=by
 have:=dnorm_miss 2 h
 unfold dstep at this
 split at this <;> exact this
theorem dbit_01 (d:Dec)(z:Int):(dbit d z).2=0∨(dbit d z).2=1:=by have:=dbit_bit d z;omega
theorem dend_zero {d:Dec}(h:dend d=0):d.missing=false∧d.full=false∧d.rest=[]∧d.code=0:=by
 unfold dend at h
 split at h
 ·cases h
 ·rename_i hn
  simp only[not_or,Bool.not_eq_true,ne_eq,Classical.not_not]at hn
  exact hn

def ext (d:Dec)(c:UInt8):Dec:=⟨d.rest++[c],d.code,d.size,d.missing,d.full⟩
theorem dnext_ext {d:Dec}{c:UInt8}(h:(dnext d).missing=false):dnext (ext d c)=ext (dnext d) c:=by
 obtain⟨rest,code,size,missing,full⟩:=d
 cases rest with
 |nil=>cases h
 |cons x r=>rfl
theorem dnorm_ext {c:UInt8}(k:Nat):∀{d:Dec},(dnorm k d).missing=false→dnorm k (ext d c)=ext (dnorm k d) c:=by
 induction k with
 |zero=>intro d _;rfl
 |succ k ih =>
  intro d h
  unfold dnorm at h ⊢
  rw[show(ext d c).size=d.size from rfl]
  split
  ·rename_i hc
   rw[if_pos hc]at h
   have h0:=dnorm_miss k h
   rw[dnext_ext (d:=d) h0]
   exact ih h
  ·rfl
theorem dbit_ext {d:Dec}{c:UInt8}{z:Int}(h:(dbit d z).1.missing=false):dbit (ext d c) z=(ext (dbit d z).1 c,(dbit d z).2):=by
 have e:dstep (ext d c) z=(ext (dstep d z).1 c,(dstep d z).2):=by
  unfold dstep
  rw[show(ext d c).size=d.size from rfl,show(ext d c).code=d.code from rfl]
  split <;> rfl
 unfold dbit
 rw[e]
 have:=dnorm_ext (c:=c) 2 (d:=(dstep d z).1) h
 rw[this]
theorem dnew_ext {D:List UInt8}{c:UInt8}(h:4≤D.length):dnew (D++[c])=ext (dnew D) c:=by
 match D,h with
 |_::_::_::_::_,_=>rfl

def StI (base:SH)(l:List (Int × Int))(v:Value)(p:SH):Prop:=(l=[]∧v=.slice none 0 0∧p=base)∨∃A,v=gsl A 0 (2*l.length) l.length 2∧p=(A,⟨recs stF l,false⟩)::base
theorem StI.has {base p:SH}{l:List (Int × Int)}{v:Value}(s:StI base l v p):Has p (recs stF l) 2 l.length v:=by
 rcases s with⟨rfl,rfl,rfl⟩|⟨A,rfl,rfl⟩
 ·exact⟨none,0,rfl,fun h=>absurd rfl h⟩
 ·exact⟨_,_,rfl,fun _=>⟨A,false,_,rfl,.head⟩⟩
theorem StI.take {base p:SH}{l:List (Int × Int)}{v:Value}(s:StI base l v p):Take p base:=by
 rcases s with⟨rfl,rfl,rfl⟩|⟨A,rfl,rfl⟩
 ·exact .nil
 ·exact .drop .nil
theorem StI.one {base:SH}{x:Int × Int}{A:Nat}:StI base ([]++[x]) (gsl A 0 (1*2) 1 2) ((A,⟨[I x.1,I x.2],false⟩)::base):=.inr ⟨A,rfl,rfl⟩

def pw (j:Nat):Int:=((256^j:Nat):Int)
theorem pw_pos (j:Nat):0<pw j:=by
 have:0<256^j:=Nat.pow_pos (by decide)
 unfold pw;omega
theorem pw_zero :pw 0=1:=rfl
theorem pw_succ (j:Nat):pw (j+1)=256*pw j:=by unfold pw;rw[Nat.pow_succ];omega
theorem pw_add (i j:Nat):pw (i+j)=pw i*pw j:=by unfold pw;rw[Nat.pow_add,Int.natCast_mul]
theorem norm_in (k:Nat):∀{e:Enc},(0≤e.low∧e.low≤4294967295)→∃j,(norm k e).out.length=e.out.length+j∧num' (norm k e)=num' e*pw j∧(norm k e).size=e.size*pw j:=by
 induction k with
 |zero=>intro e _;exact⟨0,rfl,by rw[pw_zero,Int.mul_one];rfl,by rw[pw_zero,Int.mul_one];rfl⟩
 |succ k ih =>
  intro e hl
  unfold norm
  split
  ·obtain⟨h1,h2,h3⟩:=eshift_num hl
   obtain⟨j,g1,g2,g3⟩:=ih (eshift_low e)
   exact⟨j+1,by rw[g1,h2];omega,by rw[g2,h1,pw_succ,Int.mul_assoc],by rw[g3,h3,pw_succ,Int.mul_assoc]⟩
  ·exact⟨0,rfl,by rw[pw_zero,Int.mul_one],by rw[pw_zero,Int.mul_one]⟩
def Within (e e':Enc):Prop:=∃j,e'.out.length=e.out.length+j∧num' e*pw j≤num' e'∧num' e'+e'.size≤(num' e+e.size)*pw j
theorem Within.refl (e:Enc):Within e e:=⟨0,rfl,by rw[pw_zero,Int.mul_one];exact Int.le_refl _,by rw[pw_zero,Int.mul_one];exact Int.le_refl _⟩
theorem Within.trans {e f g:Enc}(a:Within e f)(b:Within f g):Within e g:=by
 obtain⟨i,a1,a2,a3⟩:=a
 obtain⟨j,b1,b2,b3⟩:=b
 refine⟨i+j,by omega,?_,?_⟩
 ·rw[pw_add,←Int.mul_assoc]
  exact Int.le_trans (Int.mul_le_mul_of_nonneg_right a2 (Int.le_of_lt (pw_pos j))) b2
 ·rw[pw_add,←Int.mul_assoc]
  exact Int.le_trans b3 (Int.mul_le_mul_of_nonneg_right a3 (Int.le_of_lt (pw_pos j)))
theorem within_norm {k:Nat}{e:Enc}(hl:0≤e.low∧e.low≤4294967295):Within e (norm k e):=by
 obtain⟨j,g1,g2,g3⟩:=norm_in k hl
 exact⟨j,g1,by rw[g2];exact Int.le_refl _,by rw[g2,g3,Int.add_mul];exact Int.le_refl _⟩
theorem within_ebit {n:Nat}{e:Enc}(hok:EncOk n e)(hi:InB e)(z b:Int):Within (estep e z b) (ebit e z b):=within_norm (estep_ok hok z b).2.1
theorem within_estep {n:Nat}{e:Enc}(hok:EncOk n e)(hi:InB e)(z b:Int):Within e (estep e z b):=by
 obtain⟨h1,h2,h3,h4⟩:=estep_num hok hi z b
 have hd:=size_dvd hok.size z
 refine⟨0,h3,?_,?_⟩
 ·rw[pw_zero,Int.mul_one,h1];split <;> omega
 ·rw[pw_zero,Int.mul_one,h1,h4];split <;> omega
theorem within_at {e f:Enc}{D:List UInt8}(w:Within e f)(hD:D.length=f.out.length+4)(hv:(val D:Int)=num' f)(hs:0<f.size) :
  num' e≤(val (D.take (e.out.length+4)):Int)∧(val (D.take (e.out.length+4)):Int)<num' e+e.size:=by
 obtain⟨j,h1,h2,h3⟩:=w
 have hsp:val D=val (D.take (e.out.length+4))*256^j+val (D.drop (e.out.length+4)):=by
  have:=val_app (D.take (e.out.length+4)) (D.drop (e.out.length+4))
  rw[List.take_append_drop,List.length_drop,show D.length-(e.out.length+4)=j by omega]at this
  exact this
 have hlt:=val_lt (D.drop (e.out.length+4))
 rw[List.length_drop,show D.length-(e.out.length+4)=j by omega]at hlt
 have hp:=pw_pos j
 have e1:(val D:Int)=(val (D.take (e.out.length+4)):Int)*pw j+(val (D.drop (e.out.length+4)):Int):=by rw[hsp];unfold pw;rw[Int.natCast_add,Int.natCast_mul]
 have e2:(val (D.drop (e.out.length+4)):Int)<pw j:=by unfold pw;omega
 generalize (val (D.take (e.out.length+4)):Int)=V at *
 have e3:num' e*pw j<(V+1)*pw j:=by rw[Int.add_mul,Int.one_mul];omega
 have e4:V*pw j<(num' e+e.size)*pw j:=by omega
 have e5:=Int.lt_of_mul_lt_mul_right e3 (Int.le_of_lt hp)
 have e6:=Int.lt_of_mul_lt_mul_right e4 (Int.le_of_lt hp)
 omega
theorem bit_read {D:List UInt8}{n:Nat}{e f:Enc}{d:Dec}(s:Syn D e d)(hok:EncOk n e)(hi:InB e)(z b:Int)(w:Within (ebit e z b) f)(hD:D.length=f.out.length+4)(hv:(val D:Int)=num' f)(hs:0<f.size) :
  b=0↔(dbit d z).2=0:=by
 obtain⟨h1,h2,h3,h4⟩:=estep_num hok hi z b
 have hw:=within_at ((within_ebit hok hi z b).trans w) hD hv hs
 have hd:=size_dvd hok.size z
 rw[h3,h1,h4]at hw
 have hc:=s.code
 show b=0↔(dstep d z).2=0
 unfold dstep
 rw[s.size]
 split
 ·rename_i hlt
  refine⟨fun _=>rfl,fun _=>?_⟩
  by_cases hb:b=0
  ·exact hb
  ·rw[if_neg hb,if_neg hb]at hw;omega
 ·rename_i hlt
  refine⟨fun hb=>?_,fun h=>by cases h⟩
  rw[if_pos hb,if_pos hb]at hw;omega

theorem within_len {e f:Enc}(w:Within e f):e.out.length≤f.out.length:=by obtain⟨j,h,_⟩:=w;omega
theorem within_ebits {v:Int}(k:Nat):∀{n:Nat} {e:Enc},EncOk n e→InB e→Within e (ebits v k e)∧InB (ebits v k e):=by
 induction k with
 |zero=>intro n e _ hi;exact⟨.refl _,hi⟩
 |succ k ih =>
  intro n e hok hi
  obtain⟨h1,h2⟩:=ih (ebit_ok hok 1024 (v/2^k%2)) (ebit_InB hok hi 1024 (v/2^k%2))
  exact⟨((within_estep hok hi _ _).trans (within_ebit hok hi _ _)).trans h1,h2⟩
theorem bits_read {D:List UInt8}{f:Enc}{v:Int}(hD:D.length=f.out.length+4)(hv:(val D:Int)=num' f)(hs:0<f.size)(k:Nat):∀{n:Nat} {e:Enc} {d:Dec} {a:Int},Syn D e d→EncOk n e→InB e→Within (ebits v k e) f →
  Syn D (ebits v k e) (dbits k d a).1∧(dbits k d a).2=a*2^k+v%2^k:=by
 induction k with
 |zero=>intro n e d a s _ _ _;exact⟨s,by show a=a*2^0+v%2^0;rw[Int.pow_zero,Int.mul_one,Int.emod_one,Int.add_zero]⟩
 |succ k ih =>
  intro n e d a s hok hi w
  have hb1:=ebit_ok hok 1024 (v/2^k%2)
  have hb2:=ebit_InB hok hi 1024 (v/2^k%2)
  have w1:Within (ebit e 1024 (v/2^k%2)) f:=(within_ebits k hb1 hb2).1.trans w
  have hr:=bit_read s hok hi 1024 (v/2^k%2) w1 hD hv hs
  have hbd:=dbit_01 d 1024
  have hval:(dbit d 1024).2=v/2^k%2:=by omega
  obtain⟨g1,g2⟩:=ih (a:=a*2+(dbit d 1024).2) (ebit_syn s hok hi 1024 _ hr (by have:=within_len w1;omega)) hb1 hb2 w
  refine⟨g1,?_⟩
  show(dbits k _ _).2=_
  rw[g2,hval]
  have h1:=Int.emod_add_mul_ediv v (2^k)
  have h2:=Int.emod_add_mul_ediv (v/2^k) 2
  have h3:=Int.emod_add_mul_ediv v (2^(k+1))
  have h4:v/2^k/2=v/(2^k*2):=by rw[Int.ediv_ediv_of_nonneg (Int.le_of_lt (Int.pow_pos (by decide)))]
  rw[h4]at h2
  rw[Int.pow_succ]at h3 ⊢
  generalize v/(2^k*2)=q at *
  generalize v/2^k=p at *
  generalize (2:Int)^k=t at *
  have h5:t*p=t*(p%2)+2*(t*q):=by
   conv=>lhs;rw[←h2]
   rw[Int.mul_add,Int.mul_left_comm]
  have h6:t*2*q=2*(t*q):=by rw[Int.mul_comm t 2,Int.mul_assoc]
  have h7:(a*2+p%2)*t=a*(t*2)+t*(p%2):=by rw[Int.add_mul,Int.mul_assoc,Int.mul_comm 2 t,Int.mul_comm (p%2) t]
  omega

theorem four {D:List UInt8}(h:4≤D.length):∃a b c d r,D=a::b::c::d::r:=by
 match D,h with
 |a::b::c::d::r,_=>exact⟨a,b,c,d,r,rfl⟩
theorem ddir_full (d:Dec)(x:Int):(ddir d x).1.full=d.full:=by
 have h:∀(k:Nat) (d:Dec) (a:Int),(dbits k d a).1.full=d.full:=by
  intro k
  induction k with
  |zero=>intro d a;rfl
  |succ k ih=>intro d a;unfold dbits;rw[ih,dbit_full]
 unfold ddir
 split
 ·rfl
 ·exact h _ _ _
theorem inv_end {e:Enc}{d:Dec}(hl:0≤e.low∧e.low≤4294967295)(s:Syn (fin e) e d)(hf:d.full=false):dend d=0:=by
 have h1:=s.rest
 have h2:=s.code
 rw[←fin_len]at h1 h2
 rw[List.drop_length]at h1
 rw[List.take_length,fin_val hl]at h2
 unfold dend
 rw[if_neg]
 rintro(h|h|h|h)
 ·rw[s.miss]at h;cases h
 ·rw[hf]at h;cases h
 ·exact h h1
 ·exact h (by omega)

structure Beh (D:List UInt8)(f:Enc):Prop where
 len:D.length=f.out.length+4
 val:(val D:Int)=num' f
 size:0<f.size
theorem Beh.fin {n:Nat}{f:Enc}(h:EncOk n f):Beh (fin f) f:=⟨fin_len f,fin_val h.low,by have:=h.size;omega⟩
theorem bit01 (v:Int)(k:Nat):v/2^k%2=0∨v/2^k%2=1:=by omega
theorem mod_split (v:Int)(k:Nat):v%2^(k+1)=2^k*(v/2^k%2)+v%2^k:=by
 have h1:=Int.emod_add_mul_ediv v (2^k)
 have h2:=Int.emod_add_mul_ediv (v/2^k) 2
 have h3:=Int.emod_add_mul_ediv v (2^(k+1))
 have h4:v/2^k/2=v/(2^k*2):=by rw[Int.ediv_ediv_of_nonneg (Int.le_of_lt (Int.pow_pos (by decide)))]
 rw[h4]at h2
 rw[Int.pow_succ]at h3 ⊢
 generalize v/(2^k*2)=q at *
 generalize v/2^k=p at *
 generalize (2:Int)^k=t at *
 have h5:t*p=t*(p%2)+2*(t*q):=by
  conv=>lhs;rw[←h2]
  rw[Int.mul_add,Int.mul_left_comm]
 have h6:t*2*q=2*(t*q):=by rw[Int.mul_comm t 2,Int.mul_assoc]
 omega
theorem tenc_in {v:Int}(k:Nat):∀{n:Nat} {t:List Int} {e:Enc} {j:Nat},EncOk n e→InB e→Within e (tenc v k t e j).2∧InB (tenc v k t e j).2:=by
 induction k with
 |zero=>intro n t e j _ hi;exact⟨.refl _,hi⟩
 |succ k ih =>
  intro n t e j hok hi
  obtain⟨h1,h2⟩:=ih (t:=t.set j (adp t[j]! (v/2^k%2))) (j:=2*j+(v/2^k%2).toNat) (ebit_ok hok t[j]! (v/2^k%2)) (ebit_InB hok hi t[j]! (v/2^k%2))
  exact⟨((within_estep hok hi _ _).trans (within_ebit hok hi _ _)).trans h1,h2⟩
theorem tenc_read {D:List UInt8}{f:Enc}{v:Int}(hf:Beh D f)(k:Nat):∀{n:Nat} {t:List Int} {e:Enc} {d:Dec} {j:Nat},Syn D e d→EncOk n e→InB e→Within (tenc v k t e j).2 f →
  Syn D (tenc v k t e j).2 (tdec k t d j).2.1∧(tdec k t d j).1=(tenc v k t e j).1∧((tdec k t d j).2.2:Int)=2^k*j+v%2^k:=by
 induction k with
 |zero=>intro n t e d j s _ _ _;exact⟨s,rfl,by show(j:Int)=2^0*j+v%2^0;rw[Int.pow_zero,Int.emod_one];omega⟩
 |succ k ih =>
  intro n t e d j s hok hi w
  have hb1:=ebit_ok hok t[j]! (v/2^k%2)
  have hb2:=ebit_InB hok hi t[j]! (v/2^k%2)
  have w1:Within (ebit e t[j]! (v/2^k%2)) f:=(tenc_in k hb1 hb2).1.trans w
  have hr:=bit_read s hok hi t[j]! (v/2^k%2) w1 hf.len hf.val hf.size
  have hbd:=dbit_01 d t[j]!
  have hval:(dbit d t[j]!).2=v/2^k%2:=by omega
  have s1:=ebit_syn s hok hi t[j]! _ hr (by have:=within_len w1;have:=hf.len;omega)
  have ih:=ih (t:=t.set j (adp t[j]! (v/2^k%2))) (j:=2*j+(v/2^k%2).toNat) s1 hb1 hb2 w
  have e1:tdec (k+1) t d j=tdec k (t.set j (adp t[j]! (v/2^k%2))) (dbit d t[j]!).1 (2*j+(v/2^k%2).toNat):=by rw[←hval];rfl
  rw[e1]
  refine⟨ih.1,ih.2.1,?_⟩
  rw[ih.2.2,mod_split,Int.pow_succ]
  have e2:((2*j+(v/2^k%2).toNat:Nat):Int)=2*(j:Int)+v/2^k%2:=by omega
  rw[e2,Int.mul_add,←Int.mul_assoc]
  omega
theorem tdec_miss :∀(k:Nat) {t:List Int} {d:Dec} {j:Nat},(tdec k t d j).2.1.missing=false→d.missing=false
 |0,_,_,_,h=>h
 |k+1,t,d,j,h=>dbit_miss (tdec_miss k (t:=t.set j (adp t[j]! (dbit d t[j]!).2)) (j:=2*j+(dbit d t[j]!).2.toNat) h)
theorem tdec_full :∀(k:Nat) {t:List Int} {d:Dec} {j:Nat},(tdec k t d j).2.1.full=d.full
 |0,_,_,_=>rfl
 |k+1,t,d,j=>(tdec_full k (t:=t.set j (adp t[j]! (dbit d t[j]!).2)) (j:=2*j+(dbit d t[j]!).2.toNat)).trans (dbit_full d _)
theorem tdec_ext {c:UInt8}:∀(k:Nat) {t:List Int} {d:Dec} {j:Nat},(tdec k t d j).2.1.missing=false→tdec k t (ext d c) j=((tdec k t d j).1,ext (tdec k t d j).2.1 c,(tdec k t d j).2.2)
 |0,_,_,_,_=>rfl
 |k+1,t,d,j,h=>by
  have h1:(dbit d t[j]!).1.missing=false:=tdec_miss k (t:=t.set j (adp t[j]! (dbit d t[j]!).2)) (j:=2*j+(dbit d t[j]!).2.toNat) h
  show tdec k (t.set j (adp t[j]! (dbit (ext d c) t[j]!).2)) (dbit (ext d c) t[j]!).1 (2*j+(dbit (ext d c) t[j]!).2.toNat)=_
  rw[dbit_ext h1]
  exact tdec_ext k h
theorem dbits_miss :∀(k:Nat) {d:Dec} {a:Int},(dbits k d a).1.missing=false→d.missing=false
 |0,_,_,h=>h
 |k+1,d,a,h=>dbit_miss (dbits_miss k (a:=a*2+(dbit d 1024).2) h)
theorem dbits_ext {c:UInt8}:∀(k:Nat) {d:Dec} {a:Int},(dbits k d a).1.missing=false→dbits k (ext d c) a=(ext (dbits k d a).1 c,(dbits k d a).2)
 |0,_,_,_=>rfl
 |k+1,d,a,h=>by
  have h1:(dbit d 1024).1.missing=false:=dbits_miss k (a:=a*2+(dbit d 1024).2) h
  show dbits k (dbit (ext d c) 1024).1 (a*2+(dbit (ext d c) 1024).2)=_
  rw[dbit_ext h1]
  exact dbits_ext k h

theorem edir_in {n:Nat}{e:Enc}(hok:EncOk n e)(hi:InB e)(x v:Int):Within e (edir e x v)∧InB (edir e x v):=by
 unfold edir
 split
 ·exact⟨.refl _,hi⟩
 ·exact within_ebits _ hok hi
theorem ddir_miss {d:Dec}{x:Int}(h:(ddir d x).1.missing=false):d.missing=false:=by
 unfold ddir at h
 split at h
 ·exact h
 ·exact dbits_miss _ h
theorem ddir_ext {c:UInt8}{d:Dec}{x:Int}(h:(ddir d x).1.missing=false):ddir (ext d c) x=(ext (ddir d x).1 c,(ddir d x).2):=by
 unfold ddir at h ⊢
 split
 ·rfl
 ·rename_i hx
  rw[if_neg hx]at h
  exact dbits_ext _ h
theorem benc_in {P:List Int}{c v:Int}{n:Nat}{e:Enc}(hok:EncOk n e)(hi:InB e):Within e (benc P c e v).2∧InB (benc P c e v).2:=tenc_in (v:=v) 8 (t:=bsel P (c/32).toNat) (j:=1) hok hi
theorem benc_read {D:List UInt8}{f:Enc}{P:List Int}{c v:Int}{n:Nat}{e:Enc}{d:Dec}(hf:Beh D f)(s:Syn D e d)(hok:EncOk n e)(hi:InB e)(w:Within (benc P c e v).2 f) :
  Syn D (benc P c e v).2 (bdec P c d).2.1∧(bdec P c d).1=(benc P c e v).1∧(bdec P c d).2.2=v%256:=by
 obtain⟨h1,h2,h3⟩:=tenc_read (v:=v) hf 8 (t:=bsel P (c/32).toNat) (j:=1) s hok hi w
 refine⟨h1,congrArg (bput P (c/32).toNat) h2,?_⟩
 show((((tdec 8 (bsel P (c/32).toNat) d 1).2.2-256:Nat)):Int)=v%256
 have h28:(2^8:Int)=256:=rfl
 rw[h28]at h3
 omega
theorem bdec_miss {P:List Int}{c:Int}{d:Dec}(h:(bdec P c d).2.1.missing=false):d.missing=false:=tdec_miss 8 (t:=bsel P (c/32).toNat) (j:=1) h
theorem bdec_full {P:List Int}{c:Int}{d:Dec}:(bdec P c d).2.1.full=d.full:=tdec_full 8 (t:=bsel P (c/32).toNat) (j:=1)
theorem bdec_ext {P:List Int}{c:Int}{d:Dec}{x:UInt8}(h:(bdec P c d).2.1.missing=false):bdec P c (ext d x)=((bdec P c d).1,ext (bdec P c d).2.1 x,(bdec P c d).2.2):=by
 have:=tdec_ext (c:=x) 8 (t:=bsel P (c/32).toNat) (j:=1) h
 unfold bdec
 rw[this]
theorem nenc_in {t:List Int}{v:Int}{n:Nat}{e:Enc}(hok:EncOk n e)(hi:InB e):Within e (nenc t e v).2∧InB (nenc t e v).2:=by
 have h1:=tenc_in (v:=(blen (ncut v).toNat:Int)) 6 (t:=t) (j:=1) hok hi
 have h2:=(tenc_ok (v:=(blen (ncut v).toNat:Int)) (k:=6) (t:=t) (j:=1) hok).1
 show Within e (if _ then _ else _)∧InB (if _ then _ else _)
 split
 ·have h3:=edir_in h2 h1.2 ((blen (ncut v).toNat:Int)-1) (ncut v)
  exact⟨h1.1.trans h3.1,h3.2⟩
 ·exact h1
theorem ncut_in (v:Int):0≤ncut v∧ncut v≤4611686018427387903:=by unfold ncut;split <;> omega
theorem blen_lt (x:Nat):x<2^blen x:=by
 unfold blen
 split
 ·rename_i h;subst h;decide
 ·exact Nat.lt_log2_self
theorem blen_ge {x:Nat}(h:x≠0):2^(blen x-1)≤x:=by
 unfold blen
 rw[if_neg h,Nat.add_sub_cancel]
 exact Nat.log2_self_le h
theorem nenc_read {D:List UInt8}{f:Enc}{t:List Int}{v:Int}{n:Nat}{e:Enc}{d:Dec}(hf:Beh D f)(s:Syn D e d)(hok:EncOk n e)(hi:InB e)(w:Within (nenc t e v).2 f) :
  Syn D (nenc t e v).2 (ndec t d).2.1∧(ndec t d).1=(nenc t e v).1∧(ndec t d).2.2=ncut v:=by
 have hcut:=ncut_in v
 unfold nenc at w ⊢
 unfold ndec
 obtain⟨x,hx⟩:=Int.eq_ofNat_of_zero_le hcut.1
 rw[hx]at hcut w ⊢
 rw[Int.toNat_natCast]at w ⊢
 have hl:blen x≤62:=blen_le (by have:(2:Nat)^62=4611686018427387904:=rfl;omega)
 have h1:=tenc_in (v:=(blen x:Int)) 6 (t:=t) (j:=1) hok hi
 have h2:=(tenc_ok (v:=(blen x:Int)) (k:=6) (t:=t) (j:=1) hok).1
 have hlt:=blen_lt x
 have hge:=fun h=>blen_ge (x:=x) h
 have hz2:x=0→blen x=0:=fun h=>by rw[h];rfl
 have w1:Within (tenc (blen x) 6 t e 1).2 f:=by
  dsimp only at w
  split at w
  ·exact(edir_in h2 h1.2 _ _).1.trans w
  ·exact w
 obtain⟨g1,g2,g3⟩:=tenc_read (v:=(blen x:Int)) hf 6 (t:=t) (j:=1) s hok hi w1
 have h26:(2^6:Int)=64:=rfl
 rw[h26]at g3
 have hj:(tdec 6 t d 1).2.2-64=blen x:=by omega
 rw[hj]
 dsimp only at w ⊢
 generalize blen x=l at *
 by_cases h0:l≤1
 ·rw[if_neg (show ¬2≤l by omega),if_pos (show l≤1∨l=63 from .inl h0),if_pos h0]
  refine⟨g1,g2,?_⟩
  have:l=0∨l=1:=by omega
  rcases this with rfl|rfl
  ·rw[Nat.pow_zero]at hlt;omega
  ·rw[Nat.pow_one]at hlt
   have:x≠0:=fun h=>absurd (hz2 h) (by decide)
   omega
 ·rw[if_pos (show 2≤l by omega),if_neg (show ¬(l≤1∨l=63)by omega),if_neg h0,if_neg (show ¬l=63 by omega)]
  rw[if_pos (show 2≤l by omega)]at w
  have hx0:x≠0:=fun h=>by have:=hz2 h;omega
  have e1:∀E V,edir E ((l:Int)-1) V=ebits V (l-1) E:=fun E V=>by unfold edir;rw[if_neg (by omega),show((l:Int)-1).toNat=l-1 by omega]
  have e2:∀D,ddir D ((l:Int)-1)=dbits (l-1) D 0:=fun D=>by unfold ddir;rw[if_neg (by omega),show((l:Int)-1).toNat=l-1 by omega]
  rw[e1]at w ⊢
  rw[e2]
  obtain⟨k1,k2⟩:=bits_read hf.len hf.val hf.size (v:=(x:Int)) (l-1) (a:=0) g1 h2 h1.2 w
  refine⟨k1,g2,?_⟩
  rw[k2]
  have hg:=hge hx0
  have hp2:2^l=2^(l-1)*2:=by rw[←Nat.pow_succ];congr 1;omega
  rw[hp2]at hlt
  have hc:((2:Int)^(l-1))=((2^(l-1):Nat):Int):=by simp
  rw[hc]
  generalize 2^(l-1)=p at *
  have:x%p=x-p:=by rw[Nat.mod_eq_sub_mod hg,Nat.mod_eq_of_lt (by omega)]
  rw[←Int.natCast_emod,this]
  omega
theorem ndec_miss {t:List Int}{d:Dec}(h:(ndec t d).2.1.missing=false):d.missing=false∧(tdec 6 t d 1).2.1.missing=false:=by
 have:(tdec 6 t d 1).2.1.missing=false:=by
  unfold ndec at h
  dsimp only at h
  split at h
  ·exact h
  ·exact ddir_miss h
 exact⟨tdec_miss 6 (t:=t) (j:=1) this,this⟩
theorem ndec_full {t:List Int}{d:Dec}:(ndec t d).2.1.full=d.full:=by
 unfold ndec
 dsimp only
 split
 ·exact tdec_full 6 (t:=t) (j:=1)
 ·exact(ddir_full _ _).trans (tdec_full 6 (t:=t) (j:=1))
theorem ndec_ext {t:List Int}{d:Dec}{x:UInt8}(h:(ndec t d).2.1.missing=false):ndec t (ext d x)=((ndec t d).1,ext (ndec t d).2.1 x,(ndec t d).2.2):=by
 have h1:=tdec_ext (c:=x) 6 (t:=t) (j:=1) (ndec_miss h).2
 unfold ndec at h ⊢
 rw[h1]
 dsimp only at h ⊢
 generalize tdec 6 t d 1=T at *
 by_cases h0:T.2.2-64≤1∨T.2.2-64=63
 ·rw[if_pos h0,if_pos h0]
  by_cases h2:T.2.2-64≤1
  ·rw[if_pos h2,if_pos h2]
  ·rw[if_neg h2,if_neg h2,if_pos (by omega),if_pos (by omega)]
 ·rw[if_neg h0]at h
  rw[if_neg h0,if_neg h0,if_neg (by omega),if_neg (by omega),if_neg (by omega),if_neg (by omega),ddir_ext h]

theorem rdN_ok (l:List UInt8)(m:Int):(rdN l m).2.1.length≤l.length∧((rdN l m).2.2=0→0≤(rdN l m).1∧(rdN l m).1≤m):=by
 unfold rdN
 split
 ·exact⟨Nat.le_refl _,fun h=>absurd h (by show ¬(12:Int)=0;decide)⟩
 ·split
  ·exact⟨Nat.le_refl _,fun h=>absurd h (by show ¬(2:Int)=0;decide)⟩
  ·dsimp only
   rw[List.length_drop]
   omega

def ndecN :Nat→List Int→Dec→List Int × Dec
 |0,_,d=>([],d)
 |k+1,t,d=>((ndec t d).2.2::(ndecN k (ndec t d).1 (ndec t d).2.1).1,(ndecN k (ndec t d).1 (ndec t d).2.1).2)
theorem ndec_ok {t:List Int}{d:Dec}(h:DecOk d)(ht:t.length=64):DecOk (ndec t d).2.1∧(ndec t d).1.length=64:=by
 obtain⟨h1,h2,h3⟩:=tdec_ok (k:=6) (t:=t) (j:=1) h
 refine⟨?_,h2.trans ht⟩
 show DecOk (if _ then _ else _)
 split
 ·exact h1
 ·exact ddir_ok h1 _
def rdecN (l:List UInt8)(most:Int)(t:List Int):List Int × Int :=
 if(rdN l 4096).2.2≠0 then([],12)else if most<(rdN l 4096).1 then([],2)else if(rdN l 4096).1=0 then([],rend (rdN l 4096).2.1 0)
 else if dend (ndecN (rdN l 4096).1.toNat t (dnew (rdN l 4096).2.1)).2≠0 then([],dend (ndecN (rdN l 4096).1.toNat t (dnew (rdN l 4096).2.1)).2)
 else((ndecN (rdN l 4096).1.toNat t (dnew (rdN l 4096).2.1)).1,0)
def IsN (h:SH)(x:List Int × Int)(r:Value)(q:SH):Prop:=(x.1=[]∧r=.tuple #[.slice none 0 0,Er x.2]∧q=h) ∨
 (x.2=0∧∃A,r=.tuple #[gsl A 0 x.1.length x.1.length 1,Er 0]∧q=(A,⟨nodes x.1,false⟩)::h)
theorem decodeI_any (M N:Nat)(t:List Int)(l:List UInt8)(most:Int)(h:SH)(hl:l.length≤1000000)(ht:t.length=64) :
  SRun Tryz.prog 130 [.iface 94 (gptr M 0 2),S l,I 4096,I most] ((M,⟨numC N,false⟩)::(N,⟨nodes t,false⟩)::h) (IsN h (rdecN l most t)):=by
 have hR:=fun n h=>rNumber_any n l 4096 h hl
 have hok:=rdN_ok l 4096
 obtain⟨x,hx⟩:∃x,rdecN l most t=x:=⟨_,rfl⟩
 rw[hx]
 unfold rdecN at hx
 generalize rdN l 4096=V at *
 obtain⟨k,d,e⟩:=V
 dsimp only at *
 have hT:=fun n h=>rTake_any n d (d.length:Int) h (by omega) (by omega)
 rw[show((d.length:Int)).toNat=d.length from rfl,List.take_length,List.drop_length]at hT
 by_cases he:e=0
 case neg =>
  rw[if_pos he]at hx
  refine w_body4 Tryz.func130 rfl rfl ?_
  repeat'(first|apply zF|apply zB|apply zE|(apply o_g zC;exact rfl;exact rfl)|(apply zD;exact rfl;exact rfl;(focus first|exact rfl);exact rfl;(focus exact⟨_,yN _ _,by repeat with_reducible exact Take.nil⟩);rintro _ _ ⟨n,rfl,rfl⟩)|(apply zD;exact rfl;exact rfl;(focus first|exact rfl);exact rfl;(focus exact⟨_,hR _ _,by repeat with_reducible exact Take.nil⟩);rintro _ _ ⟨rfl,rfl⟩)|(apply zD;exact rfl;exact rfl;(focus first|exact rfl);exact rfl;(focus exact⟨_,rErr_any _ _ _ _,by repeat with_reducible exact Take.nil⟩);rintro _ _ ⟨rfl,rfl⟩)|(apply yC;exact rfl;(focus first|omega))|apply zA|apply zP|apply zN|((with_reducible apply Sd.mk);first|exact True.intro))
  all_goals first
   |contradiction
   |(apply zL;(exact(show ResS _ _ _ _ [_,_] from⟨rfl,⟨rfl,trivial⟩⟩));(focus exact .inl ⟨by rw[←hx],by rw[←hx];rfl,rfl⟩);(focus repeat with_reducible first|exact Take.nil|apply Take.c|apply Take.drop))
 subst he
 rw[if_neg (by decide)]at hx
 have hk:=hok.2 rfl
 by_cases h1:most<k
 case pos =>
  rw[if_pos h1]at hx
  refine w_body4 Tryz.func130 rfl rfl ?_
  repeat'(first|apply zF|apply zB|apply zE|(apply o_g zC;exact rfl;exact rfl)|(apply zD;exact rfl;exact rfl;(focus first|exact rfl);exact rfl;(focus exact⟨_,yN _ _,by repeat with_reducible exact Take.nil⟩);rintro _ _ ⟨n,rfl,rfl⟩)|(apply zD;exact rfl;exact rfl;(focus first|exact rfl);exact rfl;(focus exact⟨_,hR _ _,by repeat with_reducible exact Take.nil⟩);rintro _ _ ⟨rfl,rfl⟩)|(apply zD;exact rfl;exact rfl;(focus first|exact rfl);exact rfl;(focus exact⟨_,rErr_any _ _ _ _,by repeat with_reducible exact Take.nil⟩);rintro _ _ ⟨rfl,rfl⟩)|(apply zS;exact rfl)|(apply yC;exact rfl;(focus first|omega))|apply zA|apply zP|apply zI|apply zN|((with_reducible apply Sd.mk);first|exact True.intro))
  all_goals first
   |contradiction
   |(apply zL;(exact(show ResS _ _ _ _ [_,_] from⟨rfl,⟨rfl,trivial⟩⟩));(focus exact .inl ⟨by rw[←hx],by rw[←hx];rfl,rfl⟩);(focus repeat with_reducible first|exact Take.nil|apply Take.c|apply Take.drop))
 rw[if_neg h1]at hx
 by_cases h2:k=0
 case pos =>
  rw[if_pos h2]at hx
  refine w_body4 Tryz.func130 rfl rfl ?_
  repeat'(first|apply zF|apply zB|apply zE|(apply o_g zC;exact rfl;exact rfl)|(apply zD;exact rfl;exact rfl;(focus first|exact rfl);exact rfl;(focus exact⟨_,yN _ _,by repeat with_reducible exact Take.nil⟩);rintro _ _ ⟨n,rfl,rfl⟩)|(apply zD;exact rfl;exact rfl;(focus first|exact rfl);exact rfl;(focus exact⟨_,hR _ _,by repeat with_reducible exact Take.nil⟩);rintro _ _ ⟨rfl,rfl⟩)|(apply zD;exact rfl;exact rfl;(focus first|exact rfl);exact rfl;(focus exact⟨_,rErr_any _ _ _ _,by repeat with_reducible exact Take.nil⟩);rintro _ _ ⟨rfl,rfl⟩)|(apply zD;exact rfl;exact rfl;(focus first|exact rfl);exact rfl;(focus exact⟨_,vEnd_any _ _ _ _,by repeat with_reducible exact Take.nil⟩);rintro _ _ ⟨rfl,rfl⟩)|(apply zS;exact rfl)|(apply yC;exact rfl;(focus first|omega))|(apply yD;exact rfl;(focus first|omega))|apply zA|apply zP|apply zI|apply zN|((with_reducible apply Sd.mk);first|exact True.intro))
  all_goals first
   |contradiction
   |(apply zL;(exact(show ResS _ _ _ _ [_,_] from⟨rfl,⟨rfl,trivial⟩⟩));(focus exact .inl ⟨by rw[←hx],by rw[←hx];rfl,rfl⟩);(focus repeat with_reducible first|exact Take.nil|apply Take.c|apply Take.drop))
 rw[if_neg h2]at hx
 obtain⟨m,rfl⟩:=Int.eq_ofNat_of_zero_le hk.1
 rw[Int.toNat_natCast]at hx
 have hzr:zrow (Value.int IntKind.i64 0) (((m:Int)).toNat*1)=nodes (List.replicate m 0):=by
  rw[Int.toNat_natCast];exact map_zrow (f:=iV) 0 rfl rfl _
 refine w_body4 Tryz.func130 rfl rfl ?_
 repeat'(first|apply zF|apply zB|apply zE|(apply o_g zC;exact rfl;exact rfl)|(apply o_makeSlice zC;(iterate 6 exact rfl);(focus decide);(focus first|omega);(focus first|rfl);exact rfl)|(apply zD;exact rfl;exact rfl;(focus first|exact rfl);exact rfl;(focus exact⟨_,yN _ _,by repeat with_reducible exact Take.nil⟩);rintro _ _ ⟨n,rfl,rfl⟩)|(apply zD;exact rfl;exact rfl;(focus first|exact rfl);exact rfl;(focus exact⟨_,hR _ _,by repeat with_reducible exact Take.nil⟩);rintro _ _ ⟨rfl,rfl⟩)|(apply zD;exact rfl;exact rfl;(focus first|exact rfl);exact rfl;(focus exact⟨_,rErr_any _ _ _ _,by repeat with_reducible exact Take.nil⟩);rintro _ _ ⟨rfl,rfl⟩)|(apply zD;exact rfl;exact rfl;(focus first|exact rfl);exact rfl;(focus exact⟨_,rLeft_any _ _ _ _,by repeat with_reducible exact Take.nil⟩);rintro _ _ ⟨rfl,rfl⟩)|(apply zD;exact rfl;exact rfl;(focus first|exact rfl);exact rfl;(focus exact⟨_,hT _ _,by repeat with_reducible exact Take.nil⟩);rintro _ _ ⟨rfl,rfl⟩)|(apply zD;exact rfl;exact rfl;(focus first|exact rfl);exact rfl;(focus exact⟨_,NewDecoder_any _ _ (by omega),by repeat with_reducible exact Take.nil⟩);rintro _ _ ⟨n2,rfl,rfl⟩)|(apply zS;exact rfl)|(apply yD;exact rfl;(focus first|omega))|apply zA|apply zI|apply zH|((with_reducible apply Sd.mk);first|exact True.intro)|intro A)
 rw[hzr,Int.toNat_natCast]
 refine zZ (S:=Nat × List Int × List Int × Dec) (fun x=>[(0,.iface 94 (gptr M 0 2)),(12,gptr n2 0 5),(13,gsl A 0 (m*1) m 1),(39,I m),(40,I x.1)])
  (fun x=>(A,⟨nodes x.2.1,false⟩)::decB n2 x.2.2.2::(M,⟨numC N,false⟩)::(N,⟨nodes x.2.2.1,false⟩)::h)
  (fun x=>x.1≤m∧x.2.1.length=m∧x.2.2.1.length=64∧DecOk x.2.2.2∧(x.2.1.take x.1++(ndecN (m-x.1) x.2.2.1 x.2.2.2).1,(ndecN (m-x.1) x.2.2.1 x.2.2.2).2)=ndecN m t (dnew d))
  (fun x=>m-x.1) (0,List.replicate m 0,t,dnew d) ⟨Nat.zero_le _,List.length_replicate,ht,dnew_ok (by omega),rfl⟩ (by repeat'(first|exact trivial|refine⟨rfl,?_⟩|refine⟨congrArg some ?_,?_⟩)) (by repeat with_reducible first|exact Take.nil|apply Take.c|apply Take.drop) ?_
 rintro⟨i,L,t1,d1⟩ ⟨hi,hL,ht1,hok1,he⟩
 dsimp only at hi hL ht1 hok1 he ⊢
 by_cases him:i<m
 ·have hb:=ndec_ok (t:=t1) hok1 ht1
  have hD:=NumDecode_any n2 M N t1 d1 ((A,⟨nodes L,false⟩)::h) ht1 hok1
  rw[show m-i=(m-(i+1))+1 by omega]at he
  rw[show ∀k,ndecN (k+1) t1 d1=((ndec t1 d1).2.2::(ndecN k (ndec t1 d1).1 (ndec t1 d1).2.1).1,(ndecN k (ndec t1 d1).1 (ndec t1 d1).2.1).2)from fun _=>rfl]at he
  generalize ndec t1 d1=B at *
  obtain⟨t2,d2,c2⟩:=B
  dsimp only at he hD hb
  repeat'(first|apply zF|apply zB|apply zE|(apply o_g zC;exact rfl;exact rfl)|(apply o_ar zC;exact rfl;exact rfl)|(apply zX zC;(iterate 4 exact rfl);(focus exact up))|(apply o_invoke;(iterate 3 exact rfl);(focus exact⟨_,hD,by repeat with_reducible first|exact Take.nil|apply Take.c⟩);(focus kernel_rfl);exact rfl;rintro _ _ ⟨rfl,rfl⟩)|(apply yC;exact rfl;(focus first|omega))|apply zA|apply zG|apply zI|apply zH|((with_reducible apply Sd.mk);first|exact True.intro|omega)|((with_reducible apply Ln.mk);first|(simp ;first|done|omega))|((with_reducible apply Wr.mk);first|exact IntWalk.i64_in _ (by omega))|((with_reducible apply Se.mk);first|exact setAt_mapZ (by omega))|exact True.intro)
  all_goals first
   |(exfalso;omega)
   |(refine⟨(i+1,L.set i c2,t2,d2),⟨him,by simp[hL],hb.2,hb.1,?_⟩,by show m-(i+1)<m-i;omega,(by repeat'(first|exact trivial|refine⟨rfl,?_⟩|refine⟨congrArg some ?_,?_⟩)),(by repeat with_reducible first|exact Take.nil|apply Take.c|apply Take.drop)⟩
     dsimp only
     rw[take_set (by omega),List.append_assoc]
     exact he)
 ·obtain rfl:i=m:=by omega
  rw[Nat.sub_self,List.take_of_length_le (by omega)]at he
  have he:(L++[],d1)=ndecN i t (dnew d):=he
  rw[List.append_nil]at he
  rw[←he]at hx
  dsimp only at hx
  by_cases h3:dend d1=0
  ·rw[if_neg (fun g=>g h3)]at hx
   repeat'(first|apply zF|apply zB|apply zE|(apply o_g zC;exact rfl;exact rfl)|(apply zD;exact rfl;exact rfl;(focus first|exact rfl);exact rfl;(focus exact⟨_,End_any _ _ _,by repeat with_reducible first|exact Take.nil|apply Take.c⟩);rintro _ _ ⟨rfl,rfl⟩)|(apply yD;exact rfl;(focus first|omega))|apply zA|apply zK|apply zJ|apply zI|apply zN|apply zV|((with_reducible apply Sd.mk);first|exact True.intro))
   all_goals try contradiction
   subst hx hL
   (apply zL;(exact(show ResS _ _ _ _ [_,_] from⟨rfl,⟨rfl,trivial⟩⟩));(focus exact .inr ⟨rfl,A,by rw[Nat.mul_one];rfl,rfl⟩);(focus repeat with_reducible first|exact Take.nil|apply Take.c|apply Take.drop))
  ·rw[if_pos h3]at hx
   repeat'(first|apply zF|apply zB|apply zE|(apply o_g zC;exact rfl;exact rfl)|(apply zD;exact rfl;exact rfl;(focus first|exact rfl);exact rfl;(focus exact⟨_,End_any _ _ _,by repeat with_reducible first|exact Take.nil|apply Take.c⟩);rintro _ _ ⟨rfl,rfl⟩)|(apply yC;exact rfl;(focus first|exact ‹_›))|(apply yD;exact rfl;(focus first|omega))|apply zA|apply zP|apply zK|apply zJ|apply zN|apply zV|((with_reducible apply Sd.mk);first|exact True.intro))
   all_goals first
    |contradiction
    |(apply zL;(exact(show ResS _ _ _ _ [_,_] from⟨rfl,⟨rfl,trivial⟩⟩));(focus exact .inl ⟨by rw[←hx],by rw[←hx];rfl,rfl⟩);(focus repeat with_reducible first|exact Take.nil|apply Take.c|apply Take.drop))
theorem ndecN_len :∀(k:Nat) (t:List Int) (d:Dec),(ndecN k t d).1.length=k
 |0,_,_=>rfl
 |k+1,t,d=>by
  show((ndec t d).2.2::(ndecN k (ndec t d).1 (ndec t d).2.1).1).length=k+1
  rw[List.length_cons,ndecN_len k]
theorem rdecN_len (l:List UInt8)(most:Int)(t:List Int):(rdecN l most t).1.length≤4096:=by
 have:=(rdN_ok l 4096).2
 unfold rdecN
 split
 ·exact Nat.zero_le _
 ·rename_i h
  split
  ·exact Nat.zero_le _
  ·split
   ·exact Nat.zero_le _
   ·split
    ·exact Nat.zero_le _
    ·show(ndecN _ _ _).1.length≤4096
     rw[ndecN_len]
     have:=this (Classical.not_not.1 h)
     omega
def mDecN (l:List UInt8)(most:Int):List Int × Int :=
 if ∀z∈(rdecN l most (List.replicate 64 1024)).1,0≤z then rdecN l most (List.replicate 64 1024)else([],12)
theorem DecodeNumbers_any (l:List UInt8)(most:Int)(h:SH)(hl:l.length≤1000000):SRun Tryz.prog 97 [S l,I most] h (IsN h (mDecN l most)):=by
 have hB:∀h,SRun Tryz.prog 75 [] h fun r q=>∃M N,r=gptr M 0 2∧q=(M,⟨numC N,false⟩)::(N,⟨nodes (List.replicate 64 1024),false⟩)::h:=NewNumbers_any
 have hE:=fun M N h=>decodeI_any M N (List.replicate 64 1024) l most h hl List.length_replicate
 obtain⟨x,hx⟩:∃x,mDecN l most=x:=⟨_,rfl⟩
 rw[hx]
 unfold mDecN at hx
 have hlen:=rdecN_len l most (List.replicate 64 1024)
 generalize rdecN l most (List.replicate 64 1024)=R at *
 generalize (List.replicate 64 1024:List Int)=X at *
 refine zY Tryz.func97 rfl rfl ?_
 repeat'(first|apply zF|apply zB|apply zE|(apply o_g zC;exact rfl;exact rfl)|(apply zD;exact rfl;exact rfl;(focus first|exact rfl);exact rfl;(focus exact⟨_,hB _,by repeat with_reducible exact Take.nil⟩);rintro _ _ ⟨M,N,rfl,rfl⟩)|apply zA|((with_reducible apply Sd.mk);first|exact True.intro))
 all_goals first|(exfalso;omega)|skip
 refine o_iface (d:=.pointer 149) rfl (by kernel_rfl) rfl rfl ?_
 repeat'(first|(apply o_g zC;exact rfl;exact rfl)|(apply zD;exact rfl;exact rfl;(focus first|exact rfl);exact rfl;(focus exact⟨_,hE M N _,by repeat with_reducible exact Take.nil⟩);rintro _ _ hh)|((with_reducible apply Sd.mk);first|exact True.intro))
 obtain⟨e1,rfl,rfl⟩|⟨e1,A,rfl,rfl⟩:=hh
 ·rename_i q0
  rw[e1,if_pos (fun _ g=>absurd g List.not_mem_nil)]at hx
  repeat'(first|apply zF|apply zB|apply zE|(apply o_g zC;exact rfl;exact rfl)|apply zA|apply zH|((with_reducible apply Sd.mk);first|exact True.intro))
  refine zZ (S:=Unit) (fun _=>[(6,.slice none 0 0),(7,Er R.2),(18,.slice none 0 0),(19,I 0),(20,I 0)]) (fun _=>q0) (fun _=>True) (fun _=>0) () trivial (by repeat'(first|exact trivial|refine⟨rfl,?_⟩|refine⟨congrArg some ?_,?_⟩)) (by repeat with_reducible first|exact Take.nil|apply Take.c|apply Take.drop) ?_
  rintro - -
  repeat'(first|apply zF|apply zB|apply zE|(apply o_g zC;exact rfl;exact rfl)|(apply zS;exact rfl)|apply zA|apply zK|apply zJ|apply zN|apply zV|((with_reducible apply Sd.mk);first|exact True.intro))
  all_goals first
   |(exfalso;omega)
   |(apply zL;(exact(show ResS _ _ _ _ [_,_] from⟨rfl,⟨rfl,trivial⟩⟩));(focus exact .inl ⟨by rw[←hx];exact e1,by rw[←hx];rfl,rfl⟩);(focus repeat with_reducible first|exact Take.nil|apply Take.c|apply Take.drop))
 ·obtain⟨L,e⟩:=R
  dsimp only at e1 hx hlen ⊢
  subst e1
  have hlb:(nodes L).length=L.length:=by simp
  repeat'(first|apply zF|apply zB|apply zE|(apply o_g zC;exact rfl;exact rfl)|apply zA|apply zH|((with_reducible apply Sd.mk);first|exact True.intro))
  refine zZ (S:=Nat) (fun i=>[(6,gsl A 0 L.length L.length 1),(7,Er 0),(18,gsl A 0 L.length L.length 1),(19,I L.length),(20,I i)]) (fun _=>(A,⟨nodes L,false⟩)::h)
   (fun i=>i≤L.length∧∀j,j<i→0≤L[j]!) (fun i=>L.length-i) 0 ⟨Nat.zero_le _,fun j hj=>absurd hj (Nat.not_lt_zero _)⟩ (by repeat'(first|exact trivial|refine⟨rfl,?_⟩|refine⟨congrArg some ?_,?_⟩)) (by repeat with_reducible first|exact Take.nil|apply Take.c|apply Take.drop) ?_
  rintro i ⟨hi,hall⟩
  by_cases hil:i<L.length
  ·obtain⟨z,hz⟩:∃z,z=L[i]!:=⟨_,rfl⟩
   have hcl:(nodes L)[0+((i:Int)).toNat*1]?=some (I z):=by rw[hz];exact yM hil
   by_cases hz0:z<0
   ·rw[if_neg (fun g=>by have:=g z (by rw[hz];exact ibang_mem hil);omega)]at hx
    repeat'(first|apply zF|apply zB|apply zE|(apply o_g zC;exact rfl;exact rfl)|(apply zM zC;(iterate 3 exact rfl);(focus exact pk))|(apply yC;exact rfl;(focus first|exact ‹_›|omega))|apply zA|apply zP|apply yP|apply zI|apply zN|apply zH|((with_reducible apply Sd.mk);first|exact True.intro|omega)|((with_reducible apply Ln.mk);first|omega)|((with_reducible apply Ce.mk);first|exact hcl)|exact True.intro|exact rfl)
    all_goals first
     |(exfalso;omega)
     |(apply zL;(exact(show ResS _ _ _ _ [_,_] from⟨rfl,⟨rfl,trivial⟩⟩));(focus exact .inl ⟨by rw[←hx],by rw[←hx];rfl,rfl⟩);(focus repeat with_reducible first|exact Take.nil|apply Take.c|apply Take.drop))
   ·repeat'(first|apply zF|apply zB|apply zE|(apply o_g zC;exact rfl;exact rfl)|(apply o_ar zC;exact rfl;exact rfl)|(apply zM zC;(iterate 3 exact rfl);(focus exact pk))|(apply yC;exact rfl;(focus first|omega))|(apply yD;exact rfl;(focus first|exact ‹_›))|apply zA|apply zG|apply zI|apply zH|((with_reducible apply Sd.mk);first|exact True.intro|omega)|((with_reducible apply Ln.mk);first|omega)|((with_reducible apply Wr.mk);first|exact IntWalk.i64_in _ (by omega))|((with_reducible apply Ce.mk);first|exact hcl)|exact True.intro|exact rfl)
    all_goals first
     |(exfalso;omega)
     |exact⟨i+1,⟨hil,fun j hj=>by
       by_cases e:j=i
       ·rw[e,←hz];omega
       ·exact hall j (by omega)⟩,by show L.length-(i+1)<L.length-i;omega,(by repeat'(first|exact trivial|refine⟨rfl,?_⟩|refine⟨congrArg some ?_,?_⟩)),(by repeat with_reducible first|exact Take.nil|apply Take.c|apply Take.drop)⟩
  ·obtain rfl:i=L.length:=by omega
   rw[if_pos (fun z hz=>by
    obtain⟨j,hj,e⟩:=List.mem_iff_getElem.1 hz
    have:=hall j hj
    rwa [getElem!_pos L j hj,e]at this)]at hx
   subst hx
   repeat'(first|apply zF|apply zB|apply zE|(apply o_g zC;exact rfl;exact rfl)|(apply yD;exact rfl;(focus first|omega))|apply zA|apply zK|apply zJ|apply zN|apply zV|((with_reducible apply Sd.mk);first|exact True.intro))
   all_goals first
    |(exfalso;omega)
    |(apply zL;(exact(show ResS _ _ _ _ [_,_] from⟨rfl,⟨rfl,trivial⟩⟩));(focus exact .inr ⟨rfl,A,rfl,rfl⟩);(focus repeat with_reducible first|exact Take.nil|apply Take.c|apply Take.drop))

theorem start_full {n:Nat}{f:Enc}(hok:EncOk n f)(w:Within encZ f):(dnew (fin f)).full=false:=by
 have hv:=fin_val hok.low
 have ha:=within_at w (fin_len _) hv (by have:=hok.size;omega)
 have hlen:4≤(fin f).length:=by rw[fin_len];omega
 generalize fin f=D at *
 obtain⟨a,b,c,d,r,rfl⟩:=four hlen
 ·have h1:=a.toNat_lt;have h2:=b.toNat_lt;have h3:=c.toNat_lt;have h5:=d.toNat_lt
  have hv4:val [a,b,c,d]=((a.toNat*256+b.toNat)*256+c.toNat)*256+d.toNat:=by simp[val]
  have ha2:(val [a,b,c,d]:Int)<4294967295:=by
   have:=ha.2
   rw[show num' encZ+encZ.size=4294967295 from rfl]at this
   exact this
  show decide ((((0*256%4294967296+(a.toNat:Int))*256%4294967296+(b.toNat:Int))*256%4294967296+(c.toNat:Int))*256%4294967296+(d.toNat:Int)=4294967295)=false
  rw[decide_eq_false_iff_not]
  omega
theorem start_syn {n:Nat}{f:Enc}(hok:EncOk n f)(w:Within encZ f):Syn (fin f) encZ (dnew (fin f)):=dnew_syn (by rw[fin_len];omega) (start_full hok w)
theorem bat_lt {l:List UInt8}{i:Nat}(h:i<l.length):bat l (i:Int)=(l[i].toNat:Int):=by
 unfold bat
 rw[Int.toNat_natCast,List.getD_eq_getElem?_getD,List.getElem?_eq_getElem h];rfl

theorem bat_dropN (l:List UInt8)(k i:Nat):bat (l.drop k) (i:Int)=bat l ((k+i:Nat):Int):=by
 unfold bat
 rw[Int.toNat_natCast,Int.toNat_natCast,List.getD_eq_getElem?_getD,List.getD_eq_getElem?_getD,List.getElem?_drop]
theorem four_of {l:List UInt8}(h:l.length=4):∃a b c d,l=[a,b,c,d]:=by
 match l,h with
 |[a,b,c,d],_=>exact⟨a,b,c,d,rfl⟩
theorem le4_at (x:BitVec 32):bat (le4 x) 0=(x.toNat:Int)%256∧bat (le4 x) 1=(x.toNat:Int)/256%256∧bat (le4 x) 2=(x.toNat:Int)/65536%256∧bat (le4 x) 3=(x.toNat:Int)/16777216%256 :=
 ⟨b8_val (by omega),b8_val (by omega),b8_val (by omega),b8_val (by omega)⟩
theorem synN_four (l:List UInt8)(k:Nat):(synN l k 4:Int)=bat (l.drop k) 0+bat (l.drop k) 1*256+bat (l.drop k) 2*65536+bat (l.drop k) 3*16777216:=by
 have h0:=bat_255 l ((k+0:Nat):Int)
 have h1:=bat_255 l ((k+1:Nat):Int)
 have h2:=bat_255 l ((k+2:Nat):Int)
 have h3:=bat_255 l ((k+3:Nat):Int)
 have e0:=bat_dropN l k 0
 have e1:=bat_dropN l k 1
 have e2:=bat_dropN l k 2
 have e3:=bat_dropN l k 3
 have g0:bat (l.drop k) 0=bat l ((k+0:Nat):Int):=e0
 have g1:bat (l.drop k) 1=bat l ((k+1:Nat):Int):=e1
 have g2:bat (l.drop k) 2=bat l ((k+2:Nat):Int):=e2
 have g3:bat (l.drop k) 3=bat l ((k+3:Nat):Int):=e3
 rw[g0,g1,g2,g3]
 have e:synN l k 4=0+(bat l ((k+0:Nat):Int)).toNat*1+(bat l ((k+1:Nat):Int)).toNat*256+(bat l ((k+2:Nat):Int)).toNat*65536+(bat l ((k+3:Nat):Int)).toNat*16777216:=rfl
 rw[e]
 omega
theorem syn_le4 {l:List UInt8}{k:Nat}(hl:l.length=k+4)(x:BitVec 32):x.toNat=synN l k 4↔l.drop k=le4 x:=by
 have h4:=synN_four l k
 obtain⟨a,b,c,d,e⟩:=four_of (l:=l.drop k) (by rw[List.length_drop];omega)
 have hx:=x.isLt
 rw[e]at h4 ⊢
 have ha:bat [a,b,c,d] 0=a.toNat:=rfl
 have hb:bat [a,b,c,d] 1=b.toNat:=rfl
 have hc:bat [a,b,c,d] 2=c.toNat:=rfl
 have hd:bat [a,b,c,d] 3=d.toNat:=rfl
 have la:=a.toNat_lt
 have lb:=b.toNat_lt
 have lc:=c.toNat_lt
 have ld:=d.toNat_lt
 obtain⟨q0,q1,q2,q3⟩:=le4_at x
 constructor
 ·intro g
  have w:∀{p q:UInt8},(p.toNat:Int)=q.toNat→p=q:=fun h=>UInt8.toNat_inj.1 (by omega)
  have ex:le4 x=[b8 ((x.toNat:Int)%256),b8 ((x.toNat:Int)/256%256),b8 ((x.toNat:Int)/65536%256),b8 ((x.toNat:Int)/16777216%256)]:=rfl
  rw[ex,w (p:=a) (q:=b8 ((x.toNat:Int)%256)) (by rw[b8_val (by omega)];omega),w (p:=b) (q:=b8 ((x.toNat:Int)/256%256)) (by rw[b8_val (by omega)];omega),
   w (p:=c) (q:=b8 ((x.toNat:Int)/65536%256)) (by rw[b8_val (by omega)];omega),w (p:=d) (q:=b8 ((x.toNat:Int)/16777216%256)) (by rw[b8_val (by omega)];omega)]
 ·intro g
  rw[←g]at q0 q1 q2 q3
  omega
def opn (l:List UInt8):List UInt8 × Int:=if 4≤l.length∧l.drop (l.length-4)=le4 (crcV (l.take (l.length-4)))then(l.take (l.length-4),0)else([],12)
theorem Open_any (l:List UInt8)(h:SH)(hl:l.length≤1000000):SRun Tryz.prog 63 [S l] h fun r q=>r=.tuple #[S (opn l).1,I (opn l).2]∧q=h:=by
 unfold opn
 by_cases h4:4≤l.length
 ·obtain⟨k,hk⟩:∃k,l.length=k+4:=⟨l.length-4,by omega⟩
  have hS:∀h,SRun Tryz.prog 29 [S l] h fun r q=>∃x:BitVec 32,r=UB x∧((x.toNat:Int)=0↔l.drop (l.length-4)=le4 (crcV (l.take (l.length-4))))∧q=h:=fun h=>(syndrome_any l h hl h4).mono fun r q ⟨x,e1,e2,e3⟩=>⟨x,e1,by
   rw[←syn_le4 (by omega),←e2]
   constructor
   ·intro g;apply BitVec.eq_of_toNat_eq;show x.toNat=0;omega
   ·rintro rfl;rfl,e3⟩
  by_cases hc:l.drop (l.length-4)=le4 (crcV (l.take (l.length-4)))
  ·rw[if_pos ⟨h4,hc⟩]
   have hS2:∀h,SRun Tryz.prog 29 [S l] h fun r q=>r=.int .u32 0∧q=h:=fun h=>(hS h).mono fun r q ⟨x,e1,e2,e3⟩=>⟨by rw[e1];exact congrArg (Value.int .u32) (e2.2 hc),e3⟩
   clear hS
   refine zR Tryz.func63 rfl rfl ?_
   repeat'(first|apply zF|apply zB|apply zE|(apply o_g zC;exact rfl;exact rfl)|(apply o_ar zC;exact rfl;exact rfl)|(apply zD;exact rfl;exact rfl;(focus first|exact rfl);exact rfl;(focus exact⟨_,hS2 _,by repeat with_reducible exact Take.nil⟩);rintro _ _ ⟨rfl,rfl⟩)|(apply zU;exact rfl;exact rfl)|(apply o_gF;(iterate 3 exact rfl);(focus first|omega))|(apply zS;exact rfl)|apply zA|apply zI|apply zN|((with_reducible apply Sd.mk);first|exact True.intro|omega)|((with_reducible apply Wr.mk);first|exact IntWalk.i64_in _ (by omega)))
   all_goals first
    |(exfalso;omega)
    |contradiction
    |skip
   rw[show l.length-4=k by omega]
   (apply zL;(exact(show ResS _ _ _ _ [_,_] from⟨rfl,⟨rfl,trivial⟩⟩));(focus exact⟨by rw[show((l.length:Int)-4).toNat=k by omega];rfl,rfl⟩);(focus repeat with_reducible first|exact Take.nil|apply Take.c|apply Take.drop))
  ·rw[if_neg (fun g=>hc g.2)]
   have hS2:∀h,SRun Tryz.prog 29 [S l] h fun r q=>∃n:Int,r=.int .u32 n∧n≠0∧q=h:=fun h=>(hS h).mono fun r q ⟨x,e1,e2,e3⟩=>⟨_,e1,fun g=>hc (e2.1 g),e3⟩
   clear hS hc
   refine zR Tryz.func63 rfl rfl ?_
   repeat'(first|apply zF|apply zB|apply zE|(apply o_g zC;exact rfl;exact rfl)|(apply zD;exact rfl;exact rfl;(focus first|exact rfl);exact rfl;(focus exact⟨_,hS2 _,by repeat with_reducible exact Take.nil⟩);rintro _ _ ⟨n,rfl,hn,rfl⟩)|(apply zU;exact rfl;exact rfl)|(apply o_gF;(iterate 3 exact rfl);(focus first|omega))|(apply yC;exact rfl;(focus first|exact ‹_›))|apply zA|apply zP|apply zN|((with_reducible apply Sd.mk);first|exact True.intro))
   all_goals first
    |(exfalso;omega)
    |contradiction
    |(apply zL;(exact(show ResS _ _ _ _ [_,_] from⟨rfl,⟨rfl,trivial⟩⟩));(focus exact⟨rfl,rfl⟩);(focus repeat with_reducible first|exact Take.nil|apply Take.c|apply Take.drop))
 ·rw[if_neg (fun g=>h4 g.1)]
  refine zR Tryz.func63 rfl rfl ?_
  repeat'(first|apply zF|apply zB|apply zE|(apply o_g zC;exact rfl;exact rfl)|(apply yF;iterate 4 exact rfl)|(apply o_sT;(iterate 3 exact rfl);(focus first|omega);exact rfl)|(apply yB;exact rfl)|apply zA|apply zP|apply zN|((with_reducible apply Sd.mk);first|exact True.intro))
  all_goals first
   |(exfalso;omega)
   |(apply zL;(exact(show ResS _ _ _ _ [_,_] from⟨rfl,⟨rfl,trivial⟩⟩));(focus exact⟨rfl,rfl⟩);(focus repeat with_reducible first|exact Take.nil|apply Take.c|apply Take.drop))
theorem opn_seal (l:List UInt8):opn (l++le4 (crcV l))=(l,0):=by
 have h1:(l++le4 (crcV l)).length-4=l.length:=by rw[List.length_append,le4_len];omega
 unfold opn
 rw[h1,List.take_append_of_le_length (Nat.le_refl _),List.take_length,List.drop_append_of_le_length (Nat.le_refl _),List.drop_length,List.nil_append,if_pos ⟨by rw[List.length_append,le4_len];omega,rfl⟩]

theorem vText_any (l:List UInt8)(h:SH)(hl:l.length≤1000000):SRun Tryz.prog 59 [S l] h fun r q=>r=S (vnum l.length++l)∧q=h:=by
 have hN:=fun h=>Number_any (l.length:Int) h (by omega)
 have hs1:=vnum_len (n:=(l.length:Int)) (by omega)
 have hs2:=(vk_ok (n:=(l.length:Int)) (by omega)).2
 generalize vnum (l.length:Int)=V at *
 refine zR Tryz.func59 rfl rfl ?_
 repeat'(first|apply zF|apply zB|apply zE|(apply o_g zC;exact rfl;exact rfl)|(apply zD;exact rfl;exact rfl;(focus first|exact rfl);exact rfl;(focus exact⟨_,hN _,by repeat with_reducible exact Take.nil⟩);rintro _ _ ⟨rfl,rfl⟩)|apply zA|apply zN|((with_reducible apply Sd.mk);first|exact True.intro|omega))
 all_goals first
  |(exfalso;omega)
  |(apply zL;(exact(show ResS _ _ _ _ [_] from⟨rfl,trivial⟩));(focus exact⟨rfl,rfl⟩);(focus repeat with_reducible first|exact Take.nil|apply Take.c|apply Take.drop))
def tkR (l:List UInt8)(e x:Int):List UInt8 × List UInt8 × Int:=if e≠0 then([],l,e)else if x<0 then([],l,2)else if l.length<x then([],l,12)else(l.take x.toNat,l.drop x.toNat,0)
theorem rTakeG_any (n:Nat)(l:List UInt8)(e x:Int)(h:SH)(hl:l.length≤1000000):SRun Tryz.prog 50 [gptr n 0 2,I x] (rdB n l e::h) fun r q=>r=S (tkR l e x).1∧q=rdB n (tkR l e x).2.1 (tkR l e x).2.2::h:=by
 unfold tkR
 by_cases he:e=0
 ·subst he
  rw[if_neg (fun k=>k rfl)]
  by_cases h1:x<0
  ·rw[if_pos h1]
   refine zY Tryz.func50 rfl rfl ?_
   repeat'(first|apply zF|apply zB|apply zE|(apply o_g zC;exact rfl;exact rfl)|(apply zM zC;(iterate 3 exact rfl);(focus exact pk))|(apply zD;exact rfl;exact rfl;(focus first|exact rfl);exact rfl;(focus exact⟨_,rfail_any _ _ _ _ _,by repeat with_reducible exact Take.nil⟩);rintro _ _ rfl)|(apply zS;exact rfl)|(apply yC;exact rfl;(focus first|exact ‹_›))|apply zA|apply zG|apply zN|apply zH|((with_reducible apply Sd.mk);first|exact True.intro)|((with_reducible apply Ln.mk);first|rfl)|((with_reducible apply Ce.mk);first|rfl)|exact True.intro|exact rfl)
   all_goals first
    |(exfalso;omega)
    |(apply zL;(exact(show ResS _ _ _ _ [_] from⟨rfl,trivial⟩));(focus exact⟨rfl,rfl⟩);(focus repeat with_reducible first|exact Take.nil|apply Take.c|apply Take.drop))
    |contradiction
  rw[if_neg h1]
  by_cases h2:(l.length:Int)<x
  ·rw[if_pos h2]
   refine zY Tryz.func50 rfl rfl ?_
   repeat'(first|apply zF|apply zB|apply zE|(apply o_g zC;exact rfl;exact rfl)|(apply zM zC;(iterate 3 exact rfl);(focus exact pk))|(apply zD;exact rfl;exact rfl;(focus first|exact rfl);exact rfl;(focus exact⟨_,rfail_any _ _ _ _ _,by repeat with_reducible exact Take.nil⟩);rintro _ _ rfl)|(apply zS;exact rfl)|(apply yC;exact rfl;(focus first|exact ‹_›))|(apply yD;exact rfl;(focus first|omega))|apply zA|apply zG|apply zN|apply zH|((with_reducible apply Sd.mk);first|exact True.intro)|((with_reducible apply Ln.mk);first|rfl)|((with_reducible apply Ce.mk);first|rfl)|exact True.intro|exact rfl)
   all_goals first
    |(exfalso;omega)
    |(apply zL;(exact(show ResS _ _ _ _ [_] from⟨rfl,trivial⟩));(focus exact⟨rfl,rfl⟩);(focus repeat with_reducible first|exact Take.nil|apply Take.c|apply Take.drop))
    |contradiction
  rw[if_neg h2]
  exact rTake_any n l x h (by omega) (by omega)
 ·rw[if_pos he]
  refine zY Tryz.func50 rfl rfl ?_
  repeat'(first|apply zF|apply zB|apply zE|(apply o_g zC;exact rfl;exact rfl)|(apply zM zC;(iterate 3 exact rfl);(focus exact pk))|(apply yC;exact rfl;(focus first|exact ‹_›))|apply zA|apply zG|apply zI|apply zN|apply zH|((with_reducible apply Sd.mk);first|exact True.intro)|((with_reducible apply Ln.mk);first|rfl)|((with_reducible apply Ce.mk);first|rfl)|exact True.intro|exact rfl)
  all_goals first
   |(exfalso;omega)
   |contradiction
   |(apply zL;(exact(show ResS _ _ _ _ [_] from⟨rfl,trivial⟩));(focus exact⟨rfl,rfl⟩);(focus repeat with_reducible first|exact Take.nil|apply Take.c|apply Take.drop))
def txt (l:List UInt8):Option (List UInt8 × List UInt8) :=
 if(rdN l 4096).2.2=0∧(rdN l 4096).1≤(rdN l 4096).2.1.length then some ((rdN l 4096).2.1.take (rdN l 4096).1.toNat,(rdN l 4096).2.1.drop (rdN l 4096).1.toNat)else none
def txtR (l:List UInt8)(r:Value)(n:Nat)(q:SH)(h:SH):Prop:=match txt l with
 |some (s,d)=>r=S s∧q=rdB n d 0::h
 |none=>∃e,e≠0∧r=S []∧q=rdB n l e::h
theorem rText_any (n:Nat)(l:List UInt8)(h:SH)(hl:l.length≤1000000):SRun Tryz.prog 62 [gptr n 0 2,I 4096] (rdB n l 0::h) fun r q=>txtR l r n q h:=by
 have hN:=fun h=>rNumber_any n l 4096 h hl
 obtain⟨k1,k2⟩:=rdN_ok l 4096
 obtain⟨T,hT⟩:∃T,txt l=T:=⟨_,rfl⟩
 unfold txtR
 rw[hT]
 unfold txt at hT
 generalize rdN l 4096=V at *
 obtain⟨x,d,e⟩:=V
 dsimp only at *
 have hK:=fun h=>rTakeG_any n d e x h (by omega)
 have hz:e≠0→tkR d e x=([],d,e):=fun g=>if_pos g
 by_cases he:e=0
 ·subst he
  have hx:=k2 rfl
  by_cases h2:x≤d.length
  ·rw[if_pos ⟨rfl,h2⟩]at hT
   subst hT
   rw[show tkR d 0 x=(d.take x.toNat,d.drop x.toNat,0)by unfold tkR;rw[if_neg (fun k=>k rfl),if_neg (by omega),if_neg (by omega)]]at hK
   refine zY Tryz.func62 rfl rfl ?_
   repeat'(first|apply zF|apply zB|apply zE|(apply o_g zC;exact rfl;exact rfl)|(apply zM zC;(iterate 3 exact rfl);(focus exact pk))|(apply o_makeFunc;iterate 3 exact rfl)|(apply zD;exact rfl;exact rfl;(focus first|exact rfl);exact rfl;(focus exact⟨_,hN _,by repeat with_reducible exact Take.nil⟩);rintro _ _ ⟨rfl,rfl⟩)|(apply zD;exact rfl;exact rfl;(focus first|exact rfl);exact rfl;(focus exact⟨_,hK _,by repeat with_reducible exact Take.nil⟩);rintro _ _ ⟨rfl,rfl⟩)|(apply zS;exact rfl)|apply zA|apply zI|apply zN|((with_reducible apply Sd.mk);first|exact True.intro)|((with_reducible apply Ln.mk);first|rfl)|((with_reducible apply Ce.mk);first|rfl)|exact True.intro|exact rfl)
   all_goals first
    |contradiction
    |(apply zL;(exact(show ResS _ _ _ _ [_] from⟨rfl,trivial⟩));(focus exact⟨rfl,rfl⟩);(focus repeat with_reducible first|exact Take.nil|apply Take.c|apply Take.drop))
  ·rw[if_neg (fun g=>h2 g.2)]at hT
   subst hT
   rw[show tkR d 0 x=([],d,12)by unfold tkR;rw[if_neg (fun k=>k rfl),if_neg (by omega),if_pos (by omega)]]at hK
   refine zY Tryz.func62 rfl rfl ?_
   repeat'(first|apply zF|apply zB|apply zE|(apply o_g zC;exact rfl;exact rfl)|(apply zM zC;(iterate 3 exact rfl);(focus exact pk))|(apply zX zC;(iterate 4 exact rfl);(focus exact up))|(apply o_makeFunc;iterate 3 exact rfl)|(apply zD;exact rfl;exact rfl;(focus first|exact rfl);exact rfl;(focus exact⟨_,hN _,by repeat with_reducible exact Take.nil⟩);rintro _ _ ⟨rfl,rfl⟩)|(apply zD;exact rfl;exact rfl;(focus first|exact rfl);exact rfl;(focus exact⟨_,hK _,by repeat with_reducible exact Take.nil⟩);rintro _ _ ⟨rfl,rfl⟩)|(apply yB;exact rfl)|apply zA|apply zP|apply zN|((with_reducible apply Sd.mk);first|exact True.intro)|((with_reducible apply Ln.mk);first|rfl)|((with_reducible apply Ce.mk);first|rfl)|((with_reducible apply Se.mk);first|(focus(repeat(first|exact SetAt.zero));done))|exact True.intro|exact rfl)
   all_goals first
    |contradiction
    |(apply zL;(exact(show ResS _ _ _ _ [_] from⟨rfl,trivial⟩));(focus exact⟨12,by decide,rfl,rfl⟩);(focus repeat with_reducible first|exact Take.nil|apply Take.c|apply Take.drop))
 ·rw[if_neg (fun g=>he g.1)]at hT
  subst hT
  rw[hz he]at hK
  refine zY Tryz.func62 rfl rfl ?_
  repeat'(first|apply zF|apply zB|apply zE|(apply o_g zC;exact rfl;exact rfl)|(apply zM zC;(iterate 3 exact rfl);(focus exact pk))|(apply zX zC;(iterate 4 exact rfl);(focus exact up))|(apply o_makeFunc;iterate 3 exact rfl)|(apply zD;exact rfl;exact rfl;(focus first|exact rfl);exact rfl;(focus exact⟨_,hN _,by repeat with_reducible exact Take.nil⟩);rintro _ _ ⟨rfl,rfl⟩)|(apply zD;exact rfl;exact rfl;(focus first|exact rfl);exact rfl;(focus exact⟨_,hK _,by repeat with_reducible exact Take.nil⟩);rintro _ _ ⟨rfl,rfl⟩)|(apply yC;exact rfl;(focus first|exact ‹_›))|apply zA|apply zP|apply zN|((with_reducible apply Sd.mk);first|exact True.intro)|((with_reducible apply Ln.mk);first|rfl)|((with_reducible apply Ce.mk);first|rfl)|((with_reducible apply Se.mk);first|(focus(repeat(first|exact SetAt.zero));done))|exact True.intro|exact rfl)
  all_goals first
   |contradiction
   |(apply zL;(exact(show ResS _ _ _ _ [_] from⟨rfl,trivial⟩));(focus exact⟨e,he,rfl,rfl⟩);(focus repeat with_reducible first|exact Take.nil|apply Take.c|apply Take.drop))

theorem DirectT_any (n:Nat)(x v:Int)(e:Enc)(h p:SH)(hb:EncT n h none e p)(hok:EncOk 999000 e) :
  SRun Tryz.prog 78 [gptr n 0 3,I x,I v] p fun _ q=>EncT n h none (edir e x v) q:=by
 refine w_body3 Tryz.func78 rfl rfl ?_
 repeat'(first|apply zF|apply zB|apply zE|(apply o_g zC;exact rfl;exact rfl)|(apply o_ar zC;exact rfl;exact rfl)|(apply zU;exact rfl;exact rfl)|(apply yF;iterate 4 exact rfl)|(apply o_guardF;(iterate 3 exact rfl);all_goals intro hc)|(apply yB;exact rfl)|(apply w_if;exact rfl;all_goals intro hc)|apply zA|apply zP|apply zI|apply zN|apply zH|((with_reducible apply Sd.mk);first|exact True.intro)|((with_reducible apply Wr.mk);first|exact IntWalk.i64_in _ (by omega)))
 all_goals first|(apply zL;(exact(show ResS _ _ _ _ [] from trivial));(focus rw[show edir e x v=e from if_pos (by omega)];exact hb);(focus repeat with_reducible first|exact Take.nil|apply Take.c|apply Take.drop))|skip
 obtain⟨m,rfl⟩:=Int.eq_ofNat_of_zero_le (show 0≤x by omega)
 have he:edir e m v=ebits v m e:=if_neg (by omega)
 refine zZ (S:=Nat × Enc × SH × Nat) (fun x=>[(0,gptr n 0 3),(2,I v),(6,I ((x.1:Int)-1))]) (fun x=>x.2.2.1) (fun x=>EncT n h none x.2.1 x.2.2.1∧EncOk x.2.2.2 x.2.1∧x.2.2.2+2*x.1≤999200∧x.1≤m∧ebits v x.1 x.2.1=edir e m v)
  (fun x=>x.1) (m,e,p,999000) ⟨hb,hok,by show 999000+2*m≤_;omega,Nat.le_refl _,he.symm⟩ (by repeat'(first|exact trivial|refine⟨rfl,?_⟩|refine⟨congrArg some ?_,?_⟩)) (by repeat with_reducible first|exact Take.nil|apply Take.c|apply Take.drop) ?_
 rintro⟨k,e1,p1,c⟩ ⟨hb1,hok1,hc1,hkm,he1⟩
 dsimp only at *
 cases k with
 |zero =>
  repeat'(first|apply zF|apply zB|apply zE|(apply o_g zC;exact rfl;exact rfl)|(apply zS;exact rfl)|apply zA|apply zK|apply zJ|apply zV|((with_reducible apply Sd.mk);first|exact True.intro))
  (apply s_finN;(exact(show ResS _ _ _ _ [] from trivial));(focus rw[←he1];exact hb1);(focus repeat with_reducible first|exact Take.nil|apply Take.c|apply Take.drop))
 |succ k =>
  rw[show((k+1:Nat):Int)-1=k by omega]
  repeat'(first|apply zF|apply zB|apply zE|(apply o_g zC;exact rfl;exact rfl)|(apply o_ar zC;exact rfl;exact rfl)|(apply o_ex;exact rfl;exact rfl)|(apply zD;exact rfl;exact rfl;(focus first|exact rfl);exact rfl;(focus exact⟨_,BitT_any _ _ _ _ _ _ _ hb1 (hok1.mono (by omega)),by repeat with_reducible exact Take.nil⟩);rintro _ _ hb2)|(apply yB;exact rfl)|apply zA|apply zG|apply zI|apply zH|((with_reducible apply Sd.mk);first|exact True.intro|omega)|((with_reducible apply Wr.mk);first|exact w_and1 _|exact IntWalk.i64_in _ (by omega))|((with_reducible apply Ex.mk);first|exact ex_shrk (by omega)))
  exact⟨(k,_,_,c+2),⟨hb2,ebit_ok hok1 _ _,by show c+2+2*k≤_;omega,by show k≤m;omega,he1⟩,by show k<k+1;omega,(by repeat'(first|exact trivial|refine⟨rfl,?_⟩|refine⟨congrArg some ?_,?_⟩)),(by repeat with_reducible first|exact Take.nil|apply Take.c|apply Take.drop)⟩
theorem numEncT (n M N m:Nat)(t:List Int)(e:Enc)(v:Int)(h p:SH)(hb:EncT n ((M,⟨numC N,false⟩)::(N,⟨nodes t,false⟩)::h) none e p)(ht:t.length=64)(hok:EncOk m e)(hm:m+12≤999000) :
  SRun Tryz.prog 42 [gptr M 0 2,gptr n 0 3,I v] p fun _ q=>EncT n ((M,⟨numC N,false⟩)::(N,⟨nodes (tenc v 6 t e 1).1,false⟩)::h) none (tenc v 6 t e 1).2 q:=by
 have hb':EncT n ((M,⟨numC N,false⟩)::(N,⟨nodes ([]++t++[]),false⟩)::h) none e p:=by rw[List.nil_append,List.append_nil];exact hb
 have:=TreeEncodeT n M N 0 2 64 6 m none (numC N) [] [] t e v h p hb' rfl rfl rfl rfl ht (by decide) hok hm
 rw[List.nil_append,List.append_nil]at this
 exact this.mono fun _ _ g=>g.2
theorem NumEncodeT_any (n M N m:Nat)(t:List Int)(e:Enc)(v:Int)(h p:SH)(hb:EncT n ((M,⟨numC N,false⟩)::(N,⟨nodes t,false⟩)::h) none e p)(ht:t.length=64)(hok:EncOk m e)(hm:m+200≤999000) :
  SRun Tryz.prog 44 [gptr M 0 2,gptr n 0 3,I v] p fun _ q=>EncT n ((M,⟨numC N,false⟩)::(N,⟨nodes (nenc t e v).1,false⟩)::h) none (nenc t e v).2 q:=by
 by_cases hv:v<0∨4611686018427387903<v
 ·have hx:ncut v=0:=if_pos hv
  have e1:nenc t e v=tenc 0 6 t e 1:=by unfold nenc;rw[hx];rfl
  rw[e1]
  have hL:∀h,SRun Tryz.prog 65 [.int .u64 0] h fun r q=>r=I 0∧q=h:=fun h=>bLen_any 0 h (by decide)
  have hE:=numEncT n M N m t e 0 h p hb ht hok (by omega)
  refine w_body3 Tryz.func44 rfl rfl ?_
  repeat'(first|apply zF|apply zB|apply zE|(apply o_g zC;exact rfl;exact rfl)|(apply o_ar zC;exact rfl;exact rfl)|(apply zD;exact rfl;exact rfl;(focus first|exact rfl);exact rfl;(focus exact⟨_,hL _,by repeat with_reducible exact Take.nil⟩);rintro _ _ ⟨rfl,rfl⟩)|(apply zD;exact rfl;exact rfl;(focus first|exact rfl);exact rfl;(focus exact⟨_,hE,by repeat with_reducible exact Take.nil⟩);rintro _ _ hb2)|(apply zU;exact rfl;exact rfl)|(apply yF;iterate 4 exact rfl)|(apply o_guardF;(iterate 3 exact rfl);all_goals intro hc)|(apply yB;exact rfl)|(apply zS;exact rfl)|(apply yC;exact rfl;(focus first|omega))|apply zA|apply zI|((with_reducible apply Sd.mk);first|exact True.intro)|((with_reducible apply Wr.mk);first|exact IntWalk.u64_in _ (by omega)))
  all_goals first
   |(exfalso;omega)
   |(apply s_finN;(exact(show ResS _ _ _ _ [] from trivial));(focus exact hb2);(focus repeat with_reducible first|exact Take.nil|apply Take.c|apply Take.drop))
 ·have hx:ncut v=v:=if_neg hv
  obtain⟨x,rfl⟩:=Int.eq_ofNat_of_zero_le (show 0≤v by omega)
  have hl:blen x≤62:=blen_le (by have:(2:Nat)^62=4611686018427387904:=rfl;omega)
  have hL:∀h,SRun Tryz.prog 65 [.int .u64 x] h fun r q=>r=I (blen x)∧q=h:=fun h=>bLen_any x h (by omega)
  have e1:nenc t e x=((tenc (blen x) 6 t e 1).1,if 2≤blen x then edir (tenc (blen x) 6 t e 1).2 ((blen x:Int)-1) x else(tenc (blen x) 6 t e 1).2):=by unfold nenc;rw[hx];rfl
  rw[e1]
  generalize blen x=l at *
  have hE:=numEncT n M N m t e l h p hb ht hok (by omega)
  have hok2:EncOk 999000 (tenc l 6 t e 1).2:=(tenc_ok (v:=(l:Int)) (k:=6) (t:=t) (j:=1) hok).1.mono (by omega)
  generalize tenc l 6 t e 1=T at *
  dsimp only
  refine w_body3 Tryz.func44 rfl rfl ?_
  repeat'(first|apply zF|apply zB|apply zE|(apply o_g zC;exact rfl;exact rfl)|(apply o_ar zC;exact rfl;exact rfl)|(apply zD;exact rfl;exact rfl;(focus first|exact rfl);exact rfl;(focus exact⟨_,hL _,by repeat with_reducible exact Take.nil⟩);rintro _ _ ⟨rfl,rfl⟩)|(apply zD;exact rfl;exact rfl;(focus first|exact rfl);exact rfl;(focus exact⟨_,hE,by repeat with_reducible exact Take.nil⟩);rintro _ _ hb2)|(apply zD;exact rfl;exact rfl;(focus first|exact rfl);exact rfl;(focus exact⟨_,DirectT_any _ _ _ _ _ _ hb2 hok2,by repeat with_reducible exact Take.nil⟩);rintro _ _ hb3)|(apply zU;exact rfl;exact rfl)|(apply yD;exact rfl;(focus first|omega))|(apply w_if;exact rfl;all_goals intro hc)|apply zA|apply zI|((with_reducible apply Sd.mk);first|exact True.intro)|((with_reducible apply Wr.mk);first|exact IntWalk.i64_in _ (by omega)|exact IntWalk.u64_in _ (by omega)))
  all_goals first
   |(exfalso;omega)
   |(rw[if_pos (by omega)];(apply s_finN;(exact(show ResS _ _ _ _ [] from trivial));(focus exact hb3);(focus repeat with_reducible first|exact Take.nil|apply Take.c|apply Take.drop)))
   |(rw[if_neg (by omega)];(apply s_finN;(exact(show ResS _ _ _ _ [] from trivial));(focus exact hb2);(focus repeat with_reducible first|exact Take.nil|apply Take.c|apply Take.drop)))
theorem EncT.re {n:Nat}{a:Option Nat}{h h' p:SH}{e:Enc}(hb:EncT n h a e p)(t:Take h h'):∃p',EncT n h' a e p'∧Take p p':=by
 cases hb with
 |nil low size ha=>exact⟨_,.nil _ _ ha,.cons .head t⟩
 |some o low size A ha ho=>exact⟨_,.some _ _ _ _ ha ho,.cons .head (.cons .head t)⟩
theorem EncT.none' {n:Nat}{a:Option Nat}{h p:SH}{e:Enc}(hb:EncT n h a e p):EncT n h none e p:=by
 cases hb with
 |nil low size ha=>exact .nil _ _ rfl
 |some o low size A ha ho=>exact .some _ _ _ _ (fun _ g=>by cases g) ho

structure Cst where
 lit:Int
 cpy:Int
 dst:Int
 len:Int
abbrev csC (c:Cst):List Value:=[I c.lit,I c.cpy,I c.dst,I c.len]
abbrev csV (c:Cst):Value:=.agg ⟨csC c⟩
abbrev Pc :=Int × Int × Int
abbrev pcC (t:Pc):List Value:=[I t.1,I t.2.1,.int .u8 t.2.2]
abbrev pcV (t:Pc):Value:=.agg ⟨pcC t⟩
theorem pcW (t:Pc):(pcC t).length=3:=rfl
@[simp] theorem len_pcs (l:List Pc):(recs pcC l).length=3*l.length:=by rw[recs_len pcW];omega
abbrev one1 (n:Int):Prop:=0≤n∧n≤1000
abbrev vC (c:Cst):Prop:=one1 c.lit∧one1 c.cpy∧one1 c.dst∧one1 c.len
abbrev vP (t:Pc):Prop:=(t.2.1=0∧t.1=1)∨(1≤t.2.1∧t.2.1≤4096∧2≤t.1∧t.1≤273∧t.2.2=0)
def iblen (n:Int):Int:=(blen n.toNat:Int)
theorem iblen_pos {n:Int}(h:0≤n∧n<8192):0≤iblen n∧iblen n≤13:=by
 have:=blen_le (n:=n.toNat) (k:=13) (by omega)
 unfold iblen;omega
def price (c:Cst)(t:Pc):Int:=if t.2.1=0 then c.lit else c.cpy+c.dst*iblen t.2.1+c.len*iblen t.1
theorem mul_in {a b:Int}(ha:one1 a)(hb:0≤b∧b≤13):0≤a*b∧a*b≤13000:=by
 have h1:=Int.mul_le_mul_of_nonneg_left hb.2 ha.1
 have h2:=Int.mul_nonneg ha.1 hb.1
 omega
theorem price_in {c:Cst}{t:Pc}(hc:vC c)(ht:vP t):0≤price c t∧price c t≤27000:=by
 obtain⟨h1,h2,h3,h4⟩:=hc
 unfold price
 split
 ·omega
 ·rcases ht with ht|ht
  ·omega
  ·have:=mul_in h3 (iblen_pos (n:=t.2.1) (by omega))
   have:=mul_in h4 (iblen_pos (n:=t.1) (by omega))
   omega

theorem validC_any (c:Cst)(h:SH):SRun Tryz.prog 32 [csV c] h fun r q=>r=B (decide (vC c))∧q=h:=by
 obtain⟨a,b,d,e⟩:=c
 refine zR Tryz.func32 rfl rfl ?_
 repeat'(first|apply zF|apply zB|apply zE|(apply o_g zC;exact rfl;exact rfl)|(apply zM zC;(iterate 3 exact rfl);(focus exact pk))|(apply o_box (tt:=tyT);iterate 5 exact rfl)|(apply zT zC;(iterate 5 exact rfl);(focus decide);exact rfl;(focus decide);(focus repeat(first|exact CatR.nil|(apply CatR.one;exact rfl;exact rfl)));exact rfl)|apply zA|apply zH|((with_reducible apply Sd.mk);first|exact True.intro)|((with_reducible apply Ln.mk);first|rfl)|((with_reducible apply Ce.mk);first|rfl)|exact True.intro|intro A|exact rfl)
 refine zZ (S:=Nat) (fun k=>[(13,gsl A 0 (4*1) 4 1),(14,I 4),(15,I k)]) (fun _=>(A,⟨[a,b,d,e].map (fun z=>I z),false⟩)::h) (fun k=>k≤4∧∀i,i<k→one1 [a,b,d,e][i]!) (fun k=>4-k) 0 ⟨by omega,by omega⟩ (by repeat'(first|exact trivial|refine⟨rfl,?_⟩|refine⟨congrArg some ?_,?_⟩)) (by repeat with_reducible first|exact Take.nil|apply Take.c|apply Take.drop) ?_
 rintro k ⟨hk,hs⟩
 by_cases hkl:k<4
 ·have hl:k<[a,b,d,e].length:=hkl
  have hall:(∀i,i<4→one1 [a,b,d,e][i]!)↔one1 a∧one1 b∧one1 d∧one1 e :=
   ⟨fun g=>⟨g 0 (by omega),g 1 (by omega),g 2 (by omega),g 3 (by omega)⟩,fun g i hi=>by match i,hi with|0,_=>exact g.1|1,_=>exact g.2.1|2,_=>exact g.2.2.1|3,_=>exact g.2.2.2⟩
  repeat'(first|apply zF|apply zB|apply zE|(apply o_g zC;exact rfl;exact rfl)|(apply o_ar zC;exact rfl;exact rfl)|(apply zM zC;(iterate 3 exact rfl);(focus exact pk))|(apply zU;exact rfl;exact rfl)|(apply yF;iterate 4 exact rfl)|(apply o_guardF;(iterate 3 exact rfl);all_goals intro hc)|(apply yB;exact rfl)|(apply yC;exact rfl;(focus first|omega))|(apply w_if;exact rfl;all_goals intro hc)|apply zA|apply zP|apply zG|apply yP|apply zI|apply zN|apply zH|((with_reducible apply Sd.mk);first|exact True.intro|omega)|((with_reducible apply Ln.mk);first|rfl)|((with_reducible apply Wr.mk);first|exact IntWalk.i64_in _ (by omega))|((with_reducible apply Ce.mk);first|exact yM (by omega))|exact True.intro|exact rfl)
  all_goals first
   |(apply zL;(exact(show ResS _ _ _ _ [_] from⟨rfl,trivial⟩));(focus refine⟨?_,rfl⟩;show B _=B _;congr 1;symm;rw[decide_eq_false_iff_not];intro g;have:=hall.2 g k hkl;omega);(focus repeat with_reducible first|exact Take.nil|apply Take.c|apply Take.drop))
   |exact⟨k+1,⟨hkl,fun i hi=>by
     by_cases e2:i=k
     ·subst e2;omega
     ·exact hs i (by omega)⟩,by omega,(by repeat'(first|exact trivial|refine⟨rfl,?_⟩|refine⟨congrArg some ?_,?_⟩)),(by repeat with_reducible first|exact Take.nil|apply Take.c|apply Take.drop)⟩
 ·repeat'(first|apply zF|apply zB|apply zE|(apply o_g zC;exact rfl;exact rfl)|(apply yD;exact rfl;(focus first|omega))|apply zA|apply zK|apply zJ|apply zN|apply zV|((with_reducible apply Sd.mk);first|exact True.intro))
  (apply zL;(exact(show ResS _ _ _ _ [_] from⟨rfl,trivial⟩));(focus refine⟨?_,rfl⟩;show B _=B _;congr 1;symm;rw[decide_eq_true_eq];exact⟨hs 0 (by omega),hs 1 (by omega),hs 2 (by omega),hs 3 (by omega)⟩);(focus repeat with_reducible first|exact Take.nil|apply Take.c|apply Take.drop))
theorem vP_nat {t:Pc}(h:vP t):∃(a b:Nat) (y:Int),t=((a:Int),(b:Int),y)∧a≤273∧b≤4096:=by
 obtain⟨a,b,y⟩:=t
 have h':(b=0∧a=1)∨(1≤b∧b≤4096∧2≤a∧a≤273∧y=0):=h
 exact⟨a.toNat,b.toNat,y,by rw[Int.toNat_of_nonneg (by omega),Int.toNat_of_nonneg (by omega)],by omega,by omega⟩
theorem price_nat (c:Cst)(a b:Nat)(y:Int):price c ((a:Int),(b:Int),y)=if(b:Int)=0 then c.lit else c.cpy+c.dst*(blen b:Int)+c.len*(blen a:Int):=rfl
theorem price_any (c:Cst)(t:Pc)(h:SH)(hc:vC c)(ht:vP t):SRun Tryz.prog 34 [csV c,pcV t] h fun r q=>r=I (price c t)∧q=h:=by
 have hin:=price_in hc ht
 obtain⟨a,b,y,rfl,ha,hb⟩:=vP_nat ht
 rw[price_nat]at hin ⊢
 have m1:=mul_in hc.2.2.1 (b:=(blen b:Int)) (by have:=blen_le (n:=b) (k:=13) (by omega);omega)
 have m2:=mul_in hc.2.2.2 (b:=(blen a:Int)) (by have:=blen_le (n:=a) (k:=13) (by omega);omega)
 have h2:=hc.2.1
 show SRun _ _ [csV c,.agg ⟨[I a,I b,.int .u8 y]⟩] h _
 refine zY Tryz.func34 rfl rfl ?_
 repeat'(first|apply zF|apply zB|apply zE|(apply yH;(focus kernel_rfl);(focus kernel_rfl))|(apply o_g zC;exact rfl;exact rfl)|(apply o_ar zC;exact rfl;exact rfl)|(apply zM zC;(iterate 3 exact rfl);(focus exact pk))|(apply o_box (tt:=tyT);iterate 5 exact rfl)|(apply yS;(iterate 4 exact rfl);(focus exact⟨_,bLen_any b _ (by omega),by repeat with_reducible exact Take.nil⟩);(focus exact fun _ _ h=>h.1);(focus(repeat(first|exact Flat.c rfl))))|(apply yS;(iterate 4 exact rfl);(focus exact⟨_,bLen_any a _ (by omega),by repeat with_reducible exact Take.nil⟩);(focus exact fun _ _ h=>h.1);(focus(repeat(first|exact Flat.c rfl))))|(apply w_if;exact rfl;all_goals intro hc)|apply zA|apply zP|apply zI|apply zN|((with_reducible apply Sd.mk);first|exact True.intro)|((with_reducible apply Ln.mk);first|rfl)|((with_reducible apply Wr.mk);first|exact IntWalk.i64_in _ (by omega)|exact IntWalk.u64_in _ (by omega))|((with_reducible apply Ce.mk);first|rfl)|exact True.intro|intro A|exact rfl)
 ·rw[if_pos hc]
  (apply zL;(exact(show ResS _ _ _ _ [_] from⟨rfl,trivial⟩));(focus exact⟨rfl,rfl⟩);(focus repeat with_reducible first|exact Take.nil|apply Take.c|apply Take.drop))
 ·rw[if_neg hc]
  (apply zL;(exact(show ResS _ _ _ _ [_] from⟨rfl,trivial⟩));(focus exact⟨rfl,rfl⟩);(focus repeat with_reducible first|exact Take.nil|apply Take.c|apply Take.drop))

def costs (c:Cst):List Pc→Int
 |[]=>0
 |t::r=>price c t+costs c r
abbrev vPs (l:List Pc):Prop:=∀t∈l,vP t

def copyN (d:Nat):Nat→List UInt8→List UInt8
 |0,o=>o
 |n+1,o=>copyN d n (o++[o[o.length-d]!])
def byt (y:Int):UInt8:=UInt8.ofNat y.toNat
theorem byt_nat {y:Int}(h:0≤y∧y≤255):((byt y).toNat:Int)=y:=by
 unfold byt
 rw[UInt8.toNat_ofNat',Nat.mod_eq_of_lt (by omega)];omega
theorem byteV_byt {y:Int}(h:0≤y∧y≤255):Value.int .u8 y=byteV (byt y):=by
 show _=Value.int .u8 _
 rw[byt_nat h]
def estp (o:List UInt8)(t:Pc):List UInt8:=if t.2.1=0 then o++[byt t.2.2] else copyN t.2.1.toNat t.1.toNat o
theorem copyN_len (d:Nat):∀(n:Nat) (o:List UInt8),(copyN d n o).length=o.length+n
 |0,_=>rfl
 |n+1,o=>by rw[copyN,copyN_len d n];simp;omega
theorem estp_len {o:List UInt8}{t:Pc}(h:vP t):((estp o t).length:Int)=o.length+t.1:=by
 unfold estp
 split
 ·rw[List.length_append];simp;omega
 ·rw[copyN_len];omega
abbrev bytesOk (l:List Pc):Prop:=∀t∈l,0≤t.2.2∧t.2.2≤255
theorem bang_mem {α:Type}[Inhabited α]{l:List α}{k:Nat}(h:k<l.length):l[k]!∈l:=by rw[getElem!_pos l k h];exact List.getElem_mem h
theorem estp_lit {t:Pc}(o:List UInt8)(h:t.2.1=0):estp o t=o++[byt t.2.2]:=if_pos h
theorem estp_cpy {t:Pc}(o:List UInt8)(h:t.2.1≠0):estp o t=copyN t.2.1.toNat t.1.toNat o:=if_neg h

abbrev St :=Int × Int × Pc
abbrev stC (s:St):List Value:=[I s.1,I s.2.1,I s.2.2.1,I s.2.2.2.1,.int .u8 s.2.2.2.2]
theorem stcW (s:St):(stC s).length=5:=rfl
@[simp] theorem len_stcs (l:List St):(recs stC l).length=5*l.length:=by rw[recs_len stcW];omega
def nxt (c:Cst)(T:List St)(i:Nat)(t:Pc):St:=(T[i+t.1.toNat]!.1+price c t,T[i+t.1.toNat]!.2.1+1,t)
abbrev sbet (x y:St):Prop:=x.1<y.1∨x.1=y.1∧x.2.1<y.2.1
def tryS (c:Cst)(i:Nat)(s:Bool × List St)(t:Pc):Bool × List St :=
 if s.1=false∨sbet (nxt c s.2 i t) s.2[i]! then(true,s.2.set i (nxt c s.2 i t))else s
theorem tryS_len (c:Cst)(i:Nat)(s:Bool × List St)(t:Pc):(tryS c i s t).2.length=s.2.length:=by
 unfold tryS;split <;> simp
abbrev TB (n3 n8 n9 n10 A:Nat)(c:Cst)(i:Nat)(s:Bool × List St)(h:SH):SH :=
 (n10,⟨[B s.1],false⟩)::(n9,⟨[I i],false⟩)::(n8,⟨[gsl A 0 (s.2.length*5) s.2.length 5],false⟩)::(A,⟨recs stC s.2,false⟩)::(n3,⟨csC c,false⟩)::h
abbrev stOk (s:St):Prop:=0≤s.1∧s.1≤27000*4097∧0≤s.2.1∧s.2.1≤4097
theorem put5 {a b c d e x y z:Value}:PutAt [a,b,c,d,e] 2 [x,y,z] [a,b,x,y,z]:=⟨by simp,rfl⟩
theorem try_any (c:Cst)(t:Pc)(n3 n8 n9 n10 A0 i:Nat)(s:Bool × List St)(h:SH)(hc:vC c)(ht:vP t)(hi:i+t.1.toNat<s.2.length)(hl:s.2.length≤4097)(hT:stOk s.2[i+t.1.toNat]!) :
  SRun Tryz.prog 66 [pcV t,gptr n8 0 1,gptr n9 0 1,gptr n3 0 4,gptr n10 0 1] (TB n3 n8 n9 n10 A0 c i s h)
   fun r q=>r=.tuple #[]∧q=TB n3 n8 n9 n10 A0 c i (tryS c i s t) h:=by
 have hpr:=price_in hc ht
 obtain⟨a,b,y,rfl,ha,hb⟩:=vP_nat ht
 have hix:i+((a:Int)).toNat=i+a:=by rw[Int.toNat_natCast]
 dsimp only at hi hT
 rw[hix]at hi hT
 have hn:nxt c s.2 i ((a:Int),(b:Int),y)=(s.2[i+a]!.1+price c ((a:Int),(b:Int),y),s.2[i+a]!.2.1+1,((a:Int),(b:Int),y)):=by unfold nxt;dsimp only;rw[hix]
 obtain⟨f,T⟩:=s
 dsimp only at hi hT hl hn ⊢
 show SRun _ _ [.agg ⟨[I (a:Int),I (b:Int),.int .u8 y]⟩,gptr n8 0 1,gptr n9 0 1,gptr n3 0 4,gptr n10 0 1]
  ((n10,⟨[B f],false⟩)::(n9,⟨[I i],false⟩)::(n8,⟨[gsl A0 0 (T.length*5) T.length 5],false⟩)::(A0,⟨recs stC T,false⟩)::(n3,⟨csC c,false⟩)::h) _
 refine w_body5 Tryz.func66 rfl rfl ?_
 have hput:PutAt (recs stC T) (0+((i:Int)).toNat*5) [I (T[i+a]!.1+price c ((a:Int),(b:Int),y)),I (T[i+a]!.2.1+1),I (a:Int),I (b:Int),.int .u8 y] (recs stC (T.set i (nxt c T i ((a:Int),(b:Int),y)))):=by
  rw[hn];exact putAt_recZ (x:=(T[i+a]!.1+price c ((a:Int),(b:Int),y),T[i+a]!.2.1+1,((a:Int),(b:Int),y))) (fun _=>rfl) (by omega)
 have hset:(f=false∨(T[i+a]!.1+price c ((a:Int),(b:Int),y)<T[i]!.1∨T[i+a]!.1+price c ((a:Int),(b:Int),y)=T[i]!.1∧T[i+a]!.2.1+1<T[i]!.2.1))→tryS c i (f,T) ((a:Int),(b:Int),y)=(true,T.set i (nxt c T i ((a:Int),(b:Int),y))):=fun g=>by
  unfold tryS;dsimp only;rw[if_pos (by rw[hn];exact g)]
 have hno:¬(f=false∨(T[i+a]!.1+price c ((a:Int),(b:Int),y)<T[i]!.1∨T[i+a]!.1+price c ((a:Int),(b:Int),y)=T[i]!.1∧T[i+a]!.2.1+1<T[i]!.2.1))→tryS c i (f,T) ((a:Int),(b:Int),y)=(f,T):=fun g=>by
  unfold tryS;dsimp only;rw[if_neg (by rw[hn];exact g)]
 repeat'(first|apply zF|apply zB|apply zE|(apply yH;(focus kernel_rfl);(focus kernel_rfl))|(apply o_g zC;exact rfl;exact rfl)|(apply o_ar zC;exact rfl;exact rfl)|(apply yR;exact rfl;exact rfl)|(apply zM zC;(iterate 3 exact rfl);(focus exact pk))|(apply yQ zC;(iterate 3 exact rfl);(focus exact pk))|(apply zX zC;(iterate 4 exact rfl);(focus exact up))|(apply yE zC;(iterate 4 exact rfl);(focus exact⟨rfl⟩);(focus exact up))|(apply yG zC;iterate 5 exact rfl)|(apply o_box (tt:=tyT);iterate 5 exact rfl)|(apply yT zC;exact rfl;exact rfl;(focus first|with_reducible exact pl129);exact rfl;(focus repeat(first|exact BuildR.nil|(apply BuildR.one;exact rfl;exact rfl;(first|(focus(repeat(first|exact SetAt.zero|apply SetAt.succ));done)))|(apply BuildR.agg;exact rfl;exact rfl;(first|exact put5))));exact rfl)|(apply yS;(iterate 4 exact rfl);(focus exact⟨_,price_any c _ _ hc ht,by repeat with_reducible exact Take.nil⟩);(focus exact fun _ _ h=>h.1);(focus(repeat(first|exact Flat.c rfl))))|(apply zU;exact rfl;exact rfl)|(apply yF;iterate 4 exact rfl)|(apply o_skip_undef;iterate 3 exact rfl)|(apply o_guardT;(iterate 3 exact rfl);all_goals intro hc)|(apply o_guardF;(iterate 3 exact rfl);all_goals intro hc)|(apply o_guardB;(iterate 3 exact rfl);all_goals intro hc)|(apply yB;exact rfl)|(apply zS;exact rfl)|(apply w_if;exact rfl;all_goals intro hc)|apply zA|apply zI|((with_reducible apply Sd.mk);first|exact True.intro|omega)|((with_reducible apply Ln.mk);first|rfl|(simp ;first|done|omega))|((with_reducible apply Wr.mk);first|exact IntWalk.i64_in _ (by omega))|((with_reducible apply Ce.mk);first|rfl|exact cell_recZ (fun _=>rfl) (by omega) (by decide) rfl)|((with_reducible apply Se.mk);first|(focus(repeat(first|exact SetAt.zero));done))|((with_reducible apply Pu.mk);first|exact yA rfl|exact hput)|((with_reducible apply Su.mk);first|exact zQ|exact subAt_recZ (fun _=>rfl) (by omega))|exact True.intro|exact Or.inl rfl|apply And.intro|intro A|exact rfl)
 all_goals first
  |(rw[hset (by first|(left;simpa using hc)|(right;left;assumption)|(right;right;exact⟨by assumption,by assumption⟩))];(apply s_finN;(exact(show ResS _ _ _ _ [] from trivial));(focus exact⟨rfl,rfl⟩);(focus repeat(first|with_reducible exact Take.nil|with_reducible apply Take.c|((with_reducible apply Take.cE);first|exact rfl|(apply blkE;(focus first|exact rfl|exact yI rfl|exact yO rfl|exact congrArg (fun v=>[v]) (gslE rfl rfl (by first|rfl|exact ‹_›|omega|(simp ;first|done|omega)) (by first|rfl|exact ‹_›|omega|(simp ;first|done|omega)) rfl))))|with_reducible apply Take.drop))))
  |(rw[hno (by rintro(g|g|g) <;> first|omega|simp_all)];(apply s_finN;(exact(show ResS _ _ _ _ [] from trivial));(focus exact⟨rfl,rfl⟩);(focus repeat with_reducible first|exact Take.nil|apply Take.c|apply Take.drop)))
end Go.Proofs.YteddogfolceahaaGreat
end
