/- Part 9 of the proof of the law TopDamage: texts merged. No condition. -/
import Derived.Test.YteddogfolceahaaGreatZTopDamageH
import Derived.Shelf.Strings.Builder1
import Derived.Shelf.Strings.Builder2
import Derived.Shelf.Strings.BuilderF
import Derived.Shelf.Strings.Prefix
import Derived.Shelf.Bits.Mul64
import Derived.Shelf.Strings.Repeat
import Derived.Test.YteddogfolceahaaGreatProg
import Derived.Laws.IdiomCopy
import Derived.MapKept
set_option linter.unusedSimpArgs false
set_option linter.unusedVariables false
section
set_option maxRecDepth 4000
namespace Go.Gh
open Go.RowKit

theorem rel_row {B0:Nat}{w0:World}{φ:Nat→Go.Gh.Loc}{H:Heap}{w w':World}(r:Rel B0 w0 φ H w)(hbw:Below w.heap.size w w'){g0:Blk}{l0:Go.Gh.Loc}{A0:Nat}{H':Heap}
  (hpl:Place H A0 H' g0) (hlb:w.heap.size≤l0.b) (hl0:l0.base=0)
  (hbr:Ext φ (lens H) (upd φ A0 l0) (lens H')→BRel (upd φ A0 l0) (lens H') g0 l0 w') :
  Ext φ (lens H) (upd φ A0 l0) (lens H')∧Rel B0 w0 (upd φ A0 l0) H' w':=by
 have hne:∀{A n},lens H A=some n→A≠A0:=by
  intro A n hA e
  subst e
  obtain⟨g,h,_⟩:=lens_live hA
  exact hpl.free g h
 have hext:Ext φ (lens H) (upd φ A0 l0) (lens H'):=by
  intro A n hA
  have h:=hne hA
  exact⟨n,by rw[hpl.lens_ne h];exact hA,.inl ⟨rfl,upd_ne h⟩⟩
 have hb:w0.heap.size≤w.heap.size:=r.below.size
 have r2:=r.later hbw
 refine⟨hext,⟨r2.below,r.b0,?_,?_,?_⟩⟩
 ·intro A g hA
  by_cases e:A=A0
  ·subst e
   rw[hpl.at_]at hA
   simp only[Option.some.injEq]at hA
   subst hA
   rw[yK]
   exact hbr hext
  ·rw[hpl.ne A e]at hA
   obtain⟨o1,c1,h1,h2,h3,h5⟩:=(r2.blk A g hA).any
   rw[upd_ne e]
   refine⟨o1,c1,h1,h2,h3,fun i v hi=>?_⟩
   obtain⟨v',g1,g2⟩:=h5 i v hi
   exact⟨v',g1,g2.mono hext⟩
 ·intro A g hA hro
  by_cases e:A=A0
  ·subst e
   rw[yK]
   exact⟨by have:=r.b0;omega,hl0⟩
  ·rw[hpl.ne A e]at hA
   rw[upd_ne e]
   exact r.own A g hA hro
 ·intro A A' g g' hA hro hA' he
  by_cases e1:A=A0
  ·subst e1
   by_cases e2:A'=A
   ·exact e2
   ·rw[hpl.ne A' e2]at hA'
    rw[yK,upd_ne e2]at he
    have:=r.lt hA'
    omega
  ·rw[hpl.ne A e1]at hA
   by_cases e2:A'=A0
   ·subst e2
    rw[yK,upd_ne e1]at he
    have:=r.lt hA
    omega
   ·rw[hpl.ne A' e2]at hA'
    rw[upd_ne e1,upd_ne e2]at he
    exact r.inj A A' g g' hA hro hA' he
theorem srun_row {P:Program}{f:FuncId}{xs:List Value}{E sz n:Nat}{cs:List Value}{h:SH}(hc:xs.all yJ=true)(hcs:cs.all yJ=true)(hsz:0<sz)
  (k:∀w:World,Calls P f xs.toArray w fun e w'=>∃v,e=.returned v∧w'.ownsRow w.heap.size E sz v n cs∧(v=.slice none 0 0↔n=0)∧Below w.heap.size w w') :
  SRun P f xs h fun r q=>∃o:Option Nat,r=(match o with|none=>.slice none 0 0|some A=>gsl A 0 (n*sz) n sz)∧(o=none↔n=0)∧q=(match o with|none=>h|some A=>(A,⟨cs,false⟩)::h):=by
 unfold SRun
 intro H i
 unfold Run
 intro B0 w0 φs Ls φ w vs he hr hvs
 rw[vrel_det hc hvs]
 refine(k w).mono ?_
 rintro e w' ⟨v,rfl,hrow,hnil,hb⟩
 rcases hrow.2 with⟨rfl,h0⟩|⟨g,cap,cur,rfl,hg,hgg,hle,hcap,hcs2,htk⟩
 ·exact⟨φ,.slice none 0 0,H,.slice none 0 0,he,hr.later hb,rfl,.snil,h,⟨none,rfl,⟨fun _=>h0,fun _=>rfl⟩,rfl⟩,i⟩
 ·have hn0:n≠0:=fun g0=>by have:=hnil.2 g0;cases this
  have hlen:=hrow.1
  have hcur:cs.length≤cur.size:=by
   rw[hlen,hcs2]
   exact Nat.mul_le_mul_right _ hle
  have hcell:∀(j:Nat) (u:Value),cs[j]?=some u→cur[j]?=some u:=by
   intro j u hj
   rw[←htk,List.getElem?_take]at hj
   split at hj
   ·simpa using hj
   ·cases hj
  obtain⟨x1,x2⟩:=rel_row hr hb (Place.app H ⟨cs,false⟩) (l0:=⟨g,0,cur.size,false⟩) hg rfl (fun _=>⟨⟨_,cur,hgg,.cells rfl rfl (fun _ j hj=>by omega),by show 0+cs.length≤cur.size;omega,fun j u hj=>⟨u,by show cur[0+j]?=_;rw[Nat.zero_add];exact hcell j u hj,Val.const ((List.all_eq_true.1 hcs) u (List.mem_of_getElem? hj))⟩⟩⟩)
  refine⟨_,gsl H.length 0 (n*sz) n sz,_,.slice (some ⟨g,0,none⟩) n cap,he.trans x1,x2,rfl,?_,(H.length,⟨cs,false⟩)::h,⟨some H.length,rfl,⟨fun g0=>(by cases g0),fun g0=>absurd g0 hn0⟩,rfl⟩,i.new _⟩
  refine .slc H.length 0 (n*sz) (n*sz) n sz cap _ (by rw[lens_app_eq,hlen]) (Nat.le_refl _) hle hcap (fun _=>?_)
  rw[yK]
  exact⟨rfl,fun _=>by show 0+0+cap*sz≤cur.size;rw[hcs2];omega,rfl⟩
end Go.Gh
end
section
set_option maxRecDepth 4000
namespace Go.Proofs.YteddogfolceahaaGreat
open Go.Gh Go.RowKit

theorem wrp_len {k:Int}{c:List UInt8}(h:(wrp k c).2=0):(0≤k∧k≤15)∧c.length≤4096∧7≤(wrp k c).1.length∧(wrp k c).1.length≤4120:=by
 unfold wrp at h ⊢
 split at h
 ·exact absurd h (by decide)
 ·split at h
  ·exact absurd h (by decide)
  ·rename_i h1 h2
   rw[if_neg h1,if_neg h2]
   have hf:∀(k:Int) (b:List UInt8),b.length≤4096→7≤(sl (frm k b)).length∧(sl (frm k b)).length≤4120:=fun k b hb=>by
    have hs1:=vnum_len (n:=(b.length:Int)) (by omega)
    have hs2:=(vk_ok (n:=(b.length:Int)) (by omega)).2
    unfold sl frm
    rw[List.length_append,List.length_append,List.length_append,le4_len,hd2_len]
    omega
   refine⟨by omega,by omega,?_⟩
   show 7≤(if(lzE c).1.length<c.length then sl (frm (k+16) (lzE c).1)else sl (frm k c)).length∧(if(lzE c).1.length<c.length then sl (frm (k+16) (lzE c).1)else sl (frm k c)).length≤4120
   split
   ·exact hf _ _ (by omega)
   ·exact hf _ _ (by omega)
theorem prs_ok {d:List UInt8}{k:Int}{c:List UInt8}{n:Nat}{s:Bool}(h:prs d=some (k,c,n,s)):wrp k c=(d.take n,0)∧n≤d.length∧7≤n∧bat d 0=165∧s=decide (16≤bat d 1):=by
 unfold prs at h
 split at h
 ·cases h
 ·rename_i h1
  split at h
  ·cases h
  ·rename_i b r hx
   split at h
   ·cases h
   ·split at h
    ·cases h
    ·split at h
     ·cases h
     ·rename_i h2 h3 _ c' hb
      split at h
      ·rename_i hw
       cases h
       have hl:=wrp_len (k:=bat d 1%16) (c:=c) (by rw[hw])
       rw[hw]at hl
       dsimp only at hl
       rw[List.length_take]at hl
       exact⟨hw,by omega,by omega,by omega,rfl⟩
      ·cases h
theorem prs_room {d:List UInt8}(at_:Nat)(k:Int)(c:List UInt8)(n:Nat)(s:Bool)(h:prs (d.drop at_)=some (k,c,n,s)):1≤n∧at_+n≤d.length:=by
 obtain⟨_,h1,h2,_⟩:=prs_ok h
 rw[List.length_drop]at h1
 omega
theorem fdC_const (l:List Fd):(l.flatMap fdC).all yJ=true:=by
 rw[List.all_eq_true]
 intro v hv
 obtain⟨x,_,hx⟩:=List.mem_flatMap.1 hv
 simp only[List.mem_cons,List.not_mem_nil,or_false]at hx
 rcases hx with rfl|rfl|rfl|rfl <;> rfl
theorem recs_flat (l:List Fd):recs fdC l=l.flatMap fdC:=by
 induction l with
 |nil=>rfl
 |cons x r ih=>show fdC x++recs fdC r=_;rw[ih];rfl
theorem Walk_any (d:List UInt8)(h:SH)(hd:d.length≤1000000):SRun Tryz.prog 8 [S d] h fun r q=>Has q (recs fdC (wkL d d.length 0)) 4 (wkL d d.length 0).length r∧Take q h:=by
 have:=srun_row (P:=Tryz.prog) (f:=8) (xs:=[S d]) (E:=35) (sz:=4) (n:=(wkL d d.length 0).length) (cs:=(wkL d d.length 0).flatMap fdC) (h:=h) rfl (fdC_const _) (by decide) (fun w=>by
  refine(callsIn_wide.1 (Walk_in 3 (Nat.le_refl _) d hd prs_room w)).mono ?_
  rintro e w' ⟨v,rfl,h1,h2,h3⟩
  exact⟨v,rfl,h1,h2.trans List.length_eq_zero_iff.symm,h3⟩)
 rw[recs_flat]
 refine this.mono ?_
 rintro r q ⟨o,rfl,h2,rfl⟩
 cases o with
 |none =>
  have h0:=h2.1 rfl
  exact⟨⟨none,0,by rw[h0],fun g=>absurd h0 g⟩,.nil⟩
 |some A =>
  exact⟨⟨_,_,rfl,fun _=>⟨A,false,h,by rw[Nat.mul_comm],.head⟩⟩,.drop .nil⟩

def qn (q:Nat):Nat:=q+(2048-q)/32
def lnC :Nat:=4294967295^64
def Paid (e:Enc)(G:Nat):Prop:=(256^e.out.length)^64*lnC≤e.size.toNat^64*2^G
theorem Paid.mono {e:Enc}{G H:Nat}(h:Paid e G)(g:G≤H):Paid e H :=
 Nat.le_trans h (Nat.mul_le_mul_left _ (Nat.pow_le_pow_right (by decide) g))

def PathQ (t:List Int)(v:Int)(q:Nat):Nat→Nat→Prop
 |0,_=>True
 |k+1,j=>j<t.length∧t[j]! = (if v/2^k%2=0 then(q:Int)else 2048-q)∧PathQ t v q k (2*j+(v/2^k%2).toNat)
theorem set_far {t:List Int}{j i:Nat}{x:Int}(h:j≠i):(t.set j x)[i]! = t[i]!:=by
 rw[List.getElem!_eq_getElem?_getD,List.getElem!_eq_getElem?_getD,List.getElem?_set_ne h]
theorem set_here {t:List Int}{j:Nat}{x:Int}(h:j<t.length):(t.set j x)[j]! = x:=by
 rw[List.getElem!_eq_getElem?_getD,List.getElem?_set_self h];rfl
theorem PathQ.set {t:List Int}{v:Int}{q i:Nat}{x:Int}:∀(k j:Nat),i<j→PathQ t v q k j→PathQ (t.set i x) v q k j
 |0,_,_,_=>trivial
 |k+1,j,hij,h=>⟨by rw[List.length_set];exact h.1,by rw[set_far (by omega)];exact h.2.1,PathQ.set k _ (by omega) h.2.2⟩
theorem tenc_low {v:Int}:∀(k:Nat) {t:List Int} {e:Enc} {j i:Nat},i<j→(tenc v k t e j).1[i]! = t[i]!
 |0,_,_,_,_,_=>rfl
 |k+1,t,e,j,i,h=>by
  have:=tenc_low (v:=v) k (t:=t.set j (adp t[j]! (v/2^k%2))) (e:=ebit e t[j]! (v/2^k%2)) (j:=2*j+(v/2^k%2).toNat) (i:=i) (by omega)
  exact this.trans (set_far (by omega))
theorem tenc_len2 {v:Int}:∀(k:Nat) {t:List Int} {e:Enc} {j:Nat},(tenc v k t e j).1.length=t.length
 |0,_,_,_=>rfl
 |k+1,t,e,j=>(tenc_len2 k (t:=t.set j (adp t[j]! (v/2^k%2)))).trans List.length_set
theorem adp_q {q:Nat}(h:1≤q∧q≤2047)(b:Int)(hb:b=0∨b=1):adp (if b=0 then(q:Int)else 2048-q) b=if b=0 then(qn q:Int)else 2048-qn q:=by
 unfold adp qn
 rcases hb with rfl|rfl
 ·rw[if_pos rfl,if_pos rfl,if_pos rfl]
  have:clp (q:Int)=q:=by unfold clp;omega
  rw[this];omega
 ·rw[if_neg (by decide),if_neg (by decide),if_neg (by decide)]
  have:clp (2048-(q:Int))=2048-q:=by unfold clp;omega
  rw[this];omega
theorem PathQ.next {v:Int}{q:Nat}(hq:1≤q∧q≤2047):∀(k:Nat) {t:List Int} {e:Enc} {j:Nat},1≤j→PathQ t v q k j→PathQ (tenc v k t e j).1 v (qn q) k j
 |0,_,_,_,_,_=>trivial
 |k+1,t,e,j,hj,h=>by
  obtain⟨h1,h2,h3⟩:=h
  have hb:=bit01 v k
  show PathQ (tenc v k (t.set j (adp t[j]! (v/2^k%2))) (ebit e t[j]! (v/2^k%2)) (2*j+(v/2^k%2).toNat)).1 v (qn q) (k+1) j
  refine⟨by rw[tenc_len2,List.length_set];exact h1,?_,?_⟩
  ·rw[tenc_low k (by omega),set_here h1,h2]
   exact adp_q hq _ hb
  ·exact PathQ.next hq k (by omega) (PathQ.set k _ (by omega) h3)

def InT (lo:Nat)(t:List Int):Prop:=∀i,i<t.length→(lo:Int)≤t[i]!∧t[i]!≤2048-lo
theorem InT.le {lo lo':Nat}{t:List Int}(h:InT lo t)(hl:lo'≤lo):InT lo' t:=fun i hi=>by have:=h i hi;omega
end Go.Proofs.YteddogfolceahaaGreat
end
section
namespace Go.Proofs
open Go.Shelf
def Tryz.lays105_ren :Go.Shelf.Ren:=⟨fun|105=>168|212=>188|99=>189|165=>190|166=>191|170=>192|169=>193|263=>225|264=>226|206=>227|240=>228|241=>229|276=>233|277=>234|n=>n,fun|9=>9|3=>3|4=>4|20=>20|0=>0|46=>125|109=>261|5=>5|72=>266|76=>270|51=>24|146=>283|53=>178|148=>285|70=>264|37=>37|75=>269|127=>287|164=>292|80=>103|n=>n,fun|n=>n⟩
theorem Tryz.lays105 :Go.Proofs.Lays.n105 Tryz.prog Tryz.lays105_ren:={
 mixed:=by kernel_rfl
 f99:=Tryz.func189.trans (congrArg some (by kernel_rfl))
 f105:=Tryz.func168.trans (congrArg some (by kernel_rfl))
 f165:=Tryz.func190.trans (congrArg some (by kernel_rfl))
 f166:=Tryz.func191.trans (congrArg some (by kernel_rfl))
 f169:=Tryz.func193.trans (congrArg some (by kernel_rfl))
 f170:=Tryz.func192.trans (congrArg some (by kernel_rfl))
 f206:=Tryz.func227.trans (congrArg some (by kernel_rfl))
 f212:=Tryz.func188.trans (congrArg some (by kernel_rfl))
 f240:=Tryz.func228.trans (congrArg some (by kernel_rfl))
 f241:=Tryz.func229.trans (congrArg some (by kernel_rfl))
 f263:=Tryz.func225.trans (congrArg some (by kernel_rfl))
 f264:=Tryz.func226.trans (congrArg some (by kernel_rfl))
 f276:=Tryz.func233.trans (congrArg some (by kernel_rfl))
 f277:=Tryz.func234.trans (congrArg some (by kernel_rfl))
 t0:=Tryz.underlying0
 a0:=Tryz.isAgg0
 z0:=Tryz.sizeOf0
 v0:=Tryz.zeroValue0
 t3:=Tryz.underlying3
 a3:=Tryz.isAgg3
 z3:=Tryz.sizeOf3
 v3:=Tryz.zeroValue3
 t4:=Tryz.underlying4
 a4:=Tryz.isAgg4
 z4:=Tryz.sizeOf4
 v4:=Tryz.zeroValue4
 t5:=Tryz.underlying5
 a5:=Tryz.isAgg5
 z5:=Tryz.sizeOf5
 v5:=Tryz.zeroValue5
 t9:=Tryz.underlying9
 a9:=Tryz.isAgg9
 z9:=Tryz.sizeOf9
 v9:=Tryz.zeroValue9
 t20:=Tryz.underlying20
 a20:=Tryz.isAgg20
 z20:=Tryz.sizeOf20
 v20:=Tryz.zeroValue20
 t37:=Tryz.underlying37
 a37:=Tryz.isAgg37
 z37:=Tryz.sizeOf37
 v37:=Tryz.zeroValue37
 t46:=Tryz.underlying125
 a46:=Tryz.isAgg125
 z46:=Tryz.sizeOf125
 v46:=Tryz.zeroValue125
 t51:=Tryz.underlying24
 a51:=Tryz.isAgg24
 z51:=Tryz.sizeOf24
 v51:=Tryz.zeroValue24
 t53:=Tryz.underlying178
 a53:=Tryz.isAgg178
 z53:=Tryz.sizeOf178
 v53:=Tryz.zeroValue178
 t70:=Tryz.underlying264
 a70:=Tryz.isAgg264
 z70:=Tryz.sizeOf264
 v70:=Tryz.zeroValue264
 t72:=Tryz.underlying266
 a72:=Tryz.isAgg266
 z72:=Tryz.sizeOf266
 v72:=Tryz.zeroValue266
 t75:=Tryz.underlying269
 a75:=Tryz.isAgg269
 z75:=Tryz.sizeOf269
 v75:=Tryz.zeroValue269
 t76:=Tryz.underlying270
 a76:=Tryz.isAgg270
 z76:=Tryz.sizeOf270
 v76:=Tryz.zeroValue270
 t109:=Tryz.underlying261
 a109:=Tryz.isAgg261
 z109:=Tryz.sizeOf261
 v109:=Tryz.zeroValue261
 t127:=Tryz.underlying287
 a127:=Tryz.isAgg287
 z127:=Tryz.sizeOf287
 v127:=Tryz.zeroValue287
 t146:=Tryz.underlying283
 a146:=Tryz.isAgg283
 z146:=Tryz.sizeOf283
 v146:=Tryz.zeroValue283
 t148:=Tryz.underlying285
 a148:=Tryz.isAgg285
 z148:=Tryz.sizeOf285
 v148:=Tryz.zeroValue285
 t164:=Tryz.underlying292
 a164:=Tryz.isAgg292
 z164:=Tryz.sizeOf292
 v164:=Tryz.zeroValue292 }
theorem Tryz.Builder_Extra_105 :Builder.Extra Tryz.prog Tryz.lays105_ren:={
 sizeBuilder:=by kernel_rfl
 liesBuilder:=by kernel_rfl
 t5:=Tryz.underlying5
 a5:=Tryz.isAgg5
 z5:=Tryz.sizeOf5
 v5:=Tryz.zeroValue5
 infoByte:=by kernel_rfl
 cellsByte:=by kernel_rfl
 sizeByte:=by kernel_rfl
 neB5:=by decide }
open Go.RowKit Go.Lib in
theorem Tryz.strings_Repeat (s:ByteArray)(c:Nat)(w:World)(hc:c≤9223372036854775807)(hlen:s.size*c≤140737488355328) :
  Calls Tryz.prog 168 #[.string s,.int .i64 c] w fun e w'=>e=.returned (.string ⟨(Lib.repeatL s.data.toList c).toArray⟩)∧Below w.heap.size w w':=Any.strings_Repeat Tryz.lays105 Tryz.Builder_Extra_105 s c w hc hlen
end Go.Proofs
end
section
set_option maxRecDepth 4000
namespace Go.Proofs.YteddogfolceahaaGreat
open Go.Gh Go.RowKit

theorem Repeat_any (l:List UInt8)(n:Nat)(h:SH)(hn:n≤9223372036854775807)(hl:l.length*n≤140737488355328):SRun Tryz.prog 168 [S l,I n] h fun r q=>r=S (Lib.repeatL l n)∧q=h :=
 srun_lib rfl rfl fun w=>Tryz.strings_Repeat ⟨⟨l⟩⟩ n w hn hl

theorem txt_front {b r:List UInt8}(hb:b.length≤4096):txt (vnum b.length++b++r)=some (b,r):=by
 unfold txt
 rw[List.append_assoc,rdN_num (by omega) (by omega)]
 dsimp only
 rw[if_pos ⟨rfl,by rw[List.length_append];omega⟩,Int.toNat_natCast,List.take_append_of_le_length (Nat.le_refl _),List.take_length,List.drop_append_of_le_length (Nat.le_refl _),List.drop_length,List.nil_append]
theorem frm_at (k:Int)(hk:0≤k∧k≤255)(b r:List UInt8):bat (frm k b++r) 0=165∧bat (frm k b++r) 1=k∧(frm k b++r).drop 2=vnum b.length++b++r:=by
 refine⟨b8_val (by decide),b8_val (by omega),?_⟩
 show(vnum b.length++b)++r=_
 rfl
theorem prs_frm {k k':Int}{b c:List UInt8}(r:List UInt8)(hk':0≤k'∧k'≤31)(hb:b.length≤4096)(hc:(16≤k'∧lzD b 4096=(c,0))∨(k'≤15∧c=b))(hk:k=k'%16) :
  prs (sl (frm k' b)++r)=if wrp k c=(sl (frm k' b),0)then some (k,c,(sl (frm k' b)).length,decide (16≤k'))else none:=by
 have e0:sl (frm k' b)++r=frm k' b++(le4 (crcV (frm k' b))++r):=by unfold sl;rw[List.append_assoc]
 obtain⟨a1,a2,a3⟩:=frm_at k' (by omega) b (le4 (crcV (frm k' b))++r)
 rw[←e0]at a1 a2 a3
 have hlen:(sl (frm k' b)++r).length=(sl (frm k' b)).length+r.length:=List.length_append
 have h4:(le4 (crcV (frm k' b))++r).length=4+r.length:=by rw[List.length_append,le4_len]
 have hl7:4≤(sl (frm k' b)).length:=by unfold sl;rw[List.length_append,le4_len];omega
 have hsz:(sl (frm k' b)++r).length-((le4 (crcV (frm k' b))++r).length-4)=(sl (frm k' b)).length:=by omega
 have htk:(sl (frm k' b)++r).take (sl (frm k' b)).length=sl (frm k' b):=by rw[List.take_append_of_le_length (Nat.le_refl _),List.take_length]
 have hx:txt ((sl (frm k' b)++r).drop 2)=some (b,le4 (crcV (frm k' b))++r):=by rw[a3];exact txt_front hb
 have hop:(opn (sl (frm k' b))).2=0:=by unfold sl;rw[opn_seal]
 unfold prs
 rw[a1,a2,if_neg (by omega),hx]
 dsimp only
 rw[if_neg (by omega),hsz,htk,if_neg (by rw[hop];exact fun g=>g rfl)]
 unfold bdy
 rw[a2]
 rcases hc with⟨g1,g2⟩|⟨g1,rfl⟩
 ·rw[if_pos g1,g2,if_pos rfl,←hk]
 ·rw[if_neg (by omega),←hk]
theorem lzD_most {c:List UInt8}(hl:c.length≤4096)(h0:c≠[]):lzD (lzE c).1 4096=(c,0):=by
 have h1:=lzE_ne hl h0
 rw[h1]
 show lzD (wrt c.length (pcs c)) 4096=_
 rw[(lzD_wrt hl (by omega) (pcs_cov hl) 4096).1,if_neg (by omega),if_pos h1]
theorem prs_wrp {k:Int}{c:List UInt8}(h:(wrp k c).2=0)(r:List UInt8):prs ((wrp k c).1++r)=some (k,c,(wrp k c).1.length,decide ((lzE c).1.length<c.length)):=by
 obtain⟨h1,h2,_⟩:=wrp_len h
 have hw:wrp k c=((if(lzE c).1.length<c.length then sl (frm (k+16) (lzE c).1)else sl (frm k c)),0):=by unfold wrp;rw[if_neg (by omega),if_neg (by omega)]
 by_cases hs:(lzE c).1.length<c.length
 ·rw[if_pos hs]at hw
  rw[hw]
  dsimp only
  rw[prs_frm (k:=k) (c:=c) r (by omega) (by omega) (.inl ⟨by omega,lzD_most h2 (fun g=>by rw[g]at hs;cases hs)⟩) (by omega),if_pos hw,decide_eq_true hs,decide_eq_true (by omega)]
 ·rw[if_neg hs]at hw
  rw[hw]
  dsimp only
  rw[prs_frm (k:=k) (c:=c) r (by omega) (by omega) (.inr ⟨by omega,rfl⟩) (by omega),if_pos hw,decide_eq_false hs,decide_eq_false (by omega)]
theorem wkL_some {d:List UInt8}{f at_ n:Nat}{k:Int}{c:List UInt8}{s:Bool}(h:at_<d.length)(hp:prs (d.drop at_)=some (k,c,n,s)):wkL d (f+1) at_=(at_,n,k,c)::wkL d f (at_+n):=by
 show(if at_<d.length then _ else _)=_
 rw[if_pos h,hp]
theorem wkL_end {d:List UInt8}{f at_:Nat}(h:¬at_<d.length):wkL d f at_=[]:=by
 cases f with
 |zero=>rfl
 |succ f=>exact if_neg h

abbrev Fr1 :Type:=Int × List UInt8
abbrev frC (x:Fr1):List Value:=[I x.1,S x.2]
def encF :List Fr1→List UInt8→List UInt8 × Int
 |[],o=>(o,0)
 |x::r,o=>if(wrp x.1 x.2).2≠0 then([],(wrp x.1 x.2).2)else encF r (o++(wrp x.1 x.2).1)
def decF :Nat→List UInt8→List Fr1→Option (List Fr1)
 |0,_,o=>some o
 |f+1,d,o=>if d=[] then some o else match prs d with
  |none=>none
  |some (k,c,n,_)=>decF f (d.drop n) (o++[(k,c)])
theorem wrp_1 (k:Int)(c:List UInt8):(wrp k c).1.length≤4120:=by
 by_cases h:(wrp k c).2=0
 ·exact(wrp_len h).2.2.2
 ·unfold wrp at h ⊢
  split
  ·exact Nat.zero_le _
  ·split
   ·exact Nat.zero_le _
   ·rename_i h1 h2
    rw[if_neg h1,if_neg h2]at h
    exact absurd rfl h
theorem drop_bangF {α:Type}[Inhabited α]{l:List α}{i:Nat}(h:i<l.length):l.drop i=l[i]!::l.drop (i+1):=by
 rw[getElem!_pos l i h];exact List.drop_eq_getElem_cons h
theorem frC_len (l:List Fr1):(recs frC l).length=2*l.length:=by
 induction l with
 |nil=>rfl
 |cons x r ih=>show(frC x++recs frC r).length=2*(r.length+1);rw[List.length_append,ih];show 2+_=_;omega
theorem EncodeF_any (l:List Fr1)(v:Value)(h:SH)(hv:Has h (recs frC l) 2 l.length v)(hl:l.length≤1000)(hc:∀x∈l,x.2.length≤9223372036854775807) :
  SRun Tryz.prog 7 [v] h fun r q=>r=.tuple #[S (encF l []).1,I (encF l []).2]∧q=h:=by
 obtain⟨ad,fl,rfl,hh⟩:=hv
 have hlb:=frC_len l
 obtain⟨R,hR⟩:∃R,encF l []=R:=⟨_,rfl⟩
 rw[hR]
 refine zR Tryz.func7 rfl rfl ?_
 repeat'(first|apply zF|apply zB|apply zE|(apply o_g zC;exact rfl;exact rfl)|apply zA|apply zH|((with_reducible apply Sd.mk);first|exact True.intro))
 refine zZ (S:=Nat × List UInt8) (fun s=>[(4,S s.2),(9,.slice ad l.length fl),(10,I l.length),(11,I s.1)]) (fun _=>h) (fun s=>s.1≤l.length∧s.2.length≤4120*s.1∧encF (l.drop s.1) s.2=R) (fun s=>l.length-s.1)
  (0,[]) ⟨Nat.zero_le _,Nat.zero_le _,hR⟩ (by repeat'(first|exact trivial|refine⟨rfl,?_⟩|refine⟨congrArg some ?_,?_⟩)) (by repeat with_reducible first|exact Take.nil|apply Take.c|apply Take.drop) ?_
 rintro⟨i,o⟩ ⟨hi,ho,he⟩
 dsimp only at hi ho he ⊢
 by_cases hil:i<l.length
 ·obtain⟨A',ro,h1,rfl,hp⟩:=hh (by omega)
  have hx:=hc _ (bang_mem hil)
  rw[drop_bangF hil]at he
  generalize hz:l[i]! = z at he hx
  have hW:=fun h=>Wrap_any l[i]!.1 l[i]!.2 h (by rw[hz];exact hx)
  rw[hz]at hW
  have hwl:=wrp_1 z.1 z.2
  have he:(if(wrp z.1 z.2).2≠0 then([],(wrp z.1 z.2).2)else encF (l.drop (i+1)) (o++(wrp z.1 z.2).1))=R:=he
  generalize wrp z.1 z.2=T at *
  obtain⟨t,e⟩:=T
  dsimp only at he hW hwl
  have hW:∀h,SRun Tryz.prog 26 [.agg ⟨frC l[i]!⟩] h fun r q=>r=.tuple #[S t,I e]∧q=h:=fun h=>by rw[hz];exact hW h
  by_cases h0:e=0
  ·subst h0
   rw[if_neg (fun k=>k rfl)]at he
   repeat'(first|apply zF|apply zB|apply zE|(apply o_g zC;exact rfl;exact rfl)|(apply o_ar zC;exact rfl;exact rfl)|(apply yQ zC;(iterate 3 exact rfl);(focus exact pk))|(apply yE zC;(iterate 4 exact rfl);(focus exact⟨rfl⟩);(focus exact up))|(apply yG zC;iterate 5 exact rfl)|(apply zD;exact rfl;exact rfl;(focus first|exact rfl);exact rfl;(focus exact⟨_,hW _,by repeat with_reducible exact Take.nil⟩);rintro _ _ ⟨rfl,rfl⟩)|(apply zS;exact rfl)|(apply yC;exact rfl;(focus first|omega))|apply zA|apply zG|apply zI|apply zH|((with_reducible apply Sd.mk);first|exact True.intro|omega)|((with_reducible apply Ln.mk);first|rfl|omega)|((with_reducible apply Wr.mk);first|exact IntWalk.i64_in _ (by omega))|((with_reducible apply Pu.mk);first|exact yA rfl)|((with_reducible apply Su.mk);first|exact zQ|exact subAt_recZ (fun _=>rfl) (by omega))|exact True.intro|intro A|exact rfl)
   all_goals first
    |(exfalso;omega)
    |contradiction
    |exact⟨(i+1,o++t),⟨hil,by show(o++t).length≤_;rw[List.length_append];omega,he⟩,by show l.length-(i+1)<l.length-i;omega,(by repeat'(first|exact trivial|refine⟨rfl,?_⟩|refine⟨congrArg some ?_,?_⟩)),(by repeat with_reducible first|exact Take.nil|apply Take.c|apply Take.drop)⟩
  ·rw[if_pos h0]at he
   subst he
   repeat'(first|apply zF|apply zB|apply zE|(apply o_g zC;exact rfl;exact rfl)|(apply yQ zC;(iterate 3 exact rfl);(focus exact pk))|(apply yE zC;(iterate 4 exact rfl);(focus exact⟨rfl⟩);(focus exact up))|(apply yG zC;iterate 5 exact rfl)|(apply zD;exact rfl;exact rfl;(focus first|exact rfl);exact rfl;(focus exact⟨_,hW _,by repeat with_reducible exact Take.nil⟩);rintro _ _ ⟨rfl,rfl⟩)|(apply yC;exact rfl;(focus first|omega))|apply zA|apply zP|apply yP|apply zI|apply zN|apply zH|((with_reducible apply Sd.mk);first|exact True.intro|omega)|((with_reducible apply Ln.mk);first|rfl|omega)|((with_reducible apply Pu.mk);first|exact yA rfl)|((with_reducible apply Su.mk);first|exact zQ|exact subAt_recZ (fun _=>rfl) (by omega))|exact True.intro|intro A|exact rfl)
   all_goals first
    |(exfalso;omega)
    |contradiction
    |(apply zL;(exact(show ResS _ _ _ _ [_,_] from⟨rfl,⟨rfl,trivial⟩⟩));(focus exact⟨rfl,rfl⟩);(focus repeat with_reducible first|exact Take.nil|apply Take.c|apply Take.drop))
 ·obtain rfl:i=l.length:=by omega
  rw[List.drop_length]at he
  have he:(o,0)=R:=he
  subst he
  repeat'(first|apply zF|apply zB|apply zE|(apply o_g zC;exact rfl;exact rfl)|(apply yD;exact rfl;(focus first|omega))|apply zA|apply zK|apply zJ|apply zN|apply zV|((with_reducible apply Sd.mk);first|exact True.intro))
  all_goals first
   |(exfalso;omega)
   |(apply zL;(exact(show ResS _ _ _ _ [_,_] from⟨rfl,⟨rfl,trivial⟩⟩));(focus exact⟨rfl,rfl⟩);(focus repeat with_reducible first|exact Take.nil|apply Take.c|apply Take.drop))
inductive FrO (h:SH):List Fr1→Value→SH→Prop
 |nil:FrO h [] (.slice none 0 0) h
 |some (A:Nat) (l:List Fr1):FrO h l (gsl A 0 (2*l.length) l.length 2) ((A,⟨recs frC l,false⟩)::h)
theorem FrO.has {h q:SH}{l:List Fr1}{v:Value}(g:FrO h l v q):Has q (recs frC l) 2 l.length v∧Take q h:=by
 cases g with
 |nil=>exact⟨⟨none,0,rfl,fun k=>absurd rfl k⟩,.nil⟩
 |some A l=>exact⟨⟨_,_,rfl,fun _=>⟨A,false,h,rfl,.head⟩⟩,.drop .nil⟩
theorem DecodeF_any (d:List UInt8)(h:SH)(hl:d.length≤1000000):SRun Tryz.prog 11 [S d] h fun r q =>
  match decF d.length d []with
  |none=>r=.tuple #[.slice none 0 0,I 12]∧q=h
  |some l=>∃v,r=.tuple #[v,I 0]∧Has q (recs frC l) 2 l.length v∧Take q h:=by
 obtain⟨R,hR⟩:∃R,decF d.length d []=R:=⟨_,rfl⟩
 rw[hR]
 refine zR Tryz.func11 rfl rfl ?_
 repeat'(first|apply zF|apply zB|apply zE|(apply o_g zC;exact rfl;exact rfl)|apply zA|apply zH|((with_reducible apply Sd.mk);first|exact True.intro))
 refine zZ (S:=Nat × List UInt8 × List Fr1 × Value × SH) (fun s=>[(0,S s.2.1),(4,s.2.2.2.1)]) (fun s=>s.2.2.2.2) (fun s=>s.2.1.length≤s.1∧s.2.1.length≤1000000∧s.2.2.1.length+s.2.1.length≤1000000∧FrO h s.2.2.1 s.2.2.2.1 s.2.2.2.2∧decF s.1 s.2.1 s.2.2.1=R) (fun s=>s.1)
  (d.length,d,[],.slice none 0 0,h) ⟨Nat.le_refl _,hl,by show 0+d.length≤_;omega,.nil,hR⟩ (by repeat'(first|exact trivial|refine⟨rfl,?_⟩|refine⟨congrArg some ?_,?_⟩)) (by repeat with_reducible first|exact Take.nil|apply Take.c|apply Take.drop) ?_
 rintro⟨f,d,l,v,q⟩ ⟨hf,hd,hs,hg,he⟩
 dsimp only at hf hd hs hg he ⊢
 by_cases h0:d=[]
 ·subst h0
  have he:some l=R:=by
   cases f with
   |zero=>exact he
   |succ f=>exact he
  subst he
  repeat'(first|apply zF|apply zB|apply zE|(apply o_g zC;exact rfl;exact rfl)|(apply zS;exact rfl)|apply zA|apply zK|apply zJ|apply zN|apply zV|((with_reducible apply Sd.mk);first|exact True.intro))
  all_goals first
   |contradiction
   |(apply zL;(exact(show ResS _ _ _ _ [_,_] from⟨rfl,⟨rfl,trivial⟩⟩));(focus exact⟨v,rfl,hg.has⟩);(focus repeat with_reducible first|exact Take.nil|apply Take.c|apply Take.drop))
 ·obtain⟨f,rfl⟩:∃f',f=f'+1:=⟨f-1,by have:=List.length_pos_iff.2 h0;omega⟩
  have hU:=fun h=>Unwrap_any d h hd
  have he:(match prs d with
   |none=>none
   |some (k,c,n,_)=>decF f (d.drop n) (l++[(k,c)]))=R:=by
   rw[←he]
   exact(if_neg h0).symm
  cases hp:prs d with
  |none =>
   rw[hp]at hU he
   dsimp only at he
   subst he
   have hU:∀h,SRun Tryz.prog 10 [S d] h fun r q=>r=.tuple ⟨[frV 0 [],I 0,I 12]⟩∧q=h:=hU
   repeat'(first|apply zF|apply zB|apply zE|(apply o_g zC;exact rfl;exact rfl)|(apply yE zC;(iterate 4 exact rfl);(focus exact⟨rfl⟩);(focus exact up))|(apply yG zC;iterate 5 exact rfl)|(apply zD;exact rfl;exact rfl;(focus first|exact rfl);exact rfl;(focus exact⟨_,hU _,by repeat with_reducible exact Take.nil⟩);rintro _ _ ⟨rfl,rfl⟩)|(apply yB;exact rfl)|(apply yC;exact rfl;(focus first|omega))|apply zA|apply zP|apply yP|apply zI|apply zN|apply zH|((with_reducible apply Sd.mk);first|exact True.intro)|((with_reducible apply Ln.mk);first|rfl)|((with_reducible apply Pu.mk);first|exact yA rfl)|exact True.intro|intro A)
   all_goals first
    |contradiction
    |(apply zL;(exact(show ResS _ _ _ _ [_,_] from⟨rfl,⟨rfl,trivial⟩⟩));(focus exact⟨rfl,rfl⟩);(focus repeat with_reducible first|exact Take.nil|apply Take.c|apply Take.drop))
   all_goals exact hg.has.2
  |some V =>
   obtain⟨k,c,n,s⟩:=V
   obtain⟨_,p1,p2,_⟩:=prs_ok hp
   rw[hp]at hU he
   dsimp only at he
   have hU:∀h,SRun Tryz.prog 10 [S d] h fun r q=>r=.tuple ⟨[frV k c,I n,I 0]⟩∧q=h:=hU
   have hdl:(d.drop n).length=d.length-n:=List.length_drop
   cases hg with
   |nil =>
    repeat'(first|apply zF|apply zB|apply zE|(apply o_g zC;exact rfl;exact rfl)|(apply yQ zC;(iterate 3 exact rfl);(focus exact pk))|(apply yE zC;(iterate 4 exact rfl);(focus exact⟨rfl⟩);(focus exact up))|(apply yG zC;iterate 5 exact rfl)|(apply zT zC;(iterate 5 exact rfl);(focus decide);exact rfl;(focus decide);(focus repeat(first|exact CatR.last rfl));exact rfl)|(apply o_append_nil zC;(iterate 5 exact rfl);(focus exact⟨by decide⟩);(focus exact pk))|(apply zD;exact rfl;exact rfl;(focus first|exact rfl);exact rfl;(focus exact⟨_,hU _,by repeat with_reducible exact Take.nil⟩);rintro _ _ ⟨rfl,rfl⟩)|(apply zS;exact rfl)|(apply yC;exact rfl;(focus first|omega))|apply zA|apply zG|apply zI|apply zH|((with_reducible apply Sd.mk);first|exact True.intro|omega|(constructor <;> first|omega|(unfold maxLen;omega)))|((with_reducible apply Ln.mk);first|rfl)|((with_reducible apply Pu.mk);first|exact yA rfl)|((with_reducible apply Su.mk);first|exact zQ)|exact True.intro|intro A|exact rfl)
    all_goals first
     |contradiction
     |(exfalso;omega)
     |skip
    rename_i q0 a1 a2
    exact⟨(f,d.drop n,[(k,c)],gsl A 0 2 1 2,(A,⟨recs frC [(k,c)],false⟩)::q0),⟨by show(d.drop n).length≤f;omega,by show(d.drop n).length≤_;omega,by show 1+(d.drop n).length≤_;omega,.some A [(k,c)],he⟩,by show f<f+1;omega,(by repeat'(first|exact trivial|refine⟨rfl,?_⟩|refine⟨congrArg some ?_,?_⟩)),(by repeat(first|with_reducible exact Take.nil|with_reducible apply Take.c|((with_reducible apply Take.cE);first|exact rfl|(apply blkE;(focus first|exact rfl|exact yI rfl|exact yO rfl|exact congrArg (fun v=>[v]) (gslE rfl rfl (by first|rfl|exact ‹_›|omega|(simp ;first|done|omega)) (by first|rfl|exact ‹_›|omega|(simp ;first|done|omega)) rfl))))|with_reducible apply Take.drop))⟩
   |some A0 l =>
    have hlb:=frC_len l
    repeat'(first|apply zF|apply zB|apply zE|(apply o_g zC;exact rfl;exact rfl)|(apply yQ zC;(iterate 3 exact rfl);(focus exact pk))|(apply yE zC;(iterate 4 exact rfl);(focus exact⟨rfl⟩);(focus exact up))|(apply yG zC;iterate 5 exact rfl)|(apply zT zC;(iterate 5 exact rfl);(focus decide);exact rfl;(focus decide);(focus repeat(first|exact CatR.last rfl));exact rfl)|(apply o_append zC;(iterate 5 exact rfl);(focus exact⟨by decide⟩);(focus exact up);(focus exact pk))|(apply zD;exact rfl;exact rfl;(focus first|exact rfl);exact rfl;(focus exact⟨_,hU _,by repeat with_reducible exact Take.nil⟩);rintro _ _ ⟨rfl,rfl⟩)|(apply zS;exact rfl)|(apply yC;exact rfl;(focus first|omega))|apply zA|apply zG|apply zI|apply zH|((with_reducible apply Sd.mk);first|exact True.intro|omega|(constructor <;> first|omega|(unfold maxLen;omega)))|((with_reducible apply Ln.mk);first|rfl|omega)|((with_reducible apply Pu.mk);first|exact yA rfl)|((with_reducible apply Su.mk);first|exact zQ)|exact True.intro|intro A|exact rfl)
    all_goals first
     |contradiction
     |(exfalso;omega)
     |skip
    exact⟨(f,d.drop n,l++[(k,c)],gsl A0 0 (2*(l++[(k,c)]).length) (l++[(k,c)]).length 2,(A0,⟨recs frC (l++[(k,c)]),false⟩)::h),⟨by show(d.drop n).length≤f;omega,by show(d.drop n).length≤_;omega,by show(l++[(k,c)]).length+(d.drop n).length≤_;rw[List.length_append,List.length_singleton];omega,.some A0 (l++[(k,c)]),he⟩,by show f<f+1;omega,
     ⟨rfl,congrArg some (gslE rfl rfl (by simp;omega) (by simp) rfl),trivial⟩,.consE (by repeat(first|exact .head|apply Pick.tail)) (blkE (yI rfl)) (by repeat(first|exact Take.nil|apply Take.drop))⟩

theorem bw8 (b:BitVec 8):IntKind.u8.wrap (b.toNat:Int)=(b.toNat:Int):=IntWalk.u8_in _ (by have:=b.isLt;omega)
def xbt (b m:Int):Int:=((BitVec.ofInt 8 b^^^BitVec.ofInt 8 m).toNat:Int)
theorem shr256 (c:Int){k:Nat}(hk:k<4):c/2^(min ((8*(k:Int)).toNat) IntKind.u32.bits)=c/256^k:=by
 have:k=0∨k=1∨k=2∨k=3:=by omega
 rcases this with rfl|rfl|rfl|rfl <;> rfl
theorem xbt_in (b m:Int):0≤xbt b m∧xbt b m<256:=by unfold xbt;have:=(BitVec.ofInt 8 b^^^BitVec.ofInt 8 m).isLt;omega
theorem ofInt8 {b:Int}(hb:0≤b∧b<256):((BitVec.ofInt 8 b).toNat:Int)=b:=by rw[BitVec.toNat_ofInt];omega
theorem xbt_eq {b m:Int}(hb:0≤b∧b<256)(hm:0≤m∧m<256):xbt b m=b↔m=0:=by
 have h1:=ofInt8 hb
 have h2:=ofInt8 hm
 constructor
 ·intro h
  have e:BitVec.ofInt 8 b^^^BitVec.ofInt 8 m=BitVec.ofInt 8 b:=by
   apply BitVec.eq_of_toNat_eq
   unfold xbt at h
   omega
  have e2:BitVec.ofInt 8 m=0#8:=by
   have:=congrArg (fun x=>BitVec.ofInt 8 b^^^x) e
   rw[←BitVec.xor_assoc,BitVec.xor_self,BitVec.zero_xor]at this
   exact this
  rw[e2]at h2
  exact h2.symm
 ·rintro rfl
  unfold xbt
  rw[show BitVec.ofInt 8 0=0#8 from rfl,BitVec.xor_zero]
  exact h1
def Dmg (s:List UInt8)(i:Nat)(c:Int)(k:Nat)(t:List UInt8):Prop:=t.length=s.length∧∀j:Nat,j<s.length→bat t (j:Int)=if i≤j∧j<i+k then xbt (bat s (j:Int)) (c/256^(j-i)%256)else bat s (j:Int)
theorem bat_set {l:List UInt8}{i j:Nat}{x:UInt8}(hi:i<l.length):bat (l.set i x) (j:Int)=if j=i then(x.toNat:Int)else bat l (j:Int):=by
 unfold bat
 rw[Int.toNat_natCast,List.getD_eq_getElem?_getD,List.getD_eq_getElem?_getD]
 by_cases h:j=i
 ·subst h
  rw[if_pos rfl,List.getElem?_set_self hi]
  rfl
 ·rw[if_neg h,List.getElem?_set_ne (fun e=>h e.symm)]
theorem Dmg.step {s t:List UInt8}{i k:Nat}{c:Int}(h:Dmg s i c k t)(hi:i+k<s.length):Dmg s i c (k+1) (t.set (i+k) (b8 (xbt (bat s ((i+k:Nat):Int)) (c/256^k%256)))):=by
 refine⟨by rw[List.length_set];exact h.1,fun j hj=>?_⟩
 rw[bat_set (by rw[h.1];exact hi)]
 by_cases e:j=i+k
 ·subst e
  rw[if_pos rfl,if_pos (by omega),b8_val (xbt_in _ _),show i+k-i=k by omega]
 ·rw[if_neg e,h.2 j hj]
  by_cases g:i≤j∧j<i+k
  ·rw[if_pos g,if_pos (by omega)]
  ·rw[if_neg g,if_neg (by omega)]
theorem bat_ext {s t:List UInt8}(hl:t.length=s.length)(h:∀j:Nat,j<s.length→bat t (j:Int)=bat s (j:Int)):t=s:=by
 refine List.ext_getElem hl fun j h1 h2=>?_
 have:=h j h2
 rw[bat_lt h1,bat_lt h2]at this
 exact UInt8.toNat_inj.1 (by omega)
theorem Dmg.zero {s t:List UInt8}{i:Nat}(h:Dmg s i 0 4 t):t=s:=bat_ext h.1 fun j hj=>by
 rw[h.2 j hj]
 split
 ·rw[Int.zero_ediv]
  exact(xbt_eq (by have:=bat_255 s (j:Int);omega) (by decide)).2 rfl
 ·rfl
theorem Dmg.ne {s t:List UInt8}{i:Nat}{c:Int}(h:Dmg s i c 4 t)(hi:i+4≤s.length)(hc:0<c∧c<4294967296):t≠s:=by
 rintro rfl
 have g:∀k:Nat,k<4→c/256^k%256=0:=fun k hk=>by
  have h1:=h.2 (i+k) (by omega)
  rw[if_pos (by omega),show i+k-i=k by omega]at h1
  exact(xbt_eq (by have:=bat_255 t ((i+k:Nat):Int);omega) (by omega)).1 h1.symm
 have g0:=g 0 (by decide)
 have g1:=g 1 (by decide)
 have g2:=g 2 (by decide)
 have g3:=g 3 (by decide)
 have p0:(256:Int)^0=1:=rfl
 have p1:(256:Int)^1=256:=rfl
 have p2:(256:Int)^2=65536:=rfl
 have p3:(256:Int)^3=16777216:=rfl
 rw[p0]at g0
 rw[p1]at g1
 rw[p2]at g2
 rw[p3]at g3
 omega
theorem Dmg.front {s t:List UInt8}{i k:Nat}{c:Int}(h:Dmg s i c k t):t.take i=s.take i:=by
 refine List.ext_getElem (by rw[List.length_take,List.length_take,h.1]) fun j h1 h2=>?_
 rw[List.length_take]at h1 h2
 rw[List.getElem_take,List.getElem_take]
 have:=h.2 j (by omega)
 rw[if_neg (by omega),bat_lt (by omega),bat_lt (by omega)]at this
 exact UInt8.toNat_inj.1 (by omega)

theorem crcB_if (x:BitVec 32):crcB x=(x >>> 1)^^^(if x.getLsbD 0=true then 0xedb88320#32 else 0#32):=by
 have h:x&&&1#32=if x.getLsbD 0=true then 1#32 else 0#32:=by
  apply BitVec.eq_of_getLsbD_eq
  intro i hi
  rw[BitVec.getLsbD_and]
  by_cases h0:i=0
  ·subst h0
   cases x.getLsbD 0 <;> rfl
  ·have h1:(1#32).getLsbD i=false:=by
    rw[BitVec.getLsbD_one]
    simp[h0]
   rw[h1,Bool.and_false]
   split
   ·exact h1.symm
   ·simp
 unfold crcB
 rw[h]
 split <;> rfl
theorem x4 (a b p:BitVec 32):a^^^b=(a^^^p)^^^(b^^^p):=by
 apply BitVec.eq_of_getLsbD_eq
 intro i _
 simp only[BitVec.getLsbD_xor]
 cases a.getLsbD i <;> cases b.getLsbD i <;> cases p.getLsbD i <;> rfl
theorem x3 (a b c:BitVec 32):a^^^b^^^c=a^^^c^^^b:=by
 rw[BitVec.xor_assoc,BitVec.xor_comm b c,←BitVec.xor_assoc]
theorem crcB_xor (x y:BitVec 32):crcB (x^^^y)=crcB x^^^crcB y:=by
 rw[crcB_if,crcB_if x,crcB_if y,BitVec.getLsbD_xor,BitVec.ushiftRight_xor_distrib]
 cases x.getLsbD 0 <;> cases y.getLsbD 0
 ·show x >>> 1^^^y >>> 1^^^0#32=(x >>> 1^^^0#32)^^^(y >>> 1^^^0#32)
  rw[BitVec.xor_zero,BitVec.xor_zero,BitVec.xor_zero]
 ·show x >>> 1^^^y >>> 1^^^0xedb88320#32=(x >>> 1^^^0#32)^^^(y >>> 1^^^0xedb88320#32)
  rw[BitVec.xor_zero,BitVec.xor_assoc]
 ·show x >>> 1^^^y >>> 1^^^0xedb88320#32=(x >>> 1^^^0xedb88320#32)^^^(y >>> 1^^^0#32)
  rw[BitVec.xor_zero,x3]
 ·show x >>> 1^^^y >>> 1^^^0#32=_
  rw[BitVec.xor_zero]
  exact x4 _ _ _
theorem crcN_xor :∀(n:Nat) (x y:BitVec 32),crcN n (x^^^y)=crcN n x^^^crcN n y
 |0,_,_=>rfl
 |n+1,x,y=>by
  show crcN n (crcB (x^^^y))=crcN n (crcB x)^^^crcN n (crcB y)
  rw[crcB_xor,crcN_xor n]
theorem crcN_add :∀(a b:Nat) (x:BitVec 32),crcN (a+b) x=crcN b (crcN a x)
 |0,b,x=>by rw[Nat.zero_add];rfl
 |a+1,b,x=>by
  rw[show a+1+b=(a+b)+1 by omega]
  exact crcN_add a b (crcB x)
theorem crcB_eq0 {z:BitVec 32}(h:crcB z=0#32):z=0#32:=by
 rw[crcB_if]at h
 have h0:z.getLsbD 0=false:=by
  cases hz:z.getLsbD 0
  ·rfl
  ·rw[hz]at h
   have:=congrArg (fun b:BitVec 32=>b.getLsbD 31) h
   simp[BitVec.getLsbD_xor,BitVec.getLsbD_ushiftRight]at this
 rw[h0]at h
 have h:z >>> 1^^^0#32=0#32:=h
 rw[BitVec.xor_zero]at h
 apply BitVec.eq_of_getLsbD_eq
 intro i hi
 cases i with
 |zero=>rw[h0];rfl
 |succ i =>
  have:=congrArg (fun b:BitVec 32=>b.getLsbD i) h
  rw[BitVec.getLsbD_ushiftRight]at this
  rw[Nat.add_comm,this]
  simp
theorem crcN_eq0 :∀{n:Nat} {z:BitVec 32},crcN n z=0#32→z=0#32
 |0,_,h=>h
 |n+1,z,h=>crcB_eq0 (crcN_eq0 (n:=n) (z:=crcB z) h)
theorem crcN_inj {n:Nat}{x y:BitVec 32}(h:crcN n x=crcN n y):x=y:=by
 have:crcN n (x^^^y)=0#32:=by rw[crcN_xor,h,BitVec.xor_self]
 exact BitVec.xor_eq_zero_iff.1 (crcN_eq0 this)
theorem crcB_even {m:Nat}(h:m*2<4294967296):crcB (BitVec.ofNat 32 (m*2))=BitVec.ofNat 32 m:=by
 rw[crcB_if]
 have h0:(BitVec.ofNat 32 (m*2)).getLsbD 0=false:=by
  rw[BitVec.getLsbD_ofNat,Nat.testBit_zero]
  simp
 rw[h0]
 show BitVec.ofNat 32 (m*2) >>> 1^^^0#32=_
 rw[BitVec.xor_zero]
 apply BitVec.eq_of_toNat_eq
 rw[BitVec.toNat_ushiftRight,BitVec.toNat_ofNat,BitVec.toNat_ofNat,Nat.shiftRight_eq_div_pow]
 omega
theorem crcN_shl :∀(n m:Nat),m*2^n<4294967296→crcN n (BitVec.ofNat 32 (m*2^n))=BitVec.ofNat 32 m
 |0,m,_=>by rw[Nat.pow_zero,Nat.mul_one];rfl
 |n+1,m,h=>by
  have e:m*2^(n+1)=m*2^n*2:=by rw[Nat.pow_succ,Nat.mul_assoc]
  show crcN n (crcB _)=_
  rw[e]at h ⊢
  rw[crcB_even h]
  exact crcN_shl n m (by omega)
def crcF :List UInt8→BitVec 32→BitVec 32
 |[],x=>x
 |b::r,x=>crcF r (crcN 8 (x^^^BitVec.ofNat 32 b.toNat))
theorem crcL_F (l:List UInt8):∀(k i:Nat) (x:BitVec 32),i+k=l.length→crcL l k i x=crcF (l.drop i) x
 |0,i,x,h=>by rw[List.drop_of_length_le (by omega)];rfl
 |k+1,i,x,h=>by
  have hi:i<l.length:=by omega
  rw[List.drop_eq_getElem_cons hi]
  show crcL l k (i+1) _=crcF (l.drop (i+1)) _
  rw[crcL_F l k (i+1) _ (by omega),bat_lt hi,BitVec.ofInt_natCast]
theorem crcV_F (l:List UInt8):crcV l = ~~~ crcF l (~~~ 0#32):=by
 unfold crcV
 rw[crcL_F l _ 0 _ (by omega)]
 rfl
theorem crcF_app :∀(a b:List UInt8) (x:BitVec 32),crcF (a++b) x=crcF b (crcF a x)
 |[],_,_=>rfl
 |_::r,b,_=>crcF_app r b _
theorem crcF_xor :∀(l:List UInt8) (x y:BitVec 32),crcF l (x^^^y)=crcF l x^^^crcN (8*l.length) y
 |[],_,_=>rfl
 |b::r,x,y=>by
  show crcF r (crcN 8 (x^^^y^^^_))=crcF r (crcN 8 (x^^^_))^^^crcN (8*(r.length+1)) y
  rw[x3,crcN_xor,crcF_xor r,show 8*(r.length+1)=8+8*r.length by omega,crcN_add]
theorem ofNat_split (v:Nat):BitVec.ofNat 32 v=BitVec.ofNat 32 (v%256)^^^BitVec.ofNat 32 (v/256*256):=by
 apply BitVec.eq_of_getLsbD_eq
 intro i hi
 rw[BitVec.getLsbD_xor,BitVec.getLsbD_ofNat,BitVec.getLsbD_ofNat,BitVec.getLsbD_ofNat,decide_eq_true hi,Bool.true_and,Bool.true_and,Bool.true_and,
  show(256:Nat)=2^8 from rfl,Nat.testBit_mod_two_pow,Nat.testBit_mul_two_pow,Nat.testBit_div_two_pow]
 by_cases h:i<8
 ·rw[decide_eq_true h,decide_eq_false (by omega),Bool.true_and,Bool.false_and,Bool.xor_false]
 ·rw[decide_eq_false h,decide_eq_true (by omega),Bool.false_and,Bool.true_and,Bool.false_xor]
  congr 1
  omega
theorem crc8_split (x:BitVec 32){v:Nat}(h:v<4294967296):crcN 8 (x^^^BitVec.ofNat 32 v)=crcN 8 (x^^^BitVec.ofNat 32 (v%256))^^^BitVec.ofNat 32 (v/256):=by
 rw[ofNat_split v,←BitVec.xor_assoc,crcN_xor 8]
 congr 1
 exact crcN_shl 8 (v/256) (by show _*256<_;omega)
theorem crcF_le4 (w R:BitVec 32):crcF (le4 w) R=crcN 32 (R^^^w):=by
 have hw:=w.isLt
 obtain⟨v,hv⟩:∃v,w.toNat=v:=⟨_,rfl⟩
 have e:w=BitVec.ofNat 32 v:=by rw[←hv,BitVec.ofNat_toNat,BitVec.setWidth_eq]
 have hb:∀n:Nat,n<256→(b8 (n:Int)).toNat=n:=fun n hn=>by have:=b8_val (n:=(n:Int)) (by omega);omega
 have h1:le4 w=[b8 ((v%256:Nat):Int),b8 ((v/256%256:Nat):Int),b8 ((v/65536%256:Nat):Int),b8 ((v/16777216%256:Nat):Int)]:=by
  unfold le4
  rw[hv]
  rfl
 rw[h1,e]
 show crcN 8 (crcN 8 (crcN 8 (crcN 8 (R^^^BitVec.ofNat 32 _)^^^BitVec.ofNat 32 _)^^^BitVec.ofNat 32 _)^^^BitVec.ofNat 32 _)=_
 rw[hb _ (by omega),hb _ (by omega),hb _ (by omega),hb _ (by omega)]
 have e32:∀z,crcN 32 z=crcN 8 (crcN 8 (crcN 8 (crcN 8 z))):=fun z=>by rw[←crcN_add,←crcN_add,←crcN_add]
 rw[e32,crc8_split _ (v:=v) (by omega),crc8_split _ (v:=v/256) (by omega),show v/256/256=v/65536 by omega,crc8_split _ (v:=v/65536) (by omega),
  show v/65536/256=v/16777216 by omega,crc8_split _ (v:=v/16777216) (by omega),show v/16777216/256=0 by omega,BitVec.xor_zero]
def KK :BitVec 32:=crcN 32 (~~~ 0#32)
theorem le4_surj {l:List UInt8}(h:l.length=4):∃w,l=le4 w:=by
 have h1:=synN_lt l 0 4
 refine⟨BitVec.ofNat 32 (synN l 0 4),?_⟩
 have:=(syn_le4 (l:=l) (k:=0) (by omega) (BitVec.ofNat 32 (synN l 0 4))).1 (by rw[BitVec.toNat_ofNat];exact Nat.mod_eq_of_lt h1)
 exact this
theorem le4_inj {v w:BitVec 32}(h:le4 v=le4 w):v=w:=by
 have h1:=(syn_le4 (l:=le4 v) (k:=0) rfl w).2 h
 have h2:=(syn_le4 (l:=le4 v) (k:=0) rfl v).2 rfl
 exact BitVec.eq_of_toNat_eq (by rw[h1,h2])
theorem ones32 : ~~~ 0#32=BitVec.allOnes 32:=by decide
theorem xneg (a b:BitVec 32):a^^^b = ~~~ 0#32↔b = ~~~ a:=by
 rw[ones32,←BitVec.xor_allOnes (x:=a)]
 constructor
 ·intro h
  rw[←h,←BitVec.xor_assoc,BitVec.xor_self,BitVec.zero_xor]
 ·rintro rfl
  rw[←BitVec.xor_assoc,BitVec.xor_self,BitVec.zero_xor]
theorem sealed_iff {t:List UInt8}{k:Nat}(hl:t.length=k+4):t.drop k=le4 (crcV (t.take k))↔crcF t (~~~ 0#32)=KK:=by
 obtain⟨w,hw⟩:=le4_surj (l:=t.drop k) (by rw[List.length_drop];omega)
 have e:crcF t (~~~ 0#32)=crcN 32 (crcF (t.take k) (~~~ 0#32)^^^w):=by rw[←crcF_le4,←hw,←crcF_app,List.take_append_drop]
 rw[hw,e,crcV_F]
 unfold KK
 constructor
 ·intro g
  rw[(xneg _ _).2 (le4_inj g)]
 ·intro g
  rw[(xneg _ _).1 (crcN_inj g)]
theorem wrong_F {t:List UInt8}{k:Nat}(hl:t.length=k+4):crcN 32 (crcV (t.take k)^^^BitVec.ofNat 32 (synN t k 4))=crcF t (~~~ 0#32)^^^KK:=by
 obtain⟨w,hw⟩:=le4_surj (l:=t.drop k) (by rw[List.length_drop];omega)
 have e:crcF t (~~~ 0#32)=crcN 32 (crcF (t.take k) (~~~ 0#32)^^^w):=by rw[←crcF_le4,←hw,←crcF_app,List.take_append_drop]
 have hs:BitVec.ofNat 32 (synN t k 4)=w:=by
  have:=(syn_le4 hl w).2 hw
  rw[←this,BitVec.ofNat_toNat,BitVec.setWidth_eq]
 rw[e,hs,crcV_F]
 unfold KK
 rw[←crcN_xor]
 congr 1
 rw[ones32,←BitVec.xor_allOnes (x:=crcF _ _),x3]

theorem frEq {s t:Fr1}:cellsEqB (frC s) (frC t)=true↔s=t:=by
 obtain⟨a,b⟩:=s
 obtain⟨d,e⟩:=t
 show(decide (a=d) && (decide (b=e) && true))=true↔_
 simp[Prod.mk.injEq]
theorem rShort_any (xs:List Fr1)(v:Value)(n m:Int)(h:SH)(hv:Has h (recs frC xs) 2 xs.length v)(hl:xs.length≤9223372036854775807)(hs:∀x∈xs,x.2.length≤9223372036854775807) :
  SRun Tryz.prog 6 [v,I n,I m] h fun r q=>r=B (decide ((xs.length:Int)≤n∧∀x∈xs,(x.2.length:Int)≤m))∧q=h:=by
 have hlb:=frC_len xs
 obtain⟨ad,fl,rfl,hh⟩:=hv
 refine w_body3 Tryz.func6 rfl rfl ?_
 repeat'(first|apply zF|apply zB|apply zE|(apply o_g zC;exact rfl;exact rfl)|apply zA|apply zH|((with_reducible apply Sd.mk);first|exact True.intro))
 refine zZ (S:=Nat) (fun k=>[(0,.slice ad xs.length fl),(1,I n),(2,I m),(7,I k)]) (fun _=>h) (fun k=>k≤xs.length∧∀i,i<k→(xs[i]!.2.length:Int)≤m) (fun k=>xs.length-k) 0 ⟨by omega,by omega⟩ (by repeat'(first|exact trivial|refine⟨rfl,?_⟩|refine⟨congrArg some ?_,?_⟩)) (by repeat with_reducible first|exact Take.nil|apply Take.c|apply Take.drop) ?_
 rintro k ⟨hk,hb⟩
 by_cases hkl:k<xs.length
 ·obtain⟨A',ro,h1,rfl,hp⟩:=hh (by omega)
  have hx:=hs _ (bang_mem hkl)
  repeat'(first|apply zF|apply zB|apply zE|(apply o_g zC;exact rfl;exact rfl)|(apply o_ar zC;exact rfl;exact rfl)|(apply zM zC;(iterate 3 exact rfl);(focus exact pk))|(apply yC;exact rfl;(focus first|omega))|(apply w_if;exact rfl;all_goals intro hc)|apply zA|apply zP|apply zG|apply yP|apply zI|apply zN|apply zH|((with_reducible apply Sd.mk);first|exact True.intro|omega)|((with_reducible apply Ln.mk);first|omega)|((with_reducible apply Wr.mk);first|exact IntWalk.i64_in _ (by omega))|((with_reducible apply Ce.mk);first|exact cell_recZ (fun _=>rfl) (by omega) (by decide) rfl)|exact True.intro|exact rfl)
  all_goals first
   |(exfalso;omega)
   |exact⟨k+1,⟨hkl,fun i hi=>by
     by_cases e:i=k
     ·subst e;omega
     ·exact hb i (by omega)⟩,by omega,(by repeat'(first|exact trivial|refine⟨rfl,?_⟩|refine⟨congrArg some ?_,?_⟩)),(by repeat with_reducible first|exact Take.nil|apply Take.c|apply Take.drop)⟩
   |skip
  (apply zL;(exact(show ResS _ _ _ _ [_] from⟨rfl,trivial⟩));(focus exact⟨congrArg B (decide_eq_false (fun g=>by have:=g.2 _ (bang_mem hkl);omega)).symm,rfl⟩);(focus repeat with_reducible first|exact Take.nil|apply Take.c|apply Take.drop))
 ·repeat'(first|apply zF|apply zB|apply zE|(apply o_g zC;exact rfl;exact rfl)|(apply yD;exact rfl;(focus first|omega))|apply zA|apply zK|apply zJ|apply zN|apply zV|((with_reducible apply Sd.mk);first|exact True.intro))
  all_goals first|(exfalso;omega)|skip
  have hall:∀x∈xs,(x.2.length:Int)≤m:=fun x hx=>by
   obtain⟨i,hi,rfl⟩:=List.mem_iff_getElem.1 hx
   have:=hb i (by omega)
   rwa [getElem!_pos xs i hi]at this
  (apply zL;(exact(show ResS _ _ _ _ [_] from⟨rfl,trivial⟩));(focus exact⟨congrArg Value.bool (decide_eq_decide.2 ⟨fun g=>⟨g,hall⟩,fun g=>g.1⟩),rfl⟩);(focus repeat with_reducible first|exact Take.nil|apply Take.c|apply Take.drop))
def catF :List Fr1→List UInt8
 |[]=>[]
 |x::r=>(wrp x.1 x.2).1++catF r
def fdsF :Nat→List Fr1→List Fd
 |_,[]=>[]
 |at_,x::r=>(at_,(wrp x.1 x.2).1.length,x.1,x.2)::fdsF (at_+(wrp x.1 x.2).1.length) r
abbrev okF (l:List Fr1):Prop:=∀x∈l,(wrp x.1 x.2).2=0
theorem encF_cat :∀{l:List Fr1} (o:List UInt8),okF l→encF l o=(o++catF l,0)
 |[],o,_=>by show(o,0)=_;rw[show catF []=[] from rfl,List.append_nil]
 |x::r,o,h=>by
  show(if(wrp x.1 x.2).2≠0 then _ else encF r (o++(wrp x.1 x.2).1))=_
  rw[if_neg (fun g=>g (h x (by simp))),encF_cat _ (fun y hy=>h y (by simp[hy])),List.append_assoc]
  rfl
theorem encF_bad :∀{l:List Fr1} (o:List UInt8),(∀x∈l,x.2.length≤4096)→(∃x∈l,x.1<0∨15<x.1)→encF l o=([],2)
 |[],o,_,h=>by obtain⟨x,hx,_⟩:=h;cases hx
 |x::r,o,hs,h=>by
  show(if(wrp x.1 x.2).2≠0 then([],(wrp x.1 x.2).2)else encF r (o++(wrp x.1 x.2).1))=_
  by_cases hx:x.1<0∨15<x.1
  ·rw[show wrp x.1 x.2=([],2)from if_pos hx,if_pos (by show(2:Int)≠0;decide)]
  ·have h0:(wrp x.1 x.2).2=0:=by
    unfold wrp
    rw[if_neg hx,if_neg (by have:=hs x (by simp);omega)]
   rw[if_neg (fun g=>g h0)]
   obtain⟨y,hy,hy2⟩:=h
   exact encF_bad _ (fun z hz=>hs z (by simp[hz])) ⟨y,by
    rcases List.mem_cons.1 hy with rfl|hy
    ·exact absurd hy2 hx
    ·exact hy,hy2⟩
theorem decF_cat :∀(l:List Fr1) (f:Nat) (o:List Fr1),okF l→(catF l).length≤f→decF f (catF l) o=some (o++l)
 |[],f,o,_,_=>by
  rw[List.append_nil]
  cases f with
  |zero=>rfl
  |succ f=>exact if_pos rfl
 |x::r,f,o,h,hf=>by
  have hx:=h x (by simp)
  obtain⟨_,_,w7,_⟩:=wrp_len hx
  have hcl:(catF (x::r)).length=(wrp x.1 x.2).1.length+(catF r).length:=List.length_append
  obtain⟨f,rfl⟩:∃f',f=f'+1:=⟨f-1,by omega⟩
  have hp:=prs_wrp hx (catF r)
  show(if catF (x::r)=[] then _ else match prs (catF (x::r))with
   |none=>none
   |some (k,c,n,_)=>decF f ((catF (x::r)).drop n) (o++[(k,c)]))=_
  rw[if_neg (fun g=>by rw[g]at hcl;simp only[List.length_nil]at hcl;omega),show prs (catF (x::r))=_ from hp]
  dsimp only
  rw[show(catF (x::r)).drop (wrp x.1 x.2).1.length=catF r from List.drop_left,decF_cat r f _ (fun y hy=>h y (by simp[hy])) (by omega),List.append_assoc]
  rfl
theorem wkL_cat :∀(l:List Fr1) (P:List UInt8) (f:Nat),okF l→(catF l).length≤f→wkL (P++catF l) f P.length=fdsF P.length l
 |[],P,f,_,_=>by rw[show catF []=[] from rfl,List.append_nil];exact wkL_end (by omega)
 |x::r,P,f,h,hf=>by
  have hx:=h x (by simp)
  obtain⟨_,_,w7,_⟩:=wrp_len hx
  have hcl:(catF (x::r)).length=(wrp x.1 x.2).1.length+(catF r).length:=List.length_append
  obtain⟨f,rfl⟩:∃f',f=f'+1:=⟨f-1,by omega⟩
  have hp:=prs_wrp hx (catF r)
  rw[wkL_some (n:=(wrp x.1 x.2).1.length) (k:=x.1) (c:=x.2) (by rw[List.length_append];omega) (by rw[List.drop_left];exact hp)]
  have:=wkL_cat r (P++(wrp x.1 x.2).1) f (fun y hy=>h y (by simp[hy])) (by omega)
  rw[List.append_assoc,List.length_append]at this
  show _::wkL (P++((wrp x.1 x.2).1++catF r)) f _=_
  rw[this]
  rfl
theorem catF_len :∀{l:List Fr1},okF l→7*l.length≤(catF l).length∧(catF l).length≤4120*l.length
 |[],_=>⟨Nat.le_refl _,Nat.le_refl _⟩
 |x::r,h=>by
  obtain⟨_,_,w7,w8⟩:=wrp_len (h x (by simp))
  have h2:=catF_len (l:=r) (fun y hy=>h y (by simp[hy]))
  have hcl:(catF (x::r)).length=(wrp x.1 x.2).1.length+(catF r).length:=List.length_append
  rw[hcl,List.length_cons]
  omega
def posF (l:List Fr1)(i:Nat):Nat:=(catF (l.take i)).length
theorem catF_app (a b:List Fr1):catF (a++b)=catF a++catF b:=by
 induction a with
 |nil=>rfl
 |cons x r ih=>show(wrp x.1 x.2).1++catF (r++b)=(wrp x.1 x.2).1++catF r++catF b;rw[ih,List.append_assoc]
theorem catF_drop {l:List Fr1}{i:Nat}(h:i<l.length):(catF l).drop (posF l i)=(wrp l[i]!.1 l[i]!.2).1++catF (l.drop (i+1)):=by
 have e:catF l=catF (l.take i)++catF (l.drop i):=by rw[←catF_app,List.take_append_drop]
 rw[e]
 unfold posF
 rw[List.drop_left,drop_bangF h]
 rfl
theorem fdsF_len :∀(l:List Fr1) (a:Nat),(fdsF a l).length=l.length
 |[],_=>rfl
 |x::r,a=>by show(fdsF _ r).length+1=r.length+1;rw[fdsF_len r]
theorem fdsF_at :∀(l:List Fr1) (a i:Nat),i<l.length→(fdsF a l)[i]! = (a+posF l i,(wrp l[i]!.1 l[i]!.2).1.length,l[i]!.1,l[i]!.2)
 |[],_,i,h=>absurd h (Nat.not_lt_zero _)
 |x::r,a,0,_=>rfl
 |x::r,a,i+1,h=>by
  have:=fdsF_at r (a+(wrp x.1 x.2).1.length) i (by rw[List.length_cons]at h;omega)
  show(fdsF (a+(wrp x.1 x.2).1.length) r)[i]! = _
  rw[this]
  have e:posF (x::r) (i+1)=(wrp x.1 x.2).1.length+posF r i:=by
   unfold posF
   show(catF (x::r.take i)).length=_
   exact List.length_append
  rw[e,Nat.add_assoc]
  rfl

def e31 :BitVec 32:=0x80000000#32
def chkE :Nat→BitVec 32→Bool
 |0,_=>true
 |n+1,x=>(x != e31) && chkE n (crcB x)
theorem chkE_ok :chkE 1100 (crcB e31)=true:=by decide +kernel
theorem chkE_ne :∀(n m:Nat) (x:BitVec 32),chkE n x=true→m<n→crcN m x≠e31
 |0,m,_,_,hm=>absurd hm (Nat.not_lt_zero m)
 |n+1,m,x,h,hm=>by
  have h:((x != e31) && chkE n (crcB x))=true:=h
  rw[Bool.and_eq_true]at h
  cases m with
  |zero=>exact bne_iff_ne.1 h.1
  |succ m=>exact chkE_ne n m (crcB x) h.2 (by omega)
theorem pow_ne {a b:Nat}(h:a<b)(hb:b≤1100):crcN a e31≠crcN b e31:=by
 intro g
 obtain⟨m,rfl⟩:∃m,b=(m+1)+a:=⟨b-a-1,by omega⟩
 rw[crcN_add]at g
 exact chkE_ne 1100 m (crcB e31) chkE_ok (by omega) (crcN_inj g).symm
theorem pow_inj {a b:Nat}(ha:a≤1100)(hb:b≤1100)(h:crcN a e31=crcN b e31):a=b:=by
 by_cases h1:a<b
 ·exact absurd h (pow_ne h1 hb)
 ·by_cases h2:b<a
  ·exact absurd h.symm (pow_ne h2 ha)
  ·omega
theorem bit_pow {p:Nat}(hp:p<32):BitVec.ofNat 32 (2^p)=crcN (31-p) e31:=by
 have e:2^p*2^(31-p)=2147483648:=by
  rw[←Nat.pow_add,show p+(31-p)=31 by omega]
 have:=crcN_shl (31-p) (2^p) (by rw[e];decide)
 rw[e]at this
 exact this.symm
theorem xbt_nat {a b:Nat}(ha:a<256)(hb:b<256):xbt (a:Int) (b:Int)=((a^^^b:Nat):Int):=by
 unfold xbt
 rw[BitVec.ofInt_natCast,BitVec.ofInt_natCast,BitVec.toNat_xor,BitVec.toNat_ofNat,BitVec.toNat_ofNat,Nat.mod_eq_of_lt ha,Nat.mod_eq_of_lt hb]
theorem xbt_twice {a b:Int}(ha:0≤a∧a<256)(hb:0≤b∧b<256):xbt (xbt a b) b=a:=by
 obtain⟨m,rfl⟩:=Int.eq_ofNat_of_zero_le ha.1
 obtain⟨n,rfl⟩:=Int.eq_ofNat_of_zero_le hb.1
 have hx:m^^^n<256:=Nat.xor_lt_two_pow (n:=8) (by omega) (by omega)
 rw[xbt_nat (by omega) (by omega),xbt_nat hx (by omega),Nat.xor_assoc,Nat.xor_self,Nat.xor_zero]
theorem le4_bat (w:BitVec 32){j:Nat}(hj:j<4):bat (le4 w) (j:Int)=((w.toNat/256^j%256:Nat):Int):=by
 obtain⟨h0,h1,h2,h3⟩:=le4_at w
 have:j=0∨j=1∨j=2∨j=3:=by omega
 rcases this with rfl|rfl|rfl|rfl
 ·rw[show((0:Nat):Int)=0 from rfl,h0,show 256^0=1 from rfl];omega
 ·rw[show((1:Nat):Int)=1 from rfl,h1,show 256^1=256 from rfl];omega
 ·rw[show((2:Nat):Int)=2 from rfl,h2,show 256^2=65536 from rfl];omega
 ·rw[show((3:Nat):Int)=3 from rfl,h3,show 256^3=16777216 from rfl];omega
theorem xor_dig (v c j:Nat):(v^^^c)/256^j%256=(v/256^j%256)^^^(c/256^j%256):=by
 have e:256^j=2^(8*j):=by rw[Nat.pow_mul]
 rw[e,Nat.xor_div_two_pow,show(256:Nat)=2^8 from rfl,Nat.xor_mod_two_pow]
theorem bat_seg {l:List UInt8}{p n j:Nat}(hj:j<n):bat ((l.drop p).take n) (j:Int)=bat l ((p+j:Nat):Int):=by
 unfold bat
 rw[Int.toNat_natCast,Int.toNat_natCast,List.getD_eq_getElem?_getD,List.getD_eq_getElem?_getD,List.getElem?_take,if_pos hj,List.getElem?_drop]
theorem Dmg.back {s t:List UInt8}{i k n:Nat}{c:Int}(h:Dmg s i c k t)(hn:i+k≤n):t.drop n=s.drop n:=by
 refine List.ext_getElem (by rw[List.length_drop,List.length_drop,h.1]) fun j h1 h2=>?_
 rw[List.length_drop]at h1 h2
 rw[List.getElem_drop,List.getElem_drop]
 have:=h.2 (n+j) (by omega)
 rw[if_neg (by omega),bat_lt (by omega),bat_lt (by omega)]at this
 exact UInt8.toNat_inj.1 (by omega)
theorem Dmg.mid {s t:List UInt8}{i c:Nat}(h:Dmg s i (c:Int) 4 t)(hi:i+4≤s.length)(hc:c<4294967296){w:BitVec 32}(hw:(s.drop i).take 4=le4 w):(t.drop i).take 4=le4 (w^^^BitVec.ofNat 32 c):=by
 have hl:((t.drop i).take 4).length=4:=by rw[List.length_take,List.length_drop,h.1];omega
 refine bat_ext hl fun j hj=>?_
 have hj:j<4:=hj
 rw[bat_seg hj,h.2 _ (by omega),if_pos (by omega),←bat_seg (n:=4) hj,hw,le4_bat _ hj,le4_bat _ hj,show i+j-i=j by omega]
 have hp:((c:Int)/256^j%256)=((c/256^j%256:Nat):Int):=by simp
 rw[hp,xbt_nat (Nat.mod_lt _ (by decide)) (Nat.mod_lt _ (by decide)),BitVec.toNat_xor,BitVec.toNat_ofNat,Nat.mod_eq_of_lt hc,xor_dig]
theorem crcF_dmg {s t:List UInt8}{i c:Nat}(h:Dmg s i (c:Int) 4 t)(hi:i+4≤s.length)(hc:c<4294967296)(x:BitVec 32):crcF t x=crcF s x^^^crcN (8*(s.length-i)) (BitVec.ofNat 32 c):=by
 obtain⟨w,hw⟩:=le4_surj (l:=(s.drop i).take 4) (by rw[List.length_take,List.length_drop];omega)
 have hm:=h.mid hi hc hw
 have e:∀l:List UInt8,l=l.take i++((l.drop i).take 4++l.drop (i+4)):=fun l=>by
  rw[show l.drop (i+4)=(l.drop i).drop 4 by rw[List.drop_drop],List.take_append_drop,List.take_append_drop]
 rw[e t,h.front,h.back (Nat.le_refl _),hm]
 conv=>rhs;lhs;rw[e s,hw]
 rw[crcF_app,crcF_app,crcF_app,crcF_app,crcF_le4,crcF_le4,←BitVec.xor_assoc,crcN_xor 32,crcF_xor]
 congr 1
 rw[←crcN_add,List.length_drop,show 32+8*(s.length-(i+4))=8*(s.length-i)by omega]
theorem ofNat_ne0 {c:Nat}(h0:c≠0)(hc:c<4294967296):BitVec.ofNat 32 c≠0#32:=by
 intro g
 have:=congrArg BitVec.toNat g
 rw[BitVec.toNat_ofNat,Nat.mod_eq_of_lt hc]at this
 exact h0 this
theorem dmg_open {s t:List UInt8}{i c:Nat}(hs:crcF s (~~~ 0#32)=KK)(h:Dmg s i (c:Int) 4 t)(hi:i+4≤s.length)(h0:c≠0)(hc:c<4294967296):crcF t (~~~ 0#32)≠KK:=by
 rw[crcF_dmg h hi hc,hs]
 intro g
 have:KK^^^(KK^^^crcN (8*(s.length-i)) (BitVec.ofNat 32 c))=KK^^^KK:=by rw[g]
 rw[←BitVec.xor_assoc,BitVec.xor_self,BitVec.zero_xor]at this
 exact ofNat_ne0 h0 hc (crcN_eq0 this)
theorem sl_sealed (d:List UInt8):crcF (sl d) (~~~ 0#32)=KK:=by
 have hl:(sl d).length=d.length+4:=by unfold sl;rw[List.length_append,le4_len]
 rw[←sealed_iff hl]
 unfold sl
 rw[List.drop_left,List.take_left]
theorem Dmg.part {s t:List UInt8}{p i n:Nat}{c:Int}(h:Dmg s (p+i) c 4 t)(hi:i+4≤n)(hn:p+n≤s.length):Dmg ((s.drop p).take n) i c 4 ((t.drop p).take n):=by
 have h1:=h.1
 refine⟨by rw[List.length_take,List.length_take,List.length_drop,List.length_drop,h1],fun j hj=>?_⟩
 rw[List.length_take,List.length_drop]at hj
 rw[bat_seg (by omega),bat_seg (by omega),h.2 _ (by omega)]
 by_cases g:i≤j∧j<i+4
 ·rw[if_pos g,if_pos (by omega),show p+j-(p+i)=j-i by omega]
 ·rw[if_neg g,if_neg (by omega)]
theorem wrong_pow {s t:List UInt8}{k i p:Nat}(hl:s.length=k+4)(hs:crcF s (~~~ 0#32)=KK)(h:Dmg s i ((2^p:Nat):Int) 4 t)(hi:i≤k)(hp:p<32) :
  crcV (t.take k)^^^BitVec.ofNat 32 (synN t k 4)=crcN (8*(k-i)+31-p) e31:=by
 have hp2:2^p<4294967296:=Nat.pow_lt_pow_right (a:=2) (by decide) hp
 apply crcN_inj (n:=32)
 rw[wrong_F (by rw[h.1];exact hl),crcF_dmg h (by omega) hp2,hs,x3,BitVec.xor_self,BitVec.zero_xor,bit_pow hp,←crcN_add,←crcN_add]
 congr 1
 omega
theorem prs_dmg {kd:Int}{ct t:List UInt8}{i c:Nat}(r:List UInt8)(hw:(wrp kd ct).2=0)(hs:¬(lzE ct).1.length<ct.length)(h:Dmg (wrp kd ct).1 i (c:Int) 4 t)(hi:i+4≤(wrp kd ct).1.length)(hf:(wrp kd ct).1.length≤i+4+ct.length)
  (h0:c≠0) (hc:c<4294967296):prs (t++r)=none:=by
 obtain⟨k1,k2,_⟩:=wrp_len hw
 have e:(wrp kd ct).1=sl (frm kd ct):=by
  unfold wrp
  rw[if_neg (by omega),if_neg (by omega),if_neg hs]
 rw[e]at h hi hf
 have hl:(sl (frm kd ct)).length=(frm kd ct).length+4:=by unfold sl;rw[List.length_append,le4_len]
 have hbad:=dmg_open (sl_sealed _) h hi h0 hc
 have htl:=h.1
 obtain⟨F,hF⟩:∃F,hd2 kd++vnum (ct.length:Int)=F:=⟨_,rfl⟩
 have hfr:frm kd ct=F++ct:=by rw[←hF,List.append_assoc];rfl
 have hfl:(frm kd ct).length=F.length+ct.length:=by rw[hfr,List.length_append]
 have hfront:t.take F.length=F:=by
  have h1:=congrArg (fun l:List UInt8=>l.take F.length) h.front
  rw[List.take_take,List.take_take,Nat.min_eq_left (by omega)]at h1
  rw[h1,show sl (frm kd ct)=F++(ct++le4 (crcV (frm kd ct)))by unfold sl;rw[hfr,List.append_assoc],List.take_left]
 obtain⟨b,hb⟩:∃b,(t.drop F.length).take ct.length=b:=⟨_,rfl⟩
 obtain⟨x,hx⟩:∃x,t.drop (frm kd ct).length=x:=⟨_,rfl⟩
 have hbl:b.length=ct.length:=by rw[←hb,List.length_take,List.length_drop];omega
 have hxl:x.length=4:=by rw[←hx,List.length_drop];omega
 have hfb:frm kd b=F++b:=by rw[←hF,List.append_assoc,←hbl];rfl
 have ht:t=frm kd b++x:=by
  rw[hfb,←hb,←hx,hfl,List.append_assoc,←List.drop_drop,List.take_append_drop]
  conv=>rhs;lhs;rw[←hfront]
  rw[List.take_append_drop]
 have hkl:(frm kd b).length=(frm kd ct).length:=by rw[hfb,List.length_append,hbl,hfl]
 have hne:x≠le4 (crcV (frm kd b)):=fun g=>by
  apply hbad
  have:=sl_sealed (frm kd b)
  unfold sl at this
  rw[←g,←ht]at this
  exact this
 rw[ht,List.append_assoc]
 obtain⟨a1,a2,a3⟩:=frm_at kd (by omega) b (x++r)
 have hl2:(frm kd b++(x++r)).length=(frm kd b).length+(4+r.length):=by rw[List.length_append,List.length_append,hxl]
 have hl3:(x++r).length=4+r.length:=by rw[List.length_append,hxl]
 unfold prs
 rw[a1,a2,if_neg (by omega),a3,txt_front (by omega)]
 dsimp only
 have hsz:(frm kd b++(x++r)).length-((x++r).length-4)=(frm kd b++x).length:=by
  have h1:(frm kd b++x).length=(frm kd b).length+4:=by rw[List.length_append,hxl]
  omega
 have htk:(frm kd b++(x++r)).take (frm kd b++x).length=frm kd b++x:=by rw[←List.append_assoc,List.take_left]
 rw[if_neg (by omega),hsz,htk,if_pos]
 unfold opn
 rw[show(frm kd b++x).length-4=(frm kd b).length by rw[List.length_append];omega,List.drop_left,List.take_left,if_neg (fun g=>hne g.2)]
 show(12:Int)≠0
 decide
theorem bit_dig :∀p:Fin 32,∀q:Fin 4,2^p.val/256^q.val%256=if q.val=p.val/8 then 2^(p.val%8)else 0:=by decide
theorem flip_back {s t:List UInt8}{i p:Nat}(h:Dmg s i ((2^p:Nat):Int) 4 t)(hi:i+4≤s.length)(hp:p<32) :
  t.set (i+p/8) (b8 (xbt (bat t ((i+p/8:Nat):Int)) ((2^(p%8):Nat):Int)))=s:=by
 have h8:2^(p%8)<256:=Nat.pow_lt_pow_right (a:=2) (n:=8) (by decide) (Nat.mod_lt _ (by decide))
 have hl:=h.1
 have hd:∀q:Nat,q<4→(((2^p:Nat):Int)/256^q%256)=((if q=p/8 then 2^(p%8)else 0:Nat):Int):=fun q hq=>by
  rw[←bit_dig ⟨p,hp⟩ ⟨q,hq⟩]
  simp
 refine bat_ext (by rw[List.length_set];exact hl) fun j hj=>?_
 rw[bat_set (by omega)]
 have hb:=bat_255 s (j:Int)
 by_cases e:j=i+p/8
 ·subst e
  rw[if_pos rfl,b8_val (xbt_in _ _),h.2 _ hj,if_pos (by omega),show i+p/8-i=p/8 by omega,hd _ (by omega),if_pos rfl]
  exact xbt_twice (by omega) ⟨Int.natCast_nonneg _,by omega⟩
 ·rw[if_neg e,h.2 _ hj]
  by_cases g:i≤j∧j<i+4
  ·rw[if_pos g,hd _ (by omega),if_neg (by omega)]
   exact(xbt_eq (by omega) (by decide)).2 rfl
  ·rw[if_neg g]

theorem UB_nat {n:Nat}(h:n<4294967296):UB (BitVec.ofNat 32 n)=.int .u32 (n:Int):=by
 show Value.int .u32 ((BitVec.ofNat 32 n).toNat:Int)=_
 rw[BitVec.toNat_ofNat,Nat.mod_eq_of_lt h]
theorem shl_u32 {i:Nat}(h:i<32):IntKind.u32.wrap (1*2^(min ((i:Int).toNat) IntKind.u32.bits))=((2^i:Nat):Int):=by
 rw[Int.toNat_natCast,show IntKind.u32.bits=32 from rfl,Nat.min_eq_left (by omega),Int.one_mul]
 have h2:2^i<4294967296:=Nat.pow_lt_pow_right (a:=2) (n:=32) (by decide) h
 have e:(2:Int)^i=((2^i:Nat):Int):=by simp
 rw[e]
 generalize 2^i=p at *
 exact IntWalk.u32_in _ (by omega)
theorem eq_pow {N i:Nat}(hN:N≤1099)(hi:i<32):(((crcN N e31).toNat:Int)=((2^i:Nat):Int))↔N+i=31:=by
 have h2:2^i<4294967296:=Nat.pow_lt_pow_right (a:=2) (n:=32) (by decide) hi
 have e:=bit_pow hi
 constructor
 ·intro g
  have:crcN N e31=crcN (31-i) e31:=by
   rw[←e]
   apply BitVec.eq_of_toNat_eq
   rw[BitVec.toNat_ofNat,Nat.mod_eq_of_lt h2]
   omega
  have:=pow_inj (by omega) (by omega) this
  omega
 ·intro g
  rw[show N=31-i by omega,←e,BitVec.toNat_ofNat,Nat.mod_eq_of_lt h2]
theorem eq_eff {N M:Nat}(hN:N≤1099)(hM:M≤1099):(((crcN M e31).toNat:Int)=((crcN N e31).toNat:Int))↔M=N:=by
 constructor
 ·intro g
  exact pow_inj (by omega) (by omega) (BitVec.eq_of_toNat_eq (by omega))
 ·rintro rfl
  rfl
theorem pow_ne0 (N:Nat):(crcN N e31).toNat≠0:=fun g=>by
 have:crcN N e31=0#32:=BitVec.eq_of_toNat_eq g
 have:=crcN_eq0 this
 revert this
 decide
theorem o_aidxL {m:Gh.Mode}{P:Program}{sz:Nat}{ops:Array Oper}{Q:SPost}{rest:List Oper}{a:AF}{h:SH}{t:Nat}{ty:TypeId}{pos:String}{aft:Array Edge}{tt:TT}{T:Nat}{x y:Operand}{len E b:Nat}{z z1:Option Value}{s1 b1:Nat}{tk:TK}{vs:List Value}{v:Value}{k:IntKind}{i:Int}(ht:tt.Ok P)
  (hx:ev a x=some (.agg vs.toArray)) (hy:ev a y=some (.int k i)) (hT:tt.get T=some ⟨.arr len E,s1,b1,z1⟩) (hE:tt.get E=some ⟨tk,1,b,z⟩) (hk:tk.agg=false) (hi:0≤i∧i<len) (hv:vs[i.toNat]?=some v)
  (hN:Nat.blt t sz=true) (kk:GO m.next P sz ops Q rest ((t,v)::a) h):GO m P sz ops Q (⟨some t,.index T x y,ty,pos,aft,none⟩::rest) a h :=
 o_pure (fun _ _ _ hag=>let ⟨_,hI,_⟩:=te_inf (TT.get_ok ht hE);a_aindex T x y rfl ((hag.ev (by simp[Op.operands,Call.operands])).trans hx) ((hag.ev (by simp[Op.operands,Call.operands])).trans hy) (te_arr (TT.get_ok ht hT) rfl) (by rw[te_agg (TT.get_ok ht hE)];exact congrArg some hk) hI hi hv) hN kk
set_option maxHeartbeats 4000000 in
theorem Locate_any (t:List UInt8)(k N j b:Nat)(h:SH)(hl:t.length=k+4)(hk:8*k+31<1100)(hw:crcV (t.take k)^^^BitVec.ofNat 32 (synN t k 4)=crcN N e31)(hN:N+8*j+b=8*k+31)(hb:b<8)(hj:j<k+4) :
  SRun Tryz.prog 13 [S t] h fun r q=>r=.tuple #[I (8*(j:Int)+7-(b:Int)),B true]∧q=h:=by
 have hS:=fun h=>syndrome_val t h (by omega) (by omega)
 rw[show t.length-4=k by omega,hw]at hS
 have hn0:=pow_ne0 N
 have hcond:∀i,i<32→((((crcN N e31).toNat:Int)=((2^i:Nat):Int))↔N+i=31):=fun i hi=>eq_pow (by omega) hi
 have heff:∀M,M≤1099→((((crcN M e31).toNat:Int)=((crcN N e31).toNat:Int))↔M=N):=fun M hM=>eq_eff (by omega) hM
 obtain⟨w,hw2⟩:∃w:BitVec 32,crcN N e31=w:=⟨_,rfl⟩
 rw[hw2]at hS hn0 hcond heff
 clear hw hw2
 refine zR Tryz.func13 rfl rfl ?_
 repeat'(first|apply zF|apply zB|apply zE|(apply o_g zC;exact rfl;exact rfl)|(apply o_ar zC;exact rfl;exact rfl)|(apply zD;exact rfl;exact rfl;(focus first|exact rfl);exact rfl;(focus exact⟨_,hS _,by repeat with_reducible exact Take.nil⟩);rintro _ _ ⟨rfl,rfl⟩)|(apply zU;exact rfl;exact rfl)|(apply o_gF;(iterate 3 exact rfl);(focus first|omega))|(apply yD;exact rfl;(focus first|omega))|apply zA|apply zI|apply zH|((with_reducible apply Sd.mk);first|exact True.intro)|((with_reducible apply Wr.mk);first|exact IntWalk.i64_in _ (by omega)))
 all_goals first|contradiction|(exfalso;omega)|skip
 rename SH=>h
 refine zZ (S:=Nat) (fun i=>[(4,UB w),(5,I k),(27,I i)]) (fun _=>h) (fun i=>i≤32∧∀q,q<i→N+q≠31) (fun i=>32-i) 0 ⟨Nat.zero_le _,fun q hq=>by omega⟩ ⟨rfl,congrArg some (congrArg (Value.int .i64) (by omega)),rfl,trivial⟩ (by repeat with_reducible first|exact Take.nil|apply Take.c|apply Take.drop) ?_
 rintro i ⟨hi,hq⟩
 by_cases hi32:i<32
 ·have hc1:=hcond i hi32
  have hs1:=shl_u32 hi32
  generalize 2^i=p at *
  by_cases g:N+i=31
  ·have hce:=hc1.2 g
   have hq8:IntKind.i64.wrap ((i:Int).tdiv 8)=(i:Int)/8:=by
    rw[Int.tdiv_eq_ediv_of_nonneg (by omega)]
    exact IntWalk.i64_in _ (by omega)
   repeat'(first|apply zF|apply zB|apply zE|(apply o_g zC;exact rfl;exact rfl)|(apply o_ar zC;exact rfl;exact rfl)|(apply o_ex;exact rfl;exact rfl)|(apply yC;exact rfl;(focus first|omega))|apply zA|apply zP|apply yP|apply zI|apply zN|apply zH|((with_reducible apply Sd.mk);first|exact True.intro|omega)|((with_reducible apply Wr.mk);first|exact hs1|exact hq8|exact IntWalk.i64_in _ (by omega))|((with_reducible apply Ex.mk);first|exact Int.tmod_eq_emod_of_nonneg (by omega)))
   all_goals first|contradiction|(exfalso;omega)|skip
   (apply zL;(exact(show ResS _ _ _ _ [_,_] from⟨rfl,⟨rfl,trivial⟩⟩));(focus exact⟨congrArg (fun n:Int=>Value.tuple ⟨[I n,B true]⟩) (by omega),rfl⟩);(focus repeat with_reducible first|exact Take.nil|apply Take.c|apply Take.drop))
  ·have hce:¬((w.toNat:Int)=(p:Int)):=fun e=>g (hc1.1 e)
   repeat'(first|apply zF|apply zB|apply zE|(apply o_g zC;exact rfl;exact rfl)|(apply o_ar zC;exact rfl;exact rfl)|(apply yC;exact rfl;(focus first|omega))|(apply yD;exact rfl;(focus first|exact ‹_›))|apply zA|apply zG|apply zI|apply zH|((with_reducible apply Sd.mk);first|exact True.intro|omega)|((with_reducible apply Wr.mk);first|exact hs1|exact IntWalk.i64_in _ (by omega)))
   all_goals first|contradiction|(exfalso;omega)|skip
   exact⟨i+1,⟨hi32,fun q hq2=>by
    by_cases e:q=i
    ·subst e;exact g
    ·exact hq q (by omega)⟩,by omega,(by repeat'(first|exact trivial|refine⟨rfl,?_⟩|refine⟨congrArg some ?_,?_⟩)),(by repeat with_reducible first|exact Take.nil|apply Take.c|apply Take.drop)⟩
 ·obtain rfl:i=32:=by omega
  have hN32:32≤N:=by
   have:=hq (31-N)
   omega
  clear hcond hq
  have hjk:j+1≤k:=by omega
  repeat'(first|apply zF|apply zB|apply zE|(apply o_g zC;exact rfl;exact rfl)|(apply yG zC;iterate 5 exact rfl)|(apply zS;exact rfl)|apply zA|apply zK|apply zJ|apply zV|apply zH|((with_reducible apply Sd.mk);first|exact True.intro)|intro A)
  all_goals first|contradiction|(exfalso;omega)|skip
  obtain⟨E0,rfl⟩:∃m,m=A:=⟨_,rfl⟩
  refine zZ (S:=Nat × List (BitVec 32)) (fun s=>[(4,UB w),(5,I k),(7,gptr E0 0 8),(44,I s.1)]) (fun s=>(E0,⟨s.2.map fun x=>UB x,false⟩)::h) (fun s=>s.1≤8∧s.2.length=8∧∀q,q<s.1→s.2[q]! = crcN (39-q) e31) (fun s=>8-s.1)
   (0,List.replicate 8 0#32) ⟨Nat.zero_le _,rfl,fun q hq=>absurd hq (Nat.not_lt_zero q)⟩ (by repeat'(first|exact trivial|refine⟨rfl,?_⟩|refine⟨congrArg some ?_,?_⟩)) (by repeat with_reducible first|exact Take.nil|apply Take.c|apply Take.drop) ?_
  rintro⟨i,L⟩ ⟨hi,hL,hI⟩
  dsimp only at hi hL hI ⊢
  by_cases hi8:i<8
  ·have hs1:=shl_u32 (i:=i) (by omega)
   have hS1:∀h,SRun Tryz.prog 30 [.int .u32 ((2^i:Nat):Int)] h fun r q=>r=UB (crcN (39-i) e31)∧q=h:=fun h=>by
    have:=shift_any (BitVec.ofNat 32 (2^i)) h
    rw[UB_nat (Nat.pow_lt_pow_right (a:=2) (n:=32) (by decide) (by omega)),bit_pow (by omega),←crcN_add,show 31-i+8=39-i by omega]at this
    exact this
   generalize 2^i=p at *
   have hlen:(L.map fun x=>UB x).length=8:=by rw[List.length_map];exact hL
   repeat'(first|apply zF|apply zB|apply zE|(apply o_g zC;exact rfl;exact rfl)|(apply o_ar zC;exact rfl;exact rfl)|(apply zX zC;(iterate 4 exact rfl);(focus exact up))|(apply zD;exact rfl;exact rfl;(focus first|exact rfl);exact rfl;(focus exact⟨_,hS1 _,by repeat with_reducible exact Take.nil⟩);rintro _ _ ⟨rfl,rfl⟩)|(apply yC;exact rfl;(focus first|omega))|apply zA|apply zG|apply zI|apply zH|((with_reducible apply Sd.mk);first|exact True.intro|omega)|((with_reducible apply Ln.mk);first|exact ‹_›)|((with_reducible apply Wr.mk);first|exact hs1|exact IntWalk.i64_in _ (by omega))|((with_reducible apply Se.mk);first|exact setAt_mapZ (by omega))|exact True.intro)
   all_goals first|contradiction|(exfalso;omega)|skip
   exact⟨(i+1,L.set i (crcN (39-i) e31)),⟨hi8,by rw[List.length_set];exact hL,fun q hq=>by
    rw[lzset_bang (by omega)]
    by_cases e:q=i
    ·rw[if_pos e,e]
    ·rw[if_neg e];exact hI q (by omega)⟩,by show 8-(i+1)<8-i;omega,(by repeat'(first|exact trivial|refine⟨rfl,?_⟩|refine⟨congrArg some ?_,?_⟩)),(by repeat with_reducible first|exact Take.nil|apply Take.c|apply Take.drop)⟩
  ·obtain rfl:i=8:=by omega
   repeat'(first|apply zF|apply zB|apply zE|(apply o_g zC;exact rfl;exact rfl)|(apply o_ar zC;exact rfl;exact rfl)|(apply zS;exact rfl)|apply zA|apply zK|apply zJ|apply zV|apply zH|((with_reducible apply Sd.mk);first|exact True.intro)|((with_reducible apply Wr.mk);first|exact IntWalk.i64_in _ (by omega)))
   all_goals first|contradiction|(exfalso;omega)|skip
   refine zZ (S:=Nat × List (BitVec 32)) (fun s=>[(4,UB w),(7,gptr E0 0 8),(9,I ((k:Int)-1-s.1))]) (fun s=>(E0,⟨s.2.map fun x=>UB x,false⟩)::h)
    (fun s=>s.1+j+1≤k∧s.2.length=8∧∀q,q<8→s.2[q]! = crcN (8*(s.1+1)+31-q) e31) (fun s=>k-s.1) (0,L) ⟨by show 0+j+1≤k;omega,hL,fun q hq=>hI q hq⟩
    ⟨rfl,rfl,congrArg some (congrArg (Value.int .i64) (by omega)),trivial⟩ (by repeat with_reducible first|exact Take.nil|apply Take.c|apply Take.drop) ?_
   clear hI hL hi8 hi
   rintro⟨m,L0⟩ ⟨hm,hL0,hI0⟩
   dsimp only at hm hL0 hI0 ⊢
   repeat'(first|apply zF|apply zB|apply zE|(apply o_g zC;exact rfl;exact rfl)|(apply yQ zC;(iterate 3 exact rfl);(focus exact pk))|(apply yC;exact rfl;(focus first|omega))|apply zA|apply zI|apply zH|((with_reducible apply Sd.mk);first|exact True.intro)|((with_reducible apply Ln.mk);first|(simp ;first|done|omega))|((with_reducible apply Su.mk);first|exact zQ)|exact True.intro|exact rfl)
   all_goals first|contradiction|(exfalso;omega)|skip
   refine zZ (S:=Nat × List (BitVec 32)) (fun s=>[(4,UB w),(7,gptr E0 0 8),(9,I ((k:Int)-1-m)),(59,.agg (L0.map fun x=>UB x).toArray),(60,I s.1)]) (fun s=>(E0,⟨s.2.map fun x=>UB x,false⟩)::h)
    (fun s=>s.1≤8∧s.2.length=8∧(∀q,q<s.1→s.2[q]! = crcN (8*(m+2)+31-q) e31)∧(m+j+1=k→s.1≤b)) (fun s=>8-s.1) (0,L0) ⟨Nat.zero_le _,hL0,fun q hq=>absurd hq (Nat.not_lt_zero q),fun _=>Nat.zero_le _⟩
    (by repeat'(first|exact trivial|refine⟨rfl,?_⟩|refine⟨congrArg some ?_,?_⟩)) (by repeat with_reducible first|exact Take.nil|apply Take.c|apply Take.drop) ?_
   rintro⟨i,l⟩ ⟨hi,hl8,hI,hmb⟩
   dsimp only at hi hl8 hI hmb ⊢
   by_cases hi8:i<8
   ·have hx:=hI0 i hi8
    have hce:=heff (8*(m+1)+31-i) (by omega)
    rw[←hx]at hce
    have hcell:(L0.map fun x=>UB x)[((i:Nat):Int).toNat]?=some (UB L0[i]!):=by
     rw[Int.toNat_natCast,List.getElem?_map,List.getElem?_eq_getElem (by omega),getElem!_pos L0 i (by omega)]
     rfl
    have hS1:∀h,SRun Tryz.prog 30 [UB L0[i]!] h fun r q=>r=UB (crcN (8*(m+2)+31-i) e31)∧q=h:=fun h=>by
     have:=shift_any L0[i]! h
     rw[hx,←crcN_add,show 8*(m+1)+31-i+8=8*(m+2)+31-i by omega]at this
     rw[hx]
     exact this
    have hlen:(l.map fun x=>UB x).length=8:=by rw[List.length_map];exact hl8
    by_cases g:8*(m+1)+31-i=N
    ·have hc1:=hce.2 g
     repeat'(first|apply zF|apply zB|apply zE|(apply o_g zC;exact rfl;exact rfl)|(apply yC;exact rfl;(focus first|omega))|apply zA|apply zI|apply zH|((with_reducible apply Sd.mk);first|exact True.intro))
     refine o_aidxL (i:=(i:Int)) (len:=8) zC rfl rfl rfl rfl rfl (by omega) hcell rfl ?_
     repeat'(first|apply zF|apply zB|apply zE|(apply o_g zC;exact rfl;exact rfl)|(apply o_ar zC;exact rfl;exact rfl)|(apply yC;exact rfl;(focus first|exact ‹_›))|apply zA|apply zP|apply yP|apply zN|((with_reducible apply Sd.mk);first|exact True.intro)|((with_reducible apply Wr.mk);first|exact IntWalk.i64_in _ (by omega)))
     all_goals first|contradiction|(exfalso;omega)|skip
     (apply zL;(exact(show ResS _ _ _ _ [_,_] from⟨rfl,⟨rfl,trivial⟩⟩));(focus exact⟨congrArg (fun n:Int=>Value.tuple ⟨[I n,B true]⟩) (by omega),rfl⟩);(focus repeat with_reducible first|exact Take.nil|apply Take.c|apply Take.drop))
    ·have hc1:¬((L0[i]!.toNat:Int)=(w.toNat:Int)):=fun e=>g (hce.1 e)
     repeat'(first|apply zF|apply zB|apply zE|(apply o_g zC;exact rfl;exact rfl)|(apply yC;exact rfl;(focus first|omega))|apply zA|apply zI|apply zH|((with_reducible apply Sd.mk);first|exact True.intro))
     refine o_aidxL (i:=(i:Int)) (len:=8) zC rfl rfl rfl rfl rfl (by omega) hcell rfl ?_
     repeat'(first|apply zF|apply zB|apply zE|(apply o_g zC;exact rfl;exact rfl)|(apply o_ar zC;exact rfl;exact rfl)|(apply zX zC;(iterate 4 exact rfl);(focus exact up))|(apply zD;exact rfl;exact rfl;(focus first|exact rfl);exact rfl;(focus exact⟨_,hS1 _,by repeat with_reducible exact Take.nil⟩);rintro _ _ ⟨rfl,rfl⟩)|(apply yD;exact rfl;(focus first|exact ‹_›))|apply zA|apply zG|apply zI|((with_reducible apply Sd.mk);first|exact True.intro|omega)|((with_reducible apply Ln.mk);first|omega)|((with_reducible apply Wr.mk);first|exact IntWalk.i64_in _ (by omega))|((with_reducible apply Se.mk);first|exact setAt_mapZ (by omega))|exact True.intro)
     all_goals first|contradiction|(exfalso;omega)|skip
     exact⟨(i+1,l.set i (crcN (8*(m+2)+31-i) e31)),⟨hi8,by rw[List.length_set];exact hl8,fun q hq=>by
      rw[lzset_bang (by omega)]
      by_cases e:q=i
      ·rw[if_pos e,e]
      ·rw[if_neg e];exact hI q (by omega),fun e=>by show i+1≤b;have:=hmb e;omega⟩,by show 8-(i+1)<8-i;omega,(by repeat'(first|exact trivial|refine⟨rfl,?_⟩|refine⟨congrArg some ?_,?_⟩)),(by repeat with_reducible first|exact Take.nil|apply Take.c|apply Take.drop)⟩
   ·obtain rfl:i=8:=by omega
    have hmk:m+j+1≠k:=fun e=>by have:=hmb e;omega
    repeat'(first|apply zF|apply zB|apply zE|(apply o_g zC;exact rfl;exact rfl)|(apply o_ar zC;exact rfl;exact rfl)|(apply zS;exact rfl)|apply zA|apply zK|apply zG|apply zJ|apply zV|((with_reducible apply Sd.mk);first|exact True.intro)|((with_reducible apply Wr.mk);first|exact IntWalk.i64_in _ (by omega)))
    all_goals first|contradiction|(exfalso;omega)|skip
    exact⟨(m+1,l),⟨by show m+1+j+1≤k;omega,hl8,fun q hq=>hI q hq⟩,by show k-(m+1)<k-m;omega,⟨rfl,rfl,congrArg some (congrArg (Value.int .i64) (by omega)),trivial⟩,(by repeat with_reducible first|exact Take.nil|apply Take.c|apply Take.drop)⟩
theorem Flip1_any (T P6 P3:Nat)(l:List UInt8)(j b:Nat)(h:SH)(hj:j<l.length)(hl:l.length≤1000000)(hb:b<8) :
  SRun Tryz.prog 31 [.int .u8 ((2^b:Nat):Int),gptr P6 0 1,gptr P3 0 1] ((P6,⟨[gsl T 0 l.length l.length 1],false⟩)::(T,⟨bytesV l,false⟩)::(P3,⟨[I (8*(j:Int)+7-(b:Int))],false⟩)::h)
   fun r q=>r=.tuple #[]∧q=(P6,⟨[gsl T 0 l.length l.length 1],false⟩)::(T,⟨bytesV (l.set j (b8 (xbt (bat l (j:Int)) ((2^b:Nat):Int)))),false⟩)::(P3,⟨[I (8*(j:Int)+7-(b:Int))],false⟩)::h:=by
 have h8:2^b<256:=Nat.pow_lt_pow_right (a:=2) (n:=8) (by decide) hb
 generalize 2^b=p at *
 have hlb:(bytesV l).length=l.length:=by simp
 have hq:IntKind.i64.wrap ((8*(j:Int)+7-(b:Int)).tdiv 8)=(j:Int):=by
  rw[Int.tdiv_eq_ediv_of_nonneg (by omega)]
  exact IntWalk.i64_in _ (by omega) |>.trans (by omega)
 have hb255:=bat_255 l (j:Int)
 have hxi:=xbt_in (bat l (j:Int)) (p:Int)
 have hcell:(bytesV l)[0+((j:Int)).toNat*1]?=some (Y (bat l (j:Int))):=cell_bytes (by omega)
 have hset:SetAt (bytesV l) (0+((j:Int)).toNat*1) (Y (xbt (bat l (j:Int)) (p:Int))) (bytesV (l.set j (b8 (xbt (bat l (j:Int)) (p:Int))))):=by
  have:=setAt_bytes (l:=l) (i:=(j:Int)) (n:=xbt (bat l (j:Int)) (p:Int)) (by omega) hxi
  rw[Int.toNat_natCast]at this ⊢
  exact this
 refine w_body3 Tryz.func31 rfl rfl ?_
 repeat'(first|apply zB|apply zE|(apply o_g zC;exact rfl;exact rfl)|(apply o_ar zC;exact rfl;exact rfl)|(apply zM zC;(iterate 3 exact rfl);(focus exact pk))|(apply zX zC;(iterate 4 exact rfl);(focus exact up))|((with_reducible apply Sd.mk);first|exact True.intro|omega)|((with_reducible apply Ln.mk);first|rfl|omega)|((with_reducible apply Wr.mk);first|exact hq|exact bw8 _)|((with_reducible apply Ce.mk);first|rfl|exact hcell)|((with_reducible apply Se.mk);first|exact hset)|exact True.intro|exact rfl)
 all_goals first|contradiction|(exfalso;omega)|skip
 (apply s_finN;(exact(show ResS _ _ _ _ [] from trivial));(focus exact⟨rfl,rfl⟩);(focus repeat with_reducible first|exact Take.nil|apply Take.c|apply Take.drop))
theorem Flip_any (t:List UInt8)(j b:Nat)(h:SH)(hj:j<t.length)(hl:t.length≤1000000)(hb:b<8) :
  SRun Tryz.prog 14 [S t,I (8*(j:Int)+7-(b:Int))] h fun r q=>r=.tuple #[S (t.set j (b8 (xbt (bat t (j:Int)) ((2^b:Nat):Int)))),B true]∧q=h:=by
 have hC:=fun T P6 P3 h=>Flip1_any T P6 P3 t j b h hj hl hb
 have hshr:(128:Int)/2^(min (((8*(j:Int)+7-(b:Int))%8).toNat) IntKind.u8.bits)=((2^b:Nat):Int):=by
  rw[show(8*(j:Int)+7-(b:Int))%8=7-(b:Int)by omega]
  have:b=0∨b=1∨b=2∨b=3∨b=4∨b=5∨b=6∨b=7:=by omega
  rcases this with rfl|rfl|rfl|rfl|rfl|rfl|rfl|rfl <;> rfl
 have h8:2^b<256:=Nat.pow_lt_pow_right (a:=2) (n:=8) (by decide) hb
 generalize 2^b=p at *
 have hRl:(bytesV (t.set j (b8 (xbt (bat t (j:Int)) (p:Int))))).length=t.length:=by simp
 have hRl2:(t.set j (b8 (xbt (bat t (j:Int)) (p:Int)))).length=t.length:=by simp
 generalize t.set j (b8 (xbt (bat t (j:Int)) (p:Int)))=R at *
 refine zY Tryz.func14 rfl rfl ?_
 repeat'(first|apply zF|apply zB|apply zE|(apply o_g zC;exact rfl;exact rfl)|(apply o_ar zC;exact rfl;exact rfl)|(apply o_ex;exact rfl;exact rfl)|(apply zM zC;(iterate 3 exact rfl);(focus exact pk))|(apply zX zC;(iterate 4 exact rfl);(focus exact up))|(apply yG zC;iterate 5 exact rfl)|(apply o_box (tt:=tyT);iterate 5 exact rfl)|(apply o_toBytes zC;iterate 7 exact rfl)|(apply o_toString zC;(iterate 6 exact rfl);(focus exact pk))|(apply o_makeFunc;iterate 3 exact rfl)|(apply zD;exact rfl;exact rfl;(focus first|exact rfl);exact rfl;(focus exact⟨_,hC _ _ _ _,by repeat with_reducible exact Take.nil⟩);rintro _ _ ⟨rfl,rfl⟩)|(apply zU;exact rfl;exact rfl)|(apply o_gF;(iterate 3 exact rfl);(focus first|omega))|(apply yD;exact rfl;(focus first|omega))|apply zA|apply zI|apply zN|((with_reducible apply Sd.mk);first|exact True.intro|omega|(unfold maxLen;omega))|((with_reducible apply Ln.mk);first|rfl|omega)|((with_reducible apply Wr.mk);first|exact IntWalk.i64_in _ (by omega))|((with_reducible apply Ex.mk);first|exact Int.tmod_eq_emod_of_nonneg (by omega)|exact hshr)|((with_reducible apply Ce.mk);first|rfl)|((with_reducible apply Se.mk);first|(focus(repeat(first|exact SetAt.zero));done))|((with_reducible apply Su.mk);first|exact zQ)|exact True.intro|intro A|exact rfl)
 all_goals first|contradiction|(exfalso;omega)|skip
 (apply zL;(exact(show ResS _ _ _ _ [_,_] from⟨rfl,⟨rfl,trivial⟩⟩));(focus exact⟨rfl,rfl⟩);(focus repeat with_reducible first|exact Take.nil|apply Take.c|apply Take.drop))

theorem top_dmg {L:List Fr1}{k i c:Nat}{T:List UInt8}(hok:okF L)(hk:k<L.length)(hs:¬(lzE L[k]!.2).1.length<L[k]!.2.length)(h:Dmg (catF L) (posF L k+i) (c:Int) 4 T)
  (hi:i+4≤(wrp L[k]!.1 L[k]!.2).1.length) (hf:(wrp L[k]!.1 L[k]!.2).1.length≤i+4+L[k]!.2.length) (h0:c≠0) (hc:c<4294967296) :
  prs (T.drop (posF L k))=none∧T.drop (posF L k+(wrp L[k]!.1 L[k]!.2).1.length)=catF (L.drop (k+1))∧T.take (posF L k)=catF (L.take k) ∧
  Dmg (wrp L[k]!.1 L[k]!.2).1 i (c:Int) 4 ((T.drop (posF L k)).take (wrp L[k]!.1 L[k]!.2).1.length)∧((catF L).drop (posF L k)).take (wrp L[k]!.1 L[k]!.2).1.length=(wrp L[k]!.1 L[k]!.2).1 ∧
  posF L k+(wrp L[k]!.1 L[k]!.2).1.length≤(catF L).length:=by
 have hx:=hok _ (bang_mem hk)
 have hd:=catF_drop hk
 have hseg:((catF L).drop (posF L k)).take (wrp L[k]!.1 L[k]!.2).1.length=(wrp L[k]!.1 L[k]!.2).1:=by rw[hd,List.take_left]
 have hlen:posF L k+(wrp L[k]!.1 L[k]!.2).1.length≤(catF L).length:=by
  have h1:=congrArg List.length hd
  rw[List.length_drop,List.length_append]at h1
  have h2:posF L k≤(catF L).length:=by
   have e:catF L=catF (L.take k)++catF (L.drop k):=by rw[←catF_app,List.take_append_drop]
   rw[e,List.length_append]
   exact Nat.le_add_right _ _
  omega
 have hp:=h.part hi hlen
 rw[hseg]at hp
 have hfr:=congrArg (fun l:List UInt8=>l.take (posF L k)) h.front
 rw[List.take_take,List.take_take,Nat.min_eq_left (by omega)]at hfr
 refine⟨?_,?_,?_,hp,hseg,hlen⟩
 ·have:=prs_dmg ((T.drop (posF L k)).drop (wrp L[k]!.1 L[k]!.2).1.length) hx hs hp hi hf h0 hc
  rwa [List.take_append_drop]at this
 ·rw[h.back (by omega),←List.drop_drop,hd,List.drop_left]
 ·rw[hfr]
  have e:catF L=catF (L.take k)++catF (L.drop k):=by rw[←catF_app,List.take_append_drop]
  rw[e]
  unfold posF
  rw[List.take_left]
theorem okF_take {L:List Fr1}(h:okF L)(k:Nat):okF (L.take k):=fun x hx=>h x (List.mem_of_mem_take hx)
theorem okF_drop {L:List Fr1}(h:okF L)(k:Nat):okF (L.drop k):=fun x hx=>h x (List.mem_of_mem_drop hx)

theorem fdC_len (l:List Fd):(recs fdC l).length=4*l.length:=by
 induction l with
 |nil=>rfl
 |cons x r ih=>show(fdC x++recs fdC r).length=4*(r.length+1);rw[List.length_append,ih];show 4+_=_;omega
end Go.Proofs.YteddogfolceahaaGreat
end
section
set_option maxRecDepth 4000
namespace Go.Gh
open Go.RowKit Go.MapKept

section
variable {P:Program} {N:Fr} {ops:Array Oper} {Q:Post} {rest:List Oper} {o:Oper} {a:AF} {H:Heap} {α:Type}
theorem a_slice3e (T:TypeId)(x lo hi mx:Operand){A off n len fl E s b:Nat}{z:Option Value}{i' j k:IntKind}{i:Int}(ho:o.op=.slice T x (some lo) (some hi) (some mx))(hx:ev a x=some (gsl A off n len fl))
  (hlo:ev a lo=some (.int i' i)) (hhi:ev a hi=some (.int j i)) (hmx:ev a mx=some (.int k i)) (hT:P.underlying T=some (.slice E)) (hI:tinf P E=some (z,s,b)) (h1:0≤i∧i≤len):APure P N o a H sempty:=by
 refine⟨fun B0 w0 φ w ac r hf=>?_⟩
 have hu:=zW hf hx
 have e1:=(zW hf hlo).scalar rfl
 have e2:=(zW hf hhi).scalar rfl
 have e3:=(zW hf hmx).scalar rfl
 generalize hv:ac.eval x=u at hu
 cases hu with
 |slc _ _ _ m _ _ cap c hL hle hc hm hh =>
  refine⟨.slice (some c) 0 0,.sdead _ _ (by omega),fun w _=>?_⟩
  unfold execOp
  simp only[ho,hv,e1,e2,e3,Instr.sliceAt,Instr.slice,Option.map_some,Sem.run_bind,run_underlying hT,Result.andThen_ok,Instr.sliceBounds,Instr.sliceBound,asIntOf,Sem.run_pure,
   Sem.run_ite,if_pos (show 0≤i∧i≤(cap:Int)from⟨by omega,by omega⟩),if_pos (show 0≤i∧i≤(i.toNat:Int)from⟨by omega,by omega⟩),run_sizeOf hI]
  simp
theorem exec_copy {ρ:Operand→Value}{t u:TypeId}{x y:Operand}{v:Value}{w w':World}(ho:o.op=.call { callee:=.builtin .copy,args:=#[x,y],argTypes:=#[t,u] })
  (hr:(Builtin.copy_ #[t,u] o.type #[ρ x,ρ y]).run P w=.ok v w'):(execOp ρ o).run P w=.ok (.value v) w':=by
 unfold execOp
 simp only[ho,resolve,invoke,builtin,Sem.run_bind,Sem.run_pure,Result.andThen_ok,List.map_toArray,List.map_cons,List.map_nil,hr]
theorem e_copyf (T U:TypeId)(x y:Operand){A off n len fl A2 off2 n2 k E b:Nat}{z:Option Value}{cells vs:List Value}{g2:Blk}
  (ho:o.op=.call { callee:=.builtin .copy,args:=#[x,y],argTypes:=#[T,U] }) (hx:ev a x=some (gsl A off n len fl)) (hy:ev a y=some (.slice (some ⟨A2,off2,none⟩) k (n2+1)))
  (hT:P.underlying T=some (.slice E)) (hI:tinf P E=some (z,1,b)) (hA:H[A]?=some (some ⟨cells,false⟩)) (hn:cells.length=n) (hA2:H[A2]?=some (some g2)) (hn2:g2.cells.length=n2)
  (hk:len=k) (hl:vs.length=k) (hfit:off+k≤cells.length) (hc:∀(i:Nat) v,vs[i]?=some v→g2.cells[off2+i]?=some v) (h1:vs.all one=true) :
  AEff P N o a H (I k) (H.set A (some ⟨lset cells off vs,false⟩)):=by
 subst hk
 refine eff_value (fun B0 w0 φ w ac r hf=>?_)
 obtain⟨cap,hu,hlc,hcm,hsz,hmp⟩:=slc_cells r hA hn (zW hf hx)
 have hfull:∃cap2,ac.eval y=.slice (some ⟨(φ A2).b,(φ A2).base+off2,none⟩) len cap2∧(φ A2).mp=false:=by
  have hv:=zW hf hy
  generalize ac.eval y=u at hv
  cases hv with
  |full _ _ m _ _ c hL hv hm h =>
   rw[lens_of hA2]at hL
   simp only[Option.some.injEq]at hL
   obtain⟨e1,e2⟩:=h (by omega)
   exact⟨len,by rw[e1],e2⟩
 obtain⟨cap2,hu2,hmp2⟩:=hfull
 obtain⟨us,hus,hucell⟩:=cells_rel r hA2 hmp2 off2 hc
 have hul:us.length=vs.length:=by have:=hus.size;simpa using this
 have hone:=vrel_one hus h1
 obtain⟨c,T',fz,k1,k2,k3,k4,k5⟩:=(r.blk A _ hA).ex hmp
 obtain⟨_,hbase⟩:=r.own A _ hA rfl
 simp only at k3 k5
 obtain⟨i,hi,e1,e2,e3⟩:=tinf_some hI
 obtain⟨φ',w',g1,g2',g3⟩:=store_rel (P:=P) (off:=off) (vs:=vs) (us:=us) r hA hmp (by omega) hus hone
 refine⟨φ',.int .i64 len,w',g2',g3,.int _ _,exec_copy ho ?_⟩
 have hload:=run_loadCells_list (P:=P) w ⟨(φ A2).b,(φ A2).base+off2,none⟩ us hucell
 rw[hu,hu2]
 have hmin:Nat.min len len=us.length:=by rw[hul,hl];exact Nat.min_self _
 simp[Builtin.copy_,run_underlying hT,Builtin.lenOf,Builtin.firstCells,sizeOf,typeInfo,hi,e2,hmin,hload,g1,goInt]
 omega
theorem e_copy0 (T U:TypeId)(x y:Operand){A2 off2 n2 E b:Nat}{z:Option Value}{g2:Blk}
  (ho:o.op=.call { callee:=.builtin .copy,args:=#[x,y],argTypes:=#[T,U] }) (hx:ev a x=some sempty) (hy:ev a y=some (.slice (some ⟨A2,off2,none⟩) 0 (n2+1)))
  (hT:P.underlying T=some (.slice E)) (hI:tinf P E=some (z,1,b)):APure P N o a H (I 0):=by
 refine⟨fun B0 w0 φ w ac r hf=>?_⟩
 have hx':=zW hf hx
 have hy':=zW hf hy
 obtain⟨i,hi,e1,e2,e3⟩:=tinf_some hI
 refine⟨I 0,.int _ _,fun w1 _=>exec_copy ho ?_⟩
 generalize ac.eval x=u at hx'
 generalize ac.eval y=u2 at hy'
 cases hx' with
 |sdead c cap hm =>
  cases hy' with
  |full _ _ m _ _ c2 hL hv hm h =>
   have hload:=run_loadCells_list (P:=P) w1 c2 [] (by simp)
   simp at hload
   simp[Builtin.copy_,run_underlying hT,Builtin.lenOf,Builtin.firstCells,sizeOf,typeInfo,hi,e2,hload,storeCells,goInt]
theorem a_lookupc [DecidableEq α](T:TypeId)(x k:Operand){A K E s b:Nat}{d:TypeDesc}{kf:α→Value}{l:List (α × Value)}{ro:Bool}{z:Value}{c:α}(ho:o.op=.lookup T x k true)(hx:ev a x=some (.map (some A)))(hk:ev a k=some (kf c))
  (hA:H[A]?=some (some ⟨mapC kf l,ro⟩)) (hT:P.underlying T=some (.map K E)) (hK:P.underlying K=some d) (KF:KeyF d kf) (hI:tinf P E=some (some z,s,b)) (hz:yJ z=true):APure P N o a H (.tuple #[(mget l c).getD z,B (mget l c).isSome]):=by
 refine⟨fun B0 w0 φ w ac r hf=>?_⟩
 obtain⟨h1,_,_,es,cl,h2,h3⟩:=map_obj r KF hA (zW hf hx)
 have h4:=(zW hf hk).scalar (KF.sc c)
 have two:∀{u v:Value} {b:Bool},Val φ (lens H) u v→Val φ (lens H) (.tuple #[u,B b]) (.tuple #[v,.bool b]):=fun {u v b} h=>by
  refine .tuple _ _ rfl fun i hi hi'=>?_
  match i,hi with
  |0,_=>exact h
  |1,_=>exact .bool b
 rcases h3.find KF c 0 with⟨g1,g2⟩|⟨j,e,v,g1,g2,g3,g4,g5⟩
 ·refine⟨.tuple #[z,.bool false],by rw[g2];exact two (Val.const hz),fun w1 hb=>?_⟩
  have h2':w1.heap[(φ A).b]?=some (.map es cl):=by rw[hb.block _ (r.lt hA)];exact h2
  unfold execOp
  simp only[ho,h1,h4,Instr.lookup,Sem.run_bind,run_underlying hT,Result.andThen_ok,MapKept.run_getObj_map h2',Sem.run_pure,run_checkKey hK (KF.is c),run_findKey hK g1,run_zeroValue hI,if_true]
 ·refine⟨.tuple #[e.val,.bool true],by rw[g4];exact two g5,fun w1 hb=>?_⟩
  have h2':w1.heap[(φ A).b]?=some (.map es cl):=by rw[hb.block _ (r.lt hA)];exact h2
  unfold execOp
  simp only[ho,h1,h4,Instr.lookup,Sem.run_bind,run_underlying hT,Result.andThen_ok,MapKept.run_getObj_map h2',Sem.run_pure,run_checkKey hK (KF.is c),run_findKey hK g1,if_true]
theorem e_insert [DecidableEq α](T:TypeId)(x k y:Operand){A K E:Nat}{d:TypeDesc}{kf:α→Value}{l:List (α × Value)}{c:α}{v:Value}(ho:o.op=.insert T x k y)(hx:ev a x=some (.map (some A)))(hk:ev a k=some (kf c))(hy:ev a y=some v)
  (hA:H[A]?=some (some ⟨mapC kf l,false⟩)) (hT:P.underlying T=some (.map K E)) (hK:P.underlying K=some d) (KF:KeyF d kf):AEff P N o a H undef (H.set A (some ⟨mapC kf (mput l c v),false⟩)):=by
 refine⟨fun B0 w0 φ w ac hr hf=>?_⟩
 have h:=(e_mapUpdate (P:=P) (N:=N) (o:={ o with op:=.mapUpdate T x k y }) T x k y rfl hx hk hy hA hT hK KF).go B0 w0 φ w ac hr hf
 have e:execOp ac.eval o=execOp ac.eval { o with op:=.mapUpdate T x k y }:=by unfold execOp;rw[ho]
 rw[e];exact h
end
section
variable {P:Program} {tt:TT} {sz:Nat} {ops:Array Oper} {Q:SPost} {rest:List Oper} {a:AF} {h h' h1:SH} {m:Mode} {t:Nat} {ty:TypeId} {pos:String} {aft:Array Edge}
theorem o_slice3e {T:Nat}{x w y z:Operand}{A off n len fl E s1 b1 s b:Nat}{z1 z2:Option Value}{i' j kk:IntKind}{i:Int}{tk:TK}(ht:tt.Ok P)(hx:ev a x=some (gsl A off n len fl))(hw:ev a w=some (.int i' i))(hy:ev a y=some (.int j i))(hz:ev a z=some (.int kk i))
  (hT:tt.get T=some ⟨.slice E,s1,b1,z1⟩) (hE:tt.get E=some ⟨tk,s,b,z2⟩) (hi:Sd (0≤i∧i≤len)) (hN:Nat.blt t sz=true) (k:GO m.next P sz ops Q rest ((t,sempty)::a) h):GO m P sz ops Q (⟨some t,.slice T x (some w) (some y) (some z),ty,pos,aft,none⟩::rest) a h :=
 o_pure (fun _ _ _ hag=>let ⟨_,hI,_⟩:=te_inf (TT.get_ok ht hE);a_slice3e T x w y z rfl ((hag.ev (by simp[Op.operands,Call.operands])).trans hx) ((hag.ev (by simp[Op.operands,Call.operands])).trans hw) ((hag.ev (by simp[Op.operands,Call.operands])).trans hy) ((hag.ev (by simp[Op.operands,Call.operands])).trans hz) (te_slice (TT.get_ok ht hT) rfl) hI hi.1) hN k
theorem o_copy0 {T U:Nat}{x y:Operand}{A2 off2 n2 E s1 b1 b:Nat}{z1 z2:Option Value}{tk:TK}(ht:tt.Ok P)(hx:ev a x=some sempty)(hy:ev a y=some (.slice (some ⟨A2,off2,none⟩) 0 (n2+1)))(hT:tt.get T=some ⟨.slice E,s1,b1,z1⟩)(hE:tt.get E=some ⟨tk,1,b,z2⟩)
  (hN:Nat.blt t sz=true) (k:GO m.next P sz ops Q rest ((t,I 0)::a) h):GO m P sz ops Q (⟨some t,.call { callee:=.builtin .copy,args:=#[x,y],argTypes:=#[T,U] },ty,pos,aft,none⟩::rest) a h :=
 o_pure (fun _ _ _ hag=>let ⟨_,hI,_⟩:=te_inf (TT.get_ok ht hE);e_copy0 T U x y (g2:=⟨[],true⟩) rfl ((hag.ev (by simp[Op.operands,Call.operands])).trans hx) ((hag.ev (by simp[Op.operands,Call.operands])).trans hy) (te_slice (TT.get_ok ht hT) rfl) hI) hN k
theorem o_copyf {T U:Nat}{x y:Operand}{A off n len fl A2 off2 n2 kk E s1 b1 b:Nat}{z1 z2:Option Value}{tk:TK}{cells cells' vs:List Value}{g2:Blk}(ht:tt.Ok P)(hx:ev a x=some (gsl A off n len fl))(hy:ev a y=some (.slice (some ⟨A2,off2,none⟩) kk (n2+1)))
  (hT:tt.get T=some ⟨.slice E,s1,b1,z1⟩) (hE:tt.get E=some ⟨tk,1,b,z2⟩) (hu:Upd h A ⟨cells,false⟩ ⟨cells',false⟩ h') (hp:Pick h A2 g2 h1) (hn:Ln (cells.length=n)) (hn2:Ln (g2.cells.length=n2)) (hk:Ln (len=kk)) (hl:Ln (vs.length=kk))
  (hpu:Pu (PutAt cells off vs cells')) (hc:Su (SubAt g2.cells off2 vs)) (h1':vs.all one=true) (hN:Nat.blt t sz=true) (hok:m.efOk ops h') (k:GO (m.ef h) P sz ops Q rest ((t,I kk)::a) h') :
  GO m P sz ops Q (⟨some t,.call { callee:=.builtin .copy,args:=#[x,y],argTypes:=#[T,U] },ty,pos,aft,none⟩::rest) a h:=by
 obtain⟨⟨h2,rfl⟩⟩:=hpu
 have hn1:=hn.1
 have hl1:=hl.1
 obtain⟨_,hI,_⟩:=te_inf (TT.get_ok ht hE)
 exact o_upd2 hN hu hp (fun _ _ _ hA hA2 hag=>e_copyf T U x y rfl ((hag.ev (by simp[Op.operands,Call.operands])).trans hx) ((hag.ev (by simp[Op.operands,Call.operands])).trans hy) (te_slice (TT.get_ok ht hT) rfl) hI hA hn.1 hA2 hn2.1 hk.1 hl.1 (by omega) hc.1 h1') hok k
end
section
variable {P:Program} {tt:TT} {sz:Nat} {ops:Array Oper} {Q:SPost} {rest:List Oper} {a:AF} {h h' h1:SH} {t:Nat} {ty:TypeId} {pos:String} {aft:Array Edge} {α:Type} {v:Value}
theorem o_lookupc [DecidableEq α]{T:Nat}{x y:Operand}{A K E s b:Nat}{tk:TK}{d:TypeDesc}{kf:α→Value}{l:List (α × Value)}{ro:Bool}{z:Value}{c:α}{f:Bool}(ht:tt.Ok P)(hx:ev a x=some (.map (some A)))(hp:Pick h A ⟨mapC kf l,ro⟩ h1)(hk:ev a y=some (kf c))
  (hT:P.underlying T=some (.map K E)) (hK:P.underlying K=some d) (KF:KeyF d kf) (hE:tt.get E=some ⟨tk,s,b,some z⟩) (hz:yJ z=true) (hr:(mget l c).getD z=v∧(mget l c).isSome=f) (hN:Nat.blt t sz=true)
  (k:GO .seq P sz ops Q rest ((t,.tuple #[v,B f])::a) h):GO .seq P sz ops Q (⟨some t,.lookup T x y true,ty,pos,aft,none⟩::rest) a h:=by
 obtain⟨_,hI,hz'⟩:=te_inf (TT.get_ok ht hE)
 obtain⟨rfl,rfl⟩:=hr
 exact o_read (m:=.seq) (fun h'=>∃h1,Pick h' A ⟨mapC kf l,ro⟩ h1) ⟨_,hp⟩ (fun _ _ _ _ _ i ⟨_,hp⟩ hag=>a_lookupc T x y rfl ((hag.ev (by simp[Op.operands,Call.operands])).trans hx) ((hag.ev (by simp[Op.operands,Call.operands])).trans hk) (i.look hp) hT hK KF (hz' _ rfl▸hI) hz) hN trivial k
theorem o_insert [DecidableEq α]{T:Nat}{x y z:Operand}{A K E:Nat}{d:TypeDesc}{kf:α→Value}{l:List (α × Value)}{c:α}(hx:ev a x=some (.map (some A)))(hu:Upd h A ⟨mapC kf l,false⟩ ⟨mapC kf (mput l c v),false⟩ h')(hk:ev a y=some (kf c))(hv:ev a z=some v)
  (hT:P.underlying T=some (.map K E)) (hK:P.underlying K=some d) (KF:KeyF d kf) (k:GO .seq P sz ops Q rest a h'):GO .seq P sz ops Q (⟨none,.insert T x y z,ty,pos,aft,none⟩::rest) a h :=
 o_upd (m:=.seq) rfl hu (fun _ _ _ hA hag=>e_insert T x y z rfl ((hag.ev (by simp[Op.operands,Call.operands])).trans hx) ((hag.ev (by simp[Op.operands,Call.operands])).trans hk) ((hag.ev (by simp[Op.operands,Call.operands])).trans hv) hA hT hK KF) trivial k
theorem o_insert0 [DecidableEq α]{T:Nat}{x y z:Operand}{A K E:Nat}{d:TypeDesc}{kf:α→Value}{c:α}(hx:ev a x=some (.map (some A)))(hu:Upd h A ⟨[],false⟩ ⟨mapC kf [(c,v)],false⟩ h')(hk:ev a y=some (kf c))(hv:ev a z=some v)
  (hT:P.underlying T=some (.map K E)) (hK:P.underlying K=some d) (KF:KeyF d kf) (k:GO .seq P sz ops Q rest a h'):GO .seq P sz ops Q (⟨none,.insert T x y z,ty,pos,aft,none⟩::rest) a h :=
 o_insert (l:=[]) hx hu hk hv hT hK KF k
end
end Go.Gh
end
section
set_option maxRecDepth 4000
namespace Go.Gh
open Go.RowKit

abbrev prF (x:Int × Int):List Value:=[I x.1,I x.2]
end Go.Gh
end
section
set_option maxRecDepth 4000
namespace Go.Proofs.YteddogfolceahaaGreat
open Go.Gh Go.RowKit

inductive GrO {α:Type}(f:α→Value)(h:SH):List α→Value→SH→Prop
 |nil:GrO f h [] (.slice none 0 0) h
 |some (A:Nat) (l:List α):GrO f h l (gsl A 0 l.length l.length 1) ((A,⟨l.map f,false⟩)::h)
section
variable {α:Type} {f:α→Value} {h q:SH} {l:List α} {v:Value}
theorem GrO.has (g:GrO f h l v q):Has q (l.map f) 1 l.length v∧Take q h:=by
 cases g with
 |nil=>exact⟨⟨none,0,rfl,fun k=>absurd rfl k⟩,.nil⟩
 |some A l=>exact⟨⟨_,_,rfl,fun _=>⟨A,false,h,by rw[Nat.one_mul],.head⟩⟩,.drop .nil⟩
theorem GrO.ofc {A n k:Nat}{c:List Value}(hc:c=l.map f)(hn:l.length=n)(hk:k=n):GrO f h l (gsl A 0 k n 1) ((A,⟨c,false⟩)::h):=by
 subst hc hn hk;exact .some A l
theorem GrO.sl (g:GrO f h l v q):∃ad fl,v=.slice ad l.length fl:=by
 obtain⟨ad,fl,e,_⟩:=g.has.1;exact⟨ad,fl,e⟩
end
theorem tk_bang {α:Type}[Inhabited α]{l:List α}{i:Nat}(h:i<l.length):l.take (i+1)=l.take i++[l[i]!]:=by
 rw[getElem!_pos l i h,List.take_succ_eq_append_getElem h]
theorem mm_bang {α:Type}[Inhabited α]{l:List α}{i:Nat}(h:i<l.length):l[i]!∈l:=by rw[getElem!_pos l i h];exact List.getElem_mem h
theorem set_prog {α:Type}[Inhabited α]{X:List α}{z:α}{i:Nat}(h:i<X.length):(X.take i++List.replicate (X.length-i) z).set i X[i]! = X.take (i+1)++List.replicate (X.length-(i+1)) z:=by
 have e1:(X.take i).length=i:=by simp;omega
 rw[List.set_append_right i X[i]! (by omega),e1,Nat.sub_self,show X.length-i=(X.length-(i+1))+1 by omega,List.replicate_succ,List.set_cons_zero,tk_bang h,List.append_assoc];rfl
theorem ihas_bang {α:Type}[Inhabited α]{p:α→Prop}{l:List α}(h:∀x∈l,p x){i:Nat}(hi:i<l.length):p l[i]!:=h _ (mm_bang hi)
def gps :Int→List Int→List Int
 |_,[]=>[]
 |a,t::r=>(t-a-1)::gps t r
theorem gps_len :∀(L:List Int) (a:Int),(gps a L).length=L.length
 |[],_=>rfl
 |t::r,a=>congrArg (·+1) (gps_len r t)
abbrev tok (x:Int):Prop:=0≤x∧x≤1099511627776
theorem gaps_any (L:List Int)(v:Value)(h:SH)(hv:Has h (nodes L) 1 L.length v)(hl:L.length≤4096)(hb:∀x∈L,tok x) :
  SRun Tryz.prog 89 [v] h fun r q=>∃A,r=gsl A 0 L.length L.length 1∧q=(A,⟨nodes (gps (-1) L),false⟩)::h:=by
 obtain⟨ad,fl,rfl,hh⟩:=hv
 have hlb:(nodes L).length=L.length:=by simp
 have hgl:=gps_len L (-1)
 obtain⟨X,hX⟩:∃X,gps (-1) L=X:=⟨_,rfl⟩
 rw[hX]at hgl ⊢
 have hz:zrow (I 0) (((L.length:Nat):Int).toNat*1)=nodes (X.take 0++List.replicate (X.length-0) 0):=by
  rw[List.take_zero,List.nil_append,Nat.sub_zero,hgl];exact map_zrow (f:=iV) 0 rfl rfl _
 refine zR Tryz.func89 rfl rfl ?_
 repeat'(first|apply zF|apply zB|apply zE|(apply o_g zC;exact rfl;exact rfl)|(apply o_makeSlice zC;(iterate 6 exact rfl);(focus decide);(focus first|omega);(focus first|exact hz);exact rfl)|apply zA|apply zH|((with_reducible apply Sd.mk);first|exact True.intro)|intro A)
 all_goals first|(exfalso;omega)|skip
 refine zZ (S:=Nat × Int) (fun s=>[(3,I s.2),(4,gsl A 0 (L.length*1) L.length 1),(10,.slice ad L.length fl),(11,I L.length),(12,I s.1)])
  (fun s=>(A,⟨nodes (X.take s.1++List.replicate (X.length-s.1) 0),false⟩)::h) (fun s=>s.1≤L.length∧-1≤s.2∧s.2≤1099511627776∧X.drop s.1=gps s.2 (L.drop s.1)) (fun s=>L.length-s.1) (0,-1) ⟨Nat.zero_le _,Int.le_refl _,by decide,hX.symm⟩ (by repeat'(first|exact trivial|refine⟨rfl,?_⟩|refine⟨congrArg some ?_,?_⟩)) (by repeat with_reducible first|exact Take.nil|apply Take.c|apply Take.drop) ?_
 rintro⟨i,a⟩ ⟨hi,ha1,ha2,hd⟩
 dsimp only at hi ha1 ha2 hd ⊢
 by_cases hil:i<L.length
 ·obtain⟨A',ro,h1,rfl,hp⟩:=hh (by omega)
  have hxb:=ihas_bang hb hil
  rw[drop_bang hil,drop_bang (show i<X.length by omega)]at hd
  obtain⟨hd1,hd2⟩:=List.cons.inj hd
  have hst:=set_prog (X:=X) (z:=0) (i:=i) (by omega)
  have hcl:(nodes L)[0+((i:Int)).toNat*1]?=some (I L[i]!):=yM hil
  rw[hd1]at hst
  generalize L[i]! = x at *
  have hml:(X.take i++List.replicate (X.length-i) 0).length=L.length:=by simp;omega
  have hlen:(nodes (X.take i++List.replicate (X.length-i) 0)).length=L.length*1:=by rw[List.length_map,hml,Nat.mul_one]
  have hset:SetAt (nodes (X.take i++List.replicate (X.length-i) 0)) (0+((i:Int)).toNat*1) (I (x-a-1)) (nodes (X.take (i+1)++List.replicate (X.length-(i+1)) 0)):=by
   rw[←hst];exact setAt_mapZ (by omega)
  repeat'(first|apply zF|apply zB|apply zE|(apply o_g zC;exact rfl;exact rfl)|(apply o_ar zC;exact rfl;exact rfl)|(apply zM zC;(iterate 3 exact rfl);(focus exact pk))|(apply zX zC;(iterate 4 exact rfl);(focus exact up))|(apply yC;exact rfl;(focus first|omega))|apply zA|apply zG|apply zI|apply zH|((with_reducible apply Sd.mk);first|exact True.intro|omega)|((with_reducible apply Ln.mk);first|omega|(simp[hlb,hlen];first|done|omega))|((with_reducible apply Wr.mk);first|exact IntWalk.i64_in _ (by omega))|((with_reducible apply Ce.mk);first|exact hcl)|((with_reducible apply Se.mk);first|exact hset)|exact True.intro|exact rfl)
  all_goals first
   |(exfalso;omega)
   |exact⟨(i+1,x),⟨hil,by show -1≤x;omega,by show x≤_;omega,hd2⟩,by show L.length-(i+1)<L.length-i;omega,(by repeat'(first|exact trivial|refine⟨rfl,?_⟩|refine⟨congrArg some ?_,?_⟩)),(by repeat with_reducible first|exact Take.nil|apply Take.c|apply Take.drop)⟩
 ·obtain rfl:i=L.length:=by omega
  have hfin:X.take L.length++List.replicate (X.length-L.length) 0=X:=by rw[←hgl,List.take_length,Nat.sub_self];simp
  rw[hfin]
  repeat'(first|apply zF|apply zB|apply zE|(apply o_g zC;exact rfl;exact rfl)|(apply yD;exact rfl;(focus first|omega))|apply zA|apply zK|apply zJ|apply zN|apply zV|((with_reducible apply Sd.mk);first|exact True.intro))
  all_goals first
   |(exfalso;omega)
   |(apply zL;(exact(show ResS _ _ _ _ [_] from⟨rfl,trivial⟩));(focus exact⟨A,congrArg (fun z=>gsl A 0 z L.length 1) (Nat.mul_one _),rfl⟩);(focus repeat with_reducible first|exact Take.nil|apply Take.c|apply Take.drop))
def jns :Int→List Int→List Int
 |_,[]=>[]
 |a,g::r=>(a+(g+1))::jns (a+(g+1)) r
def jok :Int→List Int→Prop
 |_,[]=>True
 |a,g::r=>(tok g∧a+(g+1)≤1099511627776)∧jok (a+(g+1)) r
instance decJok :∀(a:Int) (l:List Int),Decidable (jok a l)
 |_,[]=>inferInstanceAs (Decidable True)
 |a,g::r=>@instDecidableAnd _ (jok (a+(g+1)) r) inferInstance (decJok _ r)
theorem jns_len :∀(L:List Int) (a:Int),(jns a L).length=L.length
 |[],_=>rfl
 |t::r,a=>congrArg (·+1) (jns_len r _)
theorem join_any (L:List Int)(v:Value)(h:SH)(hv:Has h (nodes L) 1 L.length v)(hl:L.length≤4096)(hj:jok (-1) L) :
  SRun Tryz.prog 101 [v] h fun r q=>∃A,r=.tuple #[gsl A 0 L.length L.length 1,B true]∧q=(A,⟨nodes (jns (-1) L),false⟩)::h:=by
 obtain⟨ad,fl,rfl,hh⟩:=hv
 have hlb:(nodes L).length=L.length:=by simp
 have hgl:=jns_len L (-1)
 obtain⟨X,hX⟩:∃X,jns (-1) L=X:=⟨_,rfl⟩
 rw[hX]at hgl ⊢
 have hz:zrow (I 0) (((L.length:Nat):Int).toNat*1)=nodes (X.take 0++List.replicate (X.length-0) 0):=by
  rw[List.take_zero,List.nil_append,Nat.sub_zero,hgl];exact map_zrow (f:=iV) 0 rfl rfl _
 refine zR Tryz.func101 rfl rfl ?_
 repeat'(first|apply zF|apply zB|apply zE|(apply o_g zC;exact rfl;exact rfl)|(apply o_makeSlice zC;(iterate 6 exact rfl);(focus decide);(focus first|omega);(focus first|exact hz);exact rfl)|apply zA|apply zH|((with_reducible apply Sd.mk);first|exact True.intro)|intro A)
 all_goals first|(exfalso;omega)|skip
 refine zZ (S:=Nat × Int) (fun s=>[(4,I s.2),(5,gsl A 0 (L.length*1) L.length 1),(11,.slice ad L.length fl),(12,I L.length),(13,I s.1)])
  (fun s=>(A,⟨nodes (X.take s.1++List.replicate (X.length-s.1) 0),false⟩)::h) (fun s=>s.1≤L.length∧-1≤s.2∧s.2≤1099511627776∧X.drop s.1=jns s.2 (L.drop s.1)∧jok s.2 (L.drop s.1)) (fun s=>L.length-s.1) (0,-1) ⟨Nat.zero_le _,Int.le_refl _,by decide,hX.symm,hj⟩ (by repeat'(first|exact trivial|refine⟨rfl,?_⟩|refine⟨congrArg some ?_,?_⟩)) (by repeat with_reducible first|exact Take.nil|apply Take.c|apply Take.drop) ?_
 rintro⟨i,a⟩ ⟨hi,ha1,ha2,hd,hk⟩
 dsimp only at hi ha1 ha2 hd hk ⊢
 by_cases hil:i<L.length
 ·obtain⟨A',ro,h1,rfl,hp⟩:=hh (by omega)
  rw[drop_bang hil]at hk
  rw[drop_bang hil,drop_bang (show i<X.length by omega)]at hd
  obtain⟨hd1,hd2⟩:=List.cons.inj hd
  obtain⟨⟨hk1,hk2⟩,hk3⟩:=hk
  have hst:=set_prog (X:=X) (z:=0) (i:=i) (by omega)
  have hcl:(nodes L)[0+((i:Int)).toNat*1]?=some (I L[i]!):=yM hil
  rw[hd1]at hst
  generalize L[i]! = x at *
  have hml:(X.take i++List.replicate (X.length-i) 0).length=L.length:=by simp;omega
  have hlen:(nodes (X.take i++List.replicate (X.length-i) 0)).length=L.length*1:=by rw[List.length_map,hml,Nat.mul_one]
  have hset:SetAt (nodes (X.take i++List.replicate (X.length-i) 0)) (0+((i:Int)).toNat*1) (I (a+(x+1))) (nodes (X.take (i+1)++List.replicate (X.length-(i+1)) 0)):=by
   rw[←hst];exact setAt_mapZ (by omega)
  repeat'(first|apply zF|apply zB|apply zE|(apply o_g zC;exact rfl;exact rfl)|(apply o_ar zC;exact rfl;exact rfl)|(apply zM zC;(iterate 3 exact rfl);(focus exact pk))|(apply zX zC;(iterate 4 exact rfl);(focus exact up))|(apply zU;exact rfl;exact rfl)|(apply o_gF;(iterate 3 exact rfl);(focus first|omega))|(apply yC;exact rfl;(focus first|omega))|(apply yD;exact rfl;(focus first|omega))|apply zA|apply zG|apply zI|apply zH|((with_reducible apply Sd.mk);first|exact True.intro|omega)|((with_reducible apply Ln.mk);first|omega|(simp[hlb,hlen];first|done|omega))|((with_reducible apply Wr.mk);first|exact IntWalk.i64_in _ (by omega))|((with_reducible apply Ce.mk);first|exact hcl)|((with_reducible apply Se.mk);first|exact hset)|exact True.intro|exact rfl)
  all_goals first
   |(exfalso;omega)
   |exact⟨(i+1,a+(x+1)),⟨hil,by show -1≤a+(x+1);omega,hk2,hd2,hk3⟩,by show L.length-(i+1)<L.length-i;omega,(by repeat'(first|exact trivial|refine⟨rfl,?_⟩|refine⟨congrArg some ?_,?_⟩)),(by repeat with_reducible first|exact Take.nil|apply Take.c|apply Take.drop)⟩
 ·obtain rfl:i=L.length:=by omega
  have hfin:X.take L.length++List.replicate (X.length-L.length) 0=X:=by rw[←hgl,List.take_length,Nat.sub_self];simp
  rw[hfin]
  repeat'(first|apply zF|apply zB|apply zE|(apply o_g zC;exact rfl;exact rfl)|(apply yD;exact rfl;(focus first|omega))|apply zA|apply zK|apply zJ|apply zN|apply zV|((with_reducible apply Sd.mk);first|exact True.intro))
  all_goals first
   |(exfalso;omega)
   |(apply zL;(exact(show ResS _ _ _ _ [_,_] from⟨rfl,⟨rfl,trivial⟩⟩));(focus exact⟨A,congr (congrArg (fun(z:Nat) (b:Bool)=>Value.tuple #[gsl A 0 z L.length 1,B b]) (Nat.mul_one _)) (decide_eq_true (by omega)),rfl⟩);(focus repeat with_reducible first|exact Take.nil|apply Take.c|apply Take.drop))
def inc :Int→List Int→Prop
 |_,[]=>True
 |a,t::r=>(a<t∧t≤1099511627776)∧inc t r
instance decInc :∀(a:Int) (l:List Int),Decidable (inc a l)
 |_,[]=>inferInstanceAs (Decidable True)
 |_,t::r=>@instDecidableAnd _ (inc t r) inferInstance (decInc t r)
theorem inc_tok :∀{l:List Int} {a:Int},-1≤a→inc a l→∀x∈l,tok x
 |[],_,_,_=>by simp
 |t::r,a,ha,h=>by
  intro x hx
  rcases List.mem_cons.1 hx with rfl|hx
  ·exact⟨by have:=h.1.1;omega,h.1.2⟩
  ·exact inc_tok (by have:=h.1.1;omega) h.2 x hx
theorem TValid_any (L:List Int)(v:Value)(h:SH)(hv:Has h (nodes L) 1 L.length v)(hl:L.length≤4096)(hj:inc (-1) L) :
  SRun Tryz.prog 52 [v] h fun r q=>r=B true∧q=h:=by
 obtain⟨ad,fl,rfl,hh⟩:=hv
 have hlb:(nodes L).length=L.length:=by simp
 refine zR Tryz.func52 rfl rfl ?_
 repeat'(first|apply zF|apply zB|apply zE|(apply o_g zC;exact rfl;exact rfl)|apply zA|apply zH|((with_reducible apply Sd.mk);first|exact True.intro))
 all_goals first|(exfalso;omega)|skip
 refine zZ (S:=Nat × Int) (fun s=>[(0,.slice ad L.length fl),(3,I s.2),(6,.slice ad L.length fl),(7,I L.length),(8,I s.1)])
  (fun _=>h) (fun s=>s.1≤L.length∧inc s.2 (L.drop s.1)) (fun s=>L.length-s.1) (0,-1) ⟨Nat.zero_le _,hj⟩ (by repeat'(first|exact trivial|refine⟨rfl,?_⟩|refine⟨congrArg some ?_,?_⟩)) (by repeat with_reducible first|exact Take.nil|apply Take.c|apply Take.drop) ?_
 rintro⟨i,a⟩ ⟨hi,hk⟩
 dsimp only at hi hk ⊢
 by_cases hil:i<L.length
 ·obtain⟨A',ro,h1,rfl,hp⟩:=hh (by omega)
  rw[drop_bang hil]at hk
  obtain⟨⟨hk1,hk2⟩,hk3⟩:=hk
  have hcl:(nodes L)[0+((i:Int)).toNat*1]?=some (I L[i]!):=yM hil
  generalize L[i]! = x at *
  repeat'(first|apply zF|apply zB|apply zE|(apply o_g zC;exact rfl;exact rfl)|(apply o_ar zC;exact rfl;exact rfl)|(apply zM zC;(iterate 3 exact rfl);(focus exact pk))|(apply zU;exact rfl;exact rfl)|(apply o_gF;(iterate 3 exact rfl);(focus first|omega))|(apply yC;exact rfl;(focus first|omega))|(apply yD;exact rfl;(focus first|omega))|apply zA|apply zG|apply zI|apply zH|((with_reducible apply Sd.mk);first|exact True.intro|omega)|((with_reducible apply Ln.mk);first|(simp[hlb];first|done|omega))|((with_reducible apply Wr.mk);first|exact IntWalk.i64_in _ (by omega))|((with_reducible apply Ce.mk);first|exact ‹_›)|exact True.intro|exact rfl)
  all_goals first
   |(exfalso;omega)
   |exact⟨(i+1,x),⟨hil,hk3⟩,by show L.length-(i+1)<L.length-i;omega,(by repeat'(first|exact trivial|refine⟨rfl,?_⟩|refine⟨congrArg some ?_,?_⟩)),(by repeat with_reducible first|exact Take.nil|apply Take.c|apply Take.drop)⟩
 ·obtain rfl:i=L.length:=by omega
  repeat'(first|apply zF|apply zB|apply zE|(apply o_g zC;exact rfl;exact rfl)|(apply yD;exact rfl;(focus first|omega))|apply zA|apply zK|apply zJ|apply zN|apply zV|((with_reducible apply Sd.mk);first|exact True.intro))
  all_goals first
   |(exfalso;omega)
   |(apply zL;(exact(show ResS _ _ _ _ [_] from⟨rfl,trivial⟩));(focus exact⟨congrArg B (decide_eq_true (by omega)),rfl⟩);(focus repeat with_reducible first|exact Take.nil|apply Take.c|apply Take.drop))
end Go.Proofs.YteddogfolceahaaGreat
end
