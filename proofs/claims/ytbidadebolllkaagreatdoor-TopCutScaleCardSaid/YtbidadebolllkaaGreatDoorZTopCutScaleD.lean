/- Part 4 of the proof of the law TopCutScale: texts merged. No condition. -/
import Derived.Test.YtbidadebolllkaaGreatDoorZTopCutScaleC
import Derived.MapKept
import Derived.ProofKit
import Derived.Shelf.Strings.Builder1
import Derived.Shelf.Strings.Builder2
import Derived.Shelf.Strings.OnBuilder
import Derived.Shelf.Small.Utf8
import Derived.Shelf.Small.Strs
import Derived.Shelf.Strings.BuilderF
import Derived.Shelf.Strconv.Itoa0
import Derived.Shelf.Strconv.Itoa1
import Derived.Shelf.LaysM
import Derived.Shelf.Strconv.Itoa2
import Derived.Shelf.Strconv.Itoa3
import Derived.Shelf.Strings.Search1
import Derived.Shelf.Strings.Search2
import Derived.Shelf.Strings.Search3
import Derived.Shelf.Strings.Count
import Derived.Shelf.Strings.Shaped
import Derived.Shelf.Strings.Prefix
import Derived.Shelf.Strings.Runes
import Derived.Shelf.Strings.IndexAny
import Derived.Shelf.Strings.AsciiSet
import Derived.Shelf.Strings.IndexAnyAll
import Derived.Shelf.Bits.Mul64
import Derived.Shelf.Strings.Repeat
import Derived.Shelf.Unicode.DecodeSlow
import Derived.Test.YtbidadebolllkaaGreatDoorProg
import Derived.Lib.ItoaNum
import Derived.Lib.AppendStr
import Derived.Laws.Append
import Derived.Lib.ItoaLen
set_option linter.unusedSimpArgs false
set_option linter.unusedVariables false
section
set_option maxRecDepth 4000
namespace Go.Gh
open Go.RowKit

inductive VR (ρ:Nat->Nat)(D:Nat->Prop):Value->Value->Prop
 |const {v} (h:yB v=true):VR ρ D v v
 |ptr {A o n} (h:D A):VR ρ D (.pointer (some ⟨A,o,some n⟩)) (.pointer (some ⟨ρ A,o,some n⟩))
 |slc {A o n len fl} (h:D A):VR ρ D (.slice (some ⟨A,o,some n⟩) len fl) (.slice (some ⟨ρ A,o,some n⟩) len fl)
 |sdead:VR ρ D (.slice (some ⟨0,0,none⟩) 0 0) (.slice (some ⟨0,0,none⟩) 0 0)
 |ful {A o len fl} (h:D A):VR ρ D (.slice (some ⟨A,o,none⟩) len (fl+1)) (.slice (some ⟨ρ A,o,none⟩) len (fl+1))
 |agg {a b:Array Value} (h1:a.size=b.size) (h2:∀i (h:i<a.size) (h':i<b.size),VR ρ D a[i] b[i]):VR ρ D (.agg a) (.agg b)
 |tuple {a b:Array Value} (h1:a.size=b.size) (h2:∀i (h:i<a.size) (h':i<b.size),VR ρ D a[i] b[i]):VR ρ D (.tuple a) (.tuple b)
 |func {f:Fn} {a b c d:Array Value} (h1:a.size=b.size) (h2:∀i (h:i<a.size) (h':i<b.size),VR ρ D a[i] b[i])
   (h3:c.size=d.size) (h4:∀i (h:i<c.size) (h':i<d.size),VR ρ D c[i] d[i]):VR ρ D (.func f a c) (.func f b d)
inductive VRs (ρ:Nat->Nat)(D:Nat->Prop):List Value->List Value->Prop
 |nil:VRs ρ D [] []
 |cons {u v l m} (h:VR ρ D u v) (k:VRs ρ D l m):VRs ρ D (u::l) (v::m)
theorem VRs.len {ρ:Nat->Nat}{D:Nat->Prop}{l m:List Value}(h:VRs ρ D l m):l.length=m.length:=by
 induction h with
 |nil=>rfl
 |cons _ _ ih=>simp[ih]
theorem VRs.get {ρ:Nat->Nat}{D:Nat->Prop}{l m:List Value}(h:VRs ρ D l m):∀{i:Nat} {u:Value},l[i]?=some u->∃v,m[i]?=some v/\VR ρ D u v:=by
 induction h with
 |nil=>intro i u h;simp at h
 |@cons u v l m h _ ih =>
  intro i w hw;cases i with
  |zero=>simp only[List.getElem?_cons_zero,Option.some.injEq]at hw;subst hw;exact⟨v,rfl,h⟩
  |succ i=>exact ih (by simpa using hw)
theorem VRs.at {ρ:Nat->Nat}{D:Nat->Prop}{l m:List Value}(h:VRs ρ D l m)(i:Nat)(h1:i<(Array.mk l).size)(h2:i<(Array.mk m).size):VR ρ D (Array.mk l)[i] (Array.mk m)[i]:=by
 obtain⟨v,g1,g2⟩:=h.get (i:=i) (u:=l[i]'(by simpa using h1)) (List.getElem?_eq_getElem _);have:(Array.mk m)[i]=v:=by
  have h2':i<m.length:=by simpa using h2
  rw[List.getElem?_eq_getElem h2']at g1;simpa using g1
 rw[this];exact g2
theorem VRs.agg {ρ:Nat->Nat}{D:Nat->Prop}{l m:List Value}(h:VRs ρ D l m):VR ρ D (.agg ⟨l⟩) (.agg ⟨m⟩):=.agg (by simpa using h.len) h.at
theorem VRs.tuple {ρ:Nat->Nat}{D:Nat->Prop}{l m:List Value}(h:VRs ρ D l m):VR ρ D (.tuple ⟨l⟩) (.tuple ⟨m⟩):=.tuple (by simpa using h.len) h.at
theorem VRs.const {ρ:Nat->Nat}{D:Nat->Prop}:∀{l:List Value},(∀v∈l,yB v=true)->VRs ρ D l l
 |[],_=>.nil
 |_::_,h=>.cons (.const (h _ List.mem_cons_self)) (VRs.const λv hv=>h v (List.mem_cons_of_mem _ hv))
theorem VRs.app {ρ:Nat->Nat}{D:Nat->Prop}{l m l' m':List Value}(h:VRs ρ D l m)(k:VRs ρ D l' m'):VRs ρ D (l++l') (m++m'):=by
 induction h with
 |nil=>exact k
 |cons h _ ih=>exact .cons h ih
theorem VR.val {ρ:Nat->Nat}{D:Nat->Prop}{φ:Fi}{L L':zP}{u v:Value}(h:VR ρ D u v)(hD:∀A,D A->L' A=L (ρ A)):∀{v':Value},Val φ L v v'->Val ⟨λA=>φ (ρ A),φ.mks⟩ L' u v':=by
 induction h with
 |const hc=>intro v' hv;rw[Val.det hc hv];exact Val.const hc
 |@ptr A o n h =>
  intro v' hv;generalize hq:Value.pointer (some ⟨ρ A,o,some n⟩)=q at hv;cases hv with
  |ptr A' o' v' n' c hL hv h'=>cases hq;exact .ptr _ _ _ _ _ (by rw[hD _ h];exact hL) hv h'
  |_=>cases hq
 |@slc A o n len fl h =>
  intro v' hv;generalize hq:Value.slice (some ⟨ρ A,o,some n⟩) len fl=q at hv;cases hv with
  |slc A' o' v' n' len' fl' cap c hL hv hc hm h'=>cases hq;exact .slc _ _ _ _ _ _ _ _ (by rw[hD _ h];exact hL) hv hc hm h'
  |sdead=>simp at hq
  |_=>cases hq
 |sdead=>intro v' hv;cases hv with|sdead c cap hm=>exact .sdead c cap hm
 |@ful A o len fl h =>
  intro v' hv;generalize hq:Value.slice (some ⟨ρ A,o,none⟩) len (fl+1)=q at hv;cases hv with
  |full A' o' v' n' len' c hL hv hm h'=>cases hq;exact .full _ _ _ _ _ _ (by rw[hD _ h];exact hL) hv hm h'
  |sdead=>simp at hq
  |_=>cases hq
 |agg h1 _ ih=>intro v' hv;cases hv with|agg a b g1 g2=>exact .agg _ _ (h1.trans g1) λi hi hi'=>ih i hi (by omega) (g2 i (by omega) hi')
 |tuple h1 _ ih=>intro v' hv;cases hv with|tuple a b g1 g2=>exact .tuple _ _ (h1.trans g1) λi hi hi'=>ih i hi (by omega) (g2 i (by omega) hi')
 |func h1 _ h3 _ ih1 ih2 =>
  intro v' hv;cases hv with
  |func f a b c d g1 g2 g3 g4=>exact .func _ _ _ _ _ (h1.trans g1) (λi hi hi'=>ih1 i hi (by omega) (g2 i (by omega) hi')) (h3.trans g3) λi hi hi'=>ih2 i hi (by omega) (g4 i (by omega) hi')
theorem yDd {D:Nat->Prop}{φ φ1 φ2:Fi}{L L1 L2:zP}(hL:∀A m,L A=some m->D A)(h12:∀A,D A->φ2 A=φ1 A/\L2 A=L1 A){v v':Value}(h:Val φ1 L1 v v'):∀{v0:Value},Val φ L v v0->Val φ2 L2 v v':=by
 induction h with
 |bool b=>intro v0 _;exact .bool b
 |int k n=>intro v0 _;exact .int k n
 |str s=>intro v0 _;exact .str s
 |pnil=>intro v0 _;exact .pnil
 |ptr A o v n c h1 h2 h3 =>
  intro v0 h0;generalize hq:Value.pointer (some ⟨A,o,some v⟩)=q at h0;cases h0 with
  |ptr A' o' v' n' c' hL' hv' h' =>
   cases hq;obtain⟨e1,e2⟩:=h12 _ (hL _ _ hL');exact .ptr _ _ _ _ _ (by rw[e2];exact h1) h2 (by rw[e1];exact h3)
  |_=>cases hq
 |snil=>intro v0 _;exact .snil
 |slc A o v n len fl cap c h1 h2 hc hm h3 =>
  intro v0 h0;generalize hq:Value.slice (some ⟨A,o,some v⟩) len fl=q at h0;cases h0 with
  |slc A' o' v' n' len' fl' cap' c' hL' hv' hc' hm' h' =>
   cases hq;obtain⟨e1,e2⟩:=h12 _ (hL _ _ hL');exact .slc _ _ _ _ _ _ _ _ (by rw[e2];exact h1) h2 hc hm (by rw[e1];exact h3)
  |_=>cases hq
 |full A o v n len c h1 h2 hm h3 =>
  intro v0 h0;generalize hq:Value.slice (some ⟨A,o,none⟩) len (v+1)=q at h0;cases h0 with
  |full A' o' v' n' len' c' hL' hv' hm' h' =>
   cases hq;obtain⟨e1,e2⟩:=h12 _ (hL _ _ hL');exact .full _ _ _ _ _ _ (by rw[e2];exact h1) h2 hm (by rw[e1];exact h3)
  |sdead=>simp at hq
  |_=>cases hq
 |map A n r h1 h3 =>
  intro v0 h0;generalize hq:Value.map (some A)=q at h0;cases h0 with
  |map A' n' r' hL' h' =>
   cases hq;obtain⟨e1,e2⟩:=h12 _ (hL _ _ hL');exact .map _ n _ (by rw[e2];exact h1) (by rw[e1];exact h3)
  |_=>cases hq
 |yld A n r h1 h3 =>
  intro v0 h0;generalize hq:Value.chan (some A)=q at h0;cases h0 with
  |yld A' n' r' hL' h' =>
   cases hq;obtain⟨e1,e2⟩:=h12 _ (hL _ _ hL');exact .yld _ n _ (by rw[e2];exact h1) (by rw[e1];exact h3)
  |_=>cases hq
 |itr A n r h1 h3 =>
  intro v0 h0;generalize hq:Value.complex .f64 A 0=q at h0;cases h0 with
  |itr A' n' r' hL' h' =>
   cases hq;obtain⟨e1,e2⟩:=h12 _ (hL _ _ hL');exact .itr _ n _ (by rw[e2];exact h1) (by rw[e1];exact h3)
  |_=>cases hq
 |bag A n r h1 h3 =>
  intro v0 h0;generalize hq:Value.complex .f32 A 0=q at h0;cases h0 with
  |bag A' n' r' hL' h' =>
   cases hq;obtain⟨e1,e2⟩:=h12 _ (hL _ _ hL');exact .bag _ n _ (by rw[e2];exact h1) (by rw[e1];exact h3)
  |_=>cases hq
 |sdead c cap hm=>intro v0 _;exact .sdead c cap hm
 |mnil=>intro v0 _;exact .mnil
 |func f a b c d h1 _ h3 _ ih1 ih2 =>
  intro v0 h0;cases h0 with
  |func _ _ b' _ d' g1 g2 g3 g4=>exact .func f a b c d h1 (λi hi hi'=>ih1 i hi hi' (g2 i hi (by omega))) h3 (λi hi hi'=>ih2 i hi hi' (g4 i hi (by omega)))
 |fnil=>intro v0 _;exact .fnil
 |inil=>intro v0 _;exact .inil
 |iface t v v' _ ih=>intro v0 h0;cases h0 with|iface _ _ _ h=>exact .iface t v v' (ih h)
 |agg a b h1 _ ih=>intro v0 h0;cases h0 with|agg _ b' g1 g2=>exact .agg a b h1 λi hi hi'=>ih i hi hi' (g2 i hi (by omega))
 |tuple a b h1 _ ih=>intro v0 h0;cases h0 with|tuple _ b' g1 g2=>exact .tuple a b h1 λi hi hi'=>ih i hi hi' (g2 i hi (by omega))

inductive SHR (ρ:Nat->Nat)(D:Nat->Prop)(p:SH):SH->SH->Prop
 |nil:SHR ρ D p [] []
 |same {h} (k:∀x∈h,x∈p):SHR ρ D p h h
 |cons {A A' c c' ro h h'} (e:ρ A=A') (h1:VRs ρ D c c') (k:SHR ρ D p h h'):SHR ρ D p ((A,⟨c,ro⟩)::h) ((A',⟨c',ro⟩)::h')
 |keep {x h h'} (e:x∈p) (k:SHR ρ D p h h'):SHR ρ D p (x::h) (x::h')
theorem SHR.get {ρ:Nat->Nat}{D:Nat->Prop}{p h h':SH}(k:SHR ρ D p h h')(hp:∀y∈p,ρ y.1=y.1):∀x∈h,(x∈p/\x∈h')\/∃c',(ρ x.1,⟨c',x.2.ro⟩)∈h'/\VRs ρ D x.2.cells c':=by
 induction k with
 |nil=>intro x hx;cases hx
 |same k=>intro x hx;exact .inl ⟨k x hx,hx⟩
 |cons e h1 _ ih =>
  intro x hx;rcases List.mem_cons.1 hx with rfl|hx
  ·exact .inr ⟨_,by rw[e];exact List.mem_cons_self,h1⟩
  ·rcases ih x hx with⟨g1,g2⟩|⟨c',g1,g2⟩
   ·exact .inl ⟨g1,List.mem_cons_of_mem _ g2⟩
   ·exact .inr ⟨c',List.mem_cons_of_mem _ g1,g2⟩
 |keep e _ ih =>
  intro x hx;rcases List.mem_cons.1 hx with rfl|hx
  ·exact .inl ⟨e,List.mem_cons_self⟩
  ·rcases ih x hx with⟨g1,g2⟩|⟨c',g1,g2⟩
   ·exact .inl ⟨g1,List.mem_cons_of_mem _ g2⟩
   ·exact .inr ⟨c',List.mem_cons_of_mem _ g1,g2⟩

def look (g:SH)(A:Nat):Option Blk:=(g.find? λx=>Nat.beq x.1 A).map (·.2)
theorem zPh {g:SH}{A:Nat}{b:Blk}(h:look g A=some b):(A,b)∈g:=by
 unfold look at h;cases hf:g.find? λx=>Nat.beq x.1 A with
 |none=>rw[hf]at h;cases h
 |some x =>
  rw[hf]at h;simp only[Option.map_some,Option.some.injEq]at h;have h1:=List.mem_of_find?_eq_some hf;have h2:=Nat.eq_of_beq_eq_true (List.find?_some (p:=λx:Nat × Blk=>Nat.beq x.1 A) hf);rw[<-h2,<-h];exact h1
theorem zWh {g:SH}(hn:(g.map (·.1)).Nodup){A:Nat}{b:Blk}(h:(A,b)∈g):look g A=some b:=by
 induction g with
 |nil=>cases h
 |cons x g ih =>
  simp only[List.map_cons,List.nodup_cons]at hn;unfold look;rw[List.find?_cons];rcases List.mem_cons.1 h with rfl|h
  ·simp[Nat.beq_refl]
  ·have hne:x.1≠A:=λe=>hn.1 (List.mem_map.2 ⟨_,h,e.symm⟩)
   rw[show Nat.beq x.1 A=false from by
    cases hb:Nat.beq x.1 A with
    |true=>exact absurd (Nat.eq_of_beq_eq_true hb) hne
    |false=>rfl]
   exact ih hn.2 h
def gB (H:zI)(g:SH)(k:Nat):zI:=(List.range (H.length+k)).map λA=>match look g A with|some b=>some b|none=>H.getD A none
theorem gY {H:zI}{g:SH}{k:Nat}:(gB H g k).length=H.length+k:=by simp[gB]
theorem zHg {H:zI}{g:SH}{k A:Nat}(h:A<H.length+k):(gB H g k)[A]?=some (match look g A with|some b=>some b|none=>H.getD A none):=by
 unfold gB;rw[List.getElem?_map,List.getElem?_range h];rfl

theorem zYq {l m:List Nat}{g:List Nat}(hp:g.Perm (l++m))(hn:g.Nodup):(∀x∈l,x ∉ m)/\l.Nodup:=by
 have:=hp.nodup_iff.1 hn;rw[List.nodup_append]at this;exact⟨λx hx hm=>this.2.2 x hx x hm rfl,this.1⟩

theorem yEy {P:Program}{f:FuncId}{as0:List Value}{p:SH}{R:Value->SH->Prop}(hr:zH P f as0 p R){H H':zI}{n:Nat}(i:Inv ⟨H,p⟩ p H){k:Nat}{V:List Nat->Value}{G:List Nat->SH}
  (hfun:∀r q,R r q->∃ns,ns.length=k/\r=V ns/\zA q (G ns)) (hkeys:∀ns,ns.length=k->((G ns).map (·.1)).Perm (ns++p.map (·.1)))
  (hpar:∀(ns ms:List Nat) (ρ:Nat->Nat) (D:Nat->Prop),ns.length=k->ms.length=k->ms.map ρ=ns->(∀y∈p,ρ y.1=y.1)->(∀A∈ms,D A)->(∀y∈p,D y.1)->(∀y∈p,∀ad len fl,Value.slice ad len fl∈y.2.cells->VR ρ D (.slice ad len fl) (.slice ad len fl))->VR ρ D (V ms) (V ns)/\SHR ρ D p (G ms) (G ns))
  (hfree:∀A,n<=A->A<n+k->∀g,H[A]?≠some (some g)) (hin:∀x∈G (List.range' n k),H'[x.1]?=some (some x.2)) (hoth:∀A,(∀x∈G (List.range' n k),x.1≠A)->∀g,H'[A]?=some (some g)↔H[A]?=some (some g))
  {B0:Nat} {w0 w:World} {φ:Fi} {vs:Array Value} (hrel:Rel B0 w0 φ H w) (hvs:yM φ (lens H) as0 vs) :
  Calls P f vs w λe w'=>∃φ' v',Ext φ (lens H) φ' (lens H')/\Rel B0 w0 φ' H' w'/\e=.returned v'/\Val φ' (lens H') (V (List.range' n k)) v':=by
 unfold zH at hr;have h1:=hr H i;unfold Run at h1;refine(h1 B0 w0 φ (lens H) φ w vs (.refl _ _) hrel hvs).mono ?_;rintro e w' ⟨φ2,r,H2,v,hext,hrel2,rfl,hv,q,hR,i2⟩;obtain⟨ns,hk,rfl,ht⟩:=hfun r q hR;have i3:=i2.le ht.le;generalize hms:List.range' n k=ms at hin hoth ⊢;have hmk:ms.length=k:=by rw[<-hms,List.length_range']
 have hmem:∀A,A∈ms↔n<=A/\A<n+k:=λA=>by rw[<-hms,List.mem_range'_1]
 
 have hpk:=hkeys ns hk;have hpm:=hkeys ms hmk;obtain⟨hdis,hnd⟩:=zYq hpk i3.nd;have hpold:∀y∈p,y.1<H.length:=λy hy=>(List.getElem?_eq_some_iff.1 (i.sat y hy)).1;have hpms:∀y∈p,y.1 ∉ ms:=λy hy h=>hfree y.1 ((hmem _).1 h).1 ((hmem _).1 h).2 y.2 (i.sat y hy);have hns:∀x∈ns,H.length<=x:=by
  intro x hx;rcases Nat.lt_or_ge x H.length with hlt|hge
  ·obtain⟨b,hb,e⟩:=List.mem_map.1 (hpk.mem_iff.2 (List.mem_append_left _ hx))
   obtain⟨y,hy,e2⟩:=i3.own b hb (by simp only;omega);exact absurd (List.mem_map.2 ⟨y,hy,by omega⟩) (hdis x hx)
  ·exact hge
 let ρ:Nat->Nat:=λA=>if n<=A/\A<n+k then ns.getD (A-n) 0 else A
 have hρo:∀A,A ∉ ms->ρ A=A:=λA h=>if_neg (λk=>h ((hmem A).2 k));have hρe:∀A,A∈ms->ρ A=ns.getD (A-n) 0:=λA h=>if_pos ((hmem A).1 h);have hρn:∀A,A∈ms->ρ A∈ns:=λA h=>by
  obtain⟨g1,g2⟩:=(hmem A).1 h;rw[hρe A h,List.getD_eq_getElem?_getD,List.getElem?_eq_getElem (by omega)];exact List.getElem_mem _
 have hmap:ms.map ρ=ns:=by
  apply List.ext_getElem?;intro j;rw[List.getElem?_map];rcases Nat.lt_or_ge j k with hj|hj
  ·have e1:ms[j]?=some (n+j):=by rw[<-hms,List.getElem?_range' hj,Nat.one_mul]
   rw[e1,Option.map_some,hρe _ ((hmem _).2 ⟨by omega,by omega⟩),Nat.add_sub_cancel_left,List.getD_eq_getElem?_getD,List.getElem?_eq_getElem (by omega)];rfl
  ·rw[List.getElem?_eq_none (by omega),List.getElem?_eq_none (by omega)];rfl
 have hρinj:∀A A',(A∈ms\/A<H.length)->(A'∈ms\/A'<H.length)->ρ A=ρ A'->A=A':=by
  intro A A' hA hA' he;by_cases h1:A∈ms <;> by_cases h2:A'∈ms
  ·rw[hρe A h1,hρe A' h2]at he
   obtain⟨a1,a2⟩:=(hmem A).1 h1;obtain⟨b1,b2⟩:=(hmem A').1 h2;rw[List.getD_eq_getElem?_getD,List.getD_eq_getElem?_getD,List.getElem?_eq_getElem (by omega),List.getElem?_eq_getElem (by omega)]at he;have he':ns[A-n]'(by omega)=ns[A'-n]'(by omega):=he;have hpw:=List.pairwise_iff_getElem.1 hnd;rcases Nat.lt_trichotomy (A-n) (A'-n)with h|h|h
   ·exact absurd he' (hpw _ _ (by omega) (by omega) h)
   ·omega
   ·exact absurd he'.symm (hpw _ _ (by omega) (by omega) h)
  ·rw[hρo A' h2]at he
   have:=hns _ (hρn A h1);rcases hA' with h|h
   ·exact absurd h h2
   ·omega
  ·rw[hρo A h1]at he
   have:=hns _ (hρn A' h2);rcases hA with h|h
   ·exact absurd h h1
   ·omega
  ·rw[hρo A h1,hρo A' h2]at he;exact he
 
 have hlive:∀A m,lens H A=some m->A ∉ ms/\∃g,H'[A]?=some (some g):=by
  intro A m hA;obtain⟨g,h1,_⟩:=gT hA;have hnm:A ∉ ms:=λh=>hfree A ((hmem _).1 h).1 ((hmem _).1 h).2 g h1;refine⟨hnm,?_⟩;by_cases hx:∃b,(A,b)∈G ms
  ·obtain⟨b,hb⟩:=hx;exact⟨b,hin _ hb⟩
  ·exact⟨g,(hoth A (λx hxm e=>hx ⟨x.2,by rw[<-e];exact hxm⟩) g).2 h1⟩
 have hcell:∀y∈p,∀ad len fl,Value.slice ad len fl∈y.2.cells->VR ρ (λA=>(A∈ms\/A∈p.map (·.1))\/∃m,lens H A=some m) (.slice ad len fl) (.slice ad len fl):=by
  intro y hy ad len fl hm;obtain⟨j,hj,e⟩:=List.mem_iff_getElem.1 hm;obtain⟨o,c,_,_,_,k5⟩:=(hrel.blk _ _ (i.sat y hy)).any;obtain⟨x',_,m2⟩:=k5 j _ (by rw[List.getElem?_eq_getElem hj,e]);generalize hq:Value.slice ad len fl=q at m2;cases m2 with
  |snil=>exact .const rfl
  |slc A o v n len fl cap c hL =>
   have:=VR.slc (ρ:=ρ) (D:=λA=>(A∈ms\/A∈p.map (·.1))\/∃m,lens H A=some m) (A:=A) (o:=o) (n:=v) (len:=len) (fl:=fl) (.inr ⟨n,hL⟩);rwa [hρo A (hlive A n hL).1]at this
  |sdead=>exact .sdead
  |full A o v n len c hL =>
   have:=VR.ful (ρ:=ρ) (D:=λA=>(A∈ms\/A∈p.map (·.1))\/∃m,lens H A=some m) (A:=A) (o:=o) (len:=len) (fl:=v) (.inr ⟨n,hL⟩);rwa [hρo A (hlive A n hL).1]at this
  |_=>cases hq
 obtain⟨hV,hG⟩:=hpar ns ms ρ (λA=>(A∈ms\/A∈p.map (·.1))\/∃m,lens H A=some m) hk hmk hmap (λy hy=>hρo _ (hpms y hy)) (λA h=>.inl (.inl h)) (λy hy=>.inl (.inr (List.mem_map.2 ⟨y,hy,rfl⟩))) hcell
 
 have hkeyG:∀A,(A∈ms\/A∈p.map (·.1))->∃b,(A,b)∈G ms:=by
  intro A hA;obtain⟨b,hb,e⟩:=List.mem_map.1 (hpm.mem_iff.2 (by rcases hA with h|h;exact List.mem_append_left _ h;exact List.mem_append_right _ h));exact⟨b.2,by rw[<-e];exact hb⟩
 have qT:∀A g,H'[A]?=some (some g)->(A∈ms\/A<H.length)/\((H2[ρ A]?=some (some g)/\H[A]?=some (some g)/\A ∉ ms)\/∃c',H2[ρ A]?=some (some ⟨c',g.ro⟩)/\VRs ρ (λA=>(A∈ms\/A∈p.map (·.1))\/∃m,lens H A=some m) g.cells c'):=by
  intro A g hA;by_cases hx:∃b,(A,b)∈G ms
  ·obtain⟨b,hb⟩:=hx
   have:=hin _ hb;rw[hA]at this;simp only[Option.some.injEq]at this;subst this;have hdom:A∈ms\/A<H.length:=by
    rcases List.mem_append.1 (hpm.mem_iff.1 (List.mem_map.2 ⟨_,hb,rfl⟩))with h|h
    ·exact .inl h
    ·obtain⟨y,hy,e⟩:=List.mem_map.1 h
     have:=hpold y hy;exact .inr (by simp only at e;omega)
   refine⟨hdom,?_⟩;rcases hG.get (λy hy=>hρo _ (hpms y hy)) _ hb with⟨g1,g2⟩|⟨c',g1,g2⟩
   ·exact .inl ⟨by rw[hρo A (hpms _ g1)];exact i3.sat _ g2,i.sat _ g1,hpms _ g1⟩
   ·exact .inr ⟨c',i3.sat _ g1,g2⟩
  ·have hno:∀x∈G ms,x.1≠A:=λx hxm e=>hx ⟨x.2,by rw[<-e];exact hxm⟩
   have hA2:=(hoth A hno g).1 hA;have hl:=(List.getElem?_eq_some_iff.1 hA2).1;have hnm:A ∉ ms:=λh=>hx (hkeyG A (.inl h));refine⟨.inr hl,.inl ⟨?_,hA2,hnm⟩⟩;rw[hρo A hnm,i3.keep A hl λy hy e=>hx (hkeyG A (.inr (List.mem_map.2 ⟨y,hy,e⟩)))];exact hA2
 have hlen:∀A g,H'[A]?=some (some g)->lens H' A=lens H2 (ρ A):=by
  intro A g hA;rw[wH hA];rcases(qT A g hA).2 with⟨g1,_⟩|⟨c',g1,g2⟩
  ·rw[wH g1]
  ·rw[wH g1,g2.len]
 have hold:∀A,(∃m,lens H A=some m)->φ2 (ρ A)=φ2 A/\lens H' A=lens H2 A:=by
  rintro A ⟨m,hA⟩;obtain⟨h1,g,h2⟩:=hlive A m hA;exact⟨by rw[hρo A h1],by rw[hlen A g h2,hρo A h1]⟩
 have hlenD:∀A,((A∈ms\/A∈p.map (·.1))\/∃m,lens H A=some m)->lens H' A=lens H2 (ρ A):=λA h=>by
  rcases h with h|⟨m,h⟩
  ·obtain⟨b,hb⟩:=hkeyG A h
   exact hlen A b (hin _ hb)
  ·rw[(hold A ⟨m,h⟩).2,hρo A (hlive A m h).1]
 refine⟨⟨λA=>φ2 (ρ A),φ2.mks⟩,v,⟨λA n hA=>?_,hext.mks⟩,⟨hrel2.below,hrel2.b0,λA g hA=>?_,λA g hA hro=>?_,λA A' g g' hA hro hA' he=>?_,hrel2.gw,hrel2.mks⟩,rfl,hV.val hlenD hv⟩
 ·obtain⟨n',g1,g2⟩:=hext.at_ A n hA
  obtain⟨q1,q2⟩:=hold A ⟨n,hA⟩;refine⟨n',by rw[q2];exact g1,?_⟩;show(n'=n/\φ2 (ρ A)=φ A)\/(n<n'/\((φ A).mp=true->φ2 (ρ A)=φ A));rw[q1];exact g2
 ·obtain⟨hlt,hc⟩:=qT A g hA
  rcases hc with⟨g1,g2,g3⟩|⟨c',g1,g2⟩
  ·obtain⟨o,c,k1,k2,k3,k5⟩:=(hrel2.blk _ _ g1).any
   obtain⟨o0,c0,_,_,_,j5⟩:=(hrel.blk _ _ g2).any;refine⟨o,c,k1,k2,k3,λj x hx=>?_⟩;obtain⟨x',m1,m2⟩:=k5 j x hx;obtain⟨x0,_,m3⟩:=j5 j x hx;exact⟨x',m1,yDd (D:=λB=>∃m,lens H B=some m) (λB m h=>⟨m,h⟩) hold m2 m3⟩
  ·obtain⟨o,c,k1,k2,k3,k5⟩:=(hrel2.blk _ _ g1).any
   refine⟨o,c,k1,?_,by rw[g2.len];exact k3,λj x hx=>?_⟩
   ·cases k2 with
    |cells hm hs hf ht=>exact .cells hm hs hf ht
    |map hm hb hl hz hn=>exact .map hm hb (by rw[g2.len];exact hl) hz hn
    |loop hm hb hz hd ht=>exact .loop hm hb hz hd ht
    |siter hm hb hz=>exact .siter hm hb hz
    |miter hm hb hz=>exact .miter hm hb hz
    |bag hm hb hz hl hp hd hk=>exact .bag hm hb hz (by rw[g2.len];exact hl) hp hd hk
   obtain⟨y,m1,m2⟩:=g2.get hx;obtain⟨x',m3,m4⟩:=k5 j y m1;exact⟨x',m3,m2.val hlenD m4⟩
 ·rcases(qT A g hA).2 with⟨g1,_⟩|⟨c',g1,_⟩
  ·exact hrel2.own _ _ g1 hro
  ·exact hrel2.own _ _ g1 hro
 ·obtain⟨d1,hc⟩:=qT A g hA
  obtain⟨d2,hc'⟩:=qT A' g' hA';obtain⟨y,hy⟩:∃y,H2[ρ A']?=some (some y):=by rcases hc' with⟨g1,_⟩|⟨c',g1,_⟩ <;> exact⟨_,g1⟩
  refine hρinj A' A d2 d1 ?_;rcases hc with⟨g1,_⟩|⟨c',g1,_⟩
  ·exact hrel2.inj _ _ _ _ g1 hro hy he
  ·exact hrel2.inj _ _ _ _ g1 hro hy he
theorem zOo {p:SH}{H:zI}(i:Inv ⟨H,p⟩ p H){k:Nat}{G:List Nat->SH}(hkeys:∀ns,ns.length=k->((G ns).map (·.1)).Perm (ns++p.map (·.1))) :
  (∀x∈G (List.range' H.length k),(gB H (G (List.range' H.length k)) k)[x.1]?=some (some x.2))/\((G (List.range' H.length k)).map (·.1)).Nodup/\(∀x∈G (List.range' H.length k),x.1<H.length+k)/\∀x∈G (List.range' H.length k),x.1<H.length->∃y∈p,y.1=x.1:=by
 generalize hms:List.range' H.length k=ms;have hmk:ms.length=k:=by rw[<-hms,List.length_range']
 have hmem:∀A,A∈ms↔H.length<=A/\A<H.length+k:=λA=>by rw[<-hms,List.mem_range'_1]
 have hpm:=hkeys ms hmk;have hpold:∀y∈p,y.1<H.length:=λy hy=>(List.getElem?_eq_some_iff.1 (i.sat y hy)).1;have hmnd:((G ms).map (·.1)).Nodup:=by
  refine hpm.nodup_iff.2 (List.nodup_append.2 ⟨by rw[<-hms];exact List.nodup_range',i.nd,?_⟩);rintro a ha b hb rfl;obtain⟨y,hy,rfl⟩:=List.mem_map.1 hb;have:=hpold y hy;have:=(hmem _).1 ha;omega
 have hall:∀x∈G ms,x.1<H.length+k:=by
  intro x hx;rcases List.mem_append.1 (hpm.mem_iff.1 (List.mem_map.2 ⟨x,hx,rfl⟩))with h|h
  ·exact((hmem _).1 h).2
  ·obtain⟨y,hy,e⟩:=List.mem_map.1 h;have:=hpold y hy;omega
 refine⟨λx hx=>?_,hmnd,hall,λx hx hlt=>?_⟩
 ·rw[zHg (hall x hx),zWh hmnd (show(x.1,x.2)∈G ms from hx)]
 ·rcases List.mem_append.1 (hpm.mem_iff.1 (List.mem_map.2 ⟨x,hx,rfl⟩))with h|h
  ·have:=((hmem _).1 h).1;omega
  ·obtain⟨y,hy,e⟩:=List.mem_map.1 h;exact⟨y,hy,e⟩
theorem zNy {E:Ent}{h p:SH}{H:zI}(i0:Inv E h H)(ht:zA h p){k:Nat}{G:List Nat->SH}(hkeys:∀ns,ns.length=k->((G ns).map (·.1)).Perm (ns++p.map (·.1))) :
  Inv E (G (List.range' H.length k)) (gB H (G (List.range' H.length k)) k):=by
 have i:=i0.le ht.le;obtain⟨h1,h2,h3,h4⟩:=zOo i.refl hkeys;refine⟨h1,h2,λx hx hlt=>?_,by rw[gY];have:=i.len;omega,λA hA hne=>?_⟩
 ·obtain⟨y,hy,e⟩:=h4 x hx (by have:=i.len;omega)
  obtain⟨z,hz,e2⟩:=i.own y hy (by omega);exact⟨z,hz,by omega⟩
 ·have hAl:A<H.length:=by have:=i.len;omega
  rw[zHg (by omega)];cases hl:look (G (List.range' H.length k)) A with
  |some b =>
   obtain⟨y,hy,e⟩:=h4 _ (zPh hl) hAl;obtain⟨z,hz,e2⟩:=i.own y hy (by simp only at e;omega);exact absurd (by simp only at e;omega) (hne z hz)
  |none =>
   show some (H.getD A none)=_;rw[List.getD_eq_getElem?_getD,List.getElem?_eq_getElem hAl,Option.getD_some,<-List.getElem?_eq_getElem hAl];exact i.keep A hA hne
theorem zGs {p p1:SH}{ρ:Nat->Nat}{A:Nat}{b:Blk}(hρ:∀y∈p,ρ y.1=y.1)(h:Pick p A b p1):ρ A=A:=hρ _ h.mem
theorem zCv {p p1:SH}{D:Nat->Prop}{A:Nat}{b:Blk}(hD:∀y∈p,D y.1)(h:Pick p A b p1):D A:=hD _ h.mem
theorem VR.slc' {ρ:Nat->Nat}{D:Nat->Prop}{A A' o n len fl:Nat}(e:ρ A=A')(h:D A):VR ρ D (gsl A o n len fl) (gsl A' o n len fl):=by subst e;exact .slc h
theorem fO {α:Type}{f:α->List Value}{l:List α}(h:∀x,∀v∈f x,yB v=true):∀v∈zF f l,yB v=true:=by
 induction l with
 |nil=>intro v hv;cases hv
 |cons x r ih =>
  intro v hv;rcases List.mem_append.1 hv with hv|hv
  ·exact h x v hv
  ·exact ih v hv

section
variable {P:Program} {sz:Nat} {ops:Array Oper} {Q:wA} {rest:List Oper} {a:AF} {h:SH} {t:Nat} {ty:TypeId} {pos:String} {aft:Array Edge}
theorem zNp {x:Operand}{xs:List Operand}{ts:Array TypeId}{f:FuncId}{first captured:Array Value}{as0:List Value}{R:Value->SH->Prop}{i0:Nat}{last:qP}{cl:SCl}{k:Nat}{V:List Nat->Value}{G:List Nat->SH}{p:SH}
  (hx:ev a x=some (.func (.func f) first captured)) (hxs:evs a xs=some as0) (hf:xL P f=true) (hN:Nat.blt t sz=true) (hr:zH P f (first.toList++as0++captured.toList) p R) (ht:zA h p)
  (hfun:∀r q,R r q->∃ns,ns.length=k/\r=V ns/\zA q (G ns)) (hkeys:∀ns,ns.length=k->((G ns).map (·.1)).Perm (ns++p.map (·.1)))
  (hpar:∀(ns ms:List Nat) (ρ:Nat->Nat) (D:Nat->Prop),ns.length=k->ms.length=k->ms.map ρ=ns->(∀y∈p,ρ y.1=y.1)->(∀A∈ms,D A)->(∀y∈p,D y.1)->(∀y∈p,∀ad len fl,Value.slice ad len fl∈y.2.cells->VR ρ D (.slice ad len fl) (.slice ad len fl))->VR ρ D (V ms) (V ns)/\SHR ρ D p (G ms) (G ns))
  (hok:∀ms,ms.length=k->(Mode.draw i0 last cl).efOk ops (G ms)) (kk:∀ms,ms.length=k->GO ((Mode.draw i0 last cl).ef h) P sz ops Q rest ((t,V ms)::a) (G ms)) :
  GO (.draw i0 last cl) P sz ops Q (⟨some t,.call { callee:=.value x,args:=xs.toArray,argTypes:=ts },ty,pos,aft,none⟩::rest) a h:=by
 unfold GO;intro E H n0 pH i ip;have hk:(List.range' H.length k).length=k:=List.length_range';have kk':=kk _ hk;unfold GO at kk';obtain⟨_,g⟩:=kk' E _ n0 ((true,i0,H,gB H (G (List.range' H.length k)) k)::pH) (zNy i ht hkeys) ⟨⟨rfl,rfl,i,λh=>by cases h⟩,ip⟩;refine⟨_,.eff k hN trivial gY (λX a' hag hX _=>⟨λB0 w0 φ w ac hrel hfr=>?_⟩) (cI ip (hok _ hk)) (zAd (zNy i ht hkeys) (hok _ hk)) g⟩;have hx':ev a' x=some (.func (.func f) first captured):=(hag.ev (by simp[Op.operands,Call.operands])).trans hx;have hxs':evs a' xs=some as0:=(cM λy hy=>hag.ev (by simp[Op.operands,Call.operands,hy])).trans hxs;have e1:=zN hfr hx';have e2:=pD hfr hxs';refine .inr (.inl ?_);generalize hu:ac.eval x=u at e1;cases e1 with
 |func _ _ b _ d q1 q2 q3 q4 =>
  have hvr:=((yM.of_arrays q1 q2).append e2).append (yM.of_arrays q3 q4);obtain⟨c1,c2,c3,c4⟩:=zOo (i.le ht.le).refl hkeys;refine⟨f,b++(xs.map ac.eval).toArray++d,?_,yEy hr ((i.app X).le ht.le).refl hfun hkeys hpar (λA h1 h2 g hg=>?_) (λx hx=>?_) (λA hA g=>?_) hrel hvr⟩
  rotate_left
  ·have:=hX (A-H.length) (by omega)
   rw[List.getElem?_append_right h1,this]at hg;cases hg
  ·rw[List.getElem?_append_left (by rw[gY];exact c3 x hx)];exact c1 x hx
  ·rcases Nat.lt_or_ge A (H.length+k)with hl|hl
   ·rw[List.getElem?_append_left (by rw[gY];exact hl),zHg hl]
    have hlk:look (G (List.range' H.length k)) A=none:=by
     cases hq:look (G (List.range' H.length k)) A with
     |none=>rfl
     |some b=>exact absurd rfl (hA _ (zPh hq))
    rw[hlk];rcases Nat.lt_or_ge A H.length with hl2|hl2
    ·rw[List.getElem?_append_left hl2]
     show some (H.getD A none)=_↔_;rw[List.getD_eq_getElem?_getD,List.getElem?_eq_getElem hl2];rfl
    ·rw[List.getElem?_append_right hl2,hX (A-H.length) (by omega)]
     show some (H.getD A none)=_↔_;rw[List.getD_eq_getElem?_getD,List.getElem?_eq_none hl2];rfl
   ·rw[List.getElem?_append_right (by rw[gY];exact hl),gY,List.getElem?_drop,List.getElem?_append_right (by omega),show k+(A-(H.length+k))=A-H.length by omega]
  unfold execOp;simp only[resolve,List.map_toArray,hu,Deferred.ofValue,Sem.run_bind,Sem.run_pure,Result.andThen_ok,invoke];exact uU hf _ w
theorem aU {x:Operand}{xs:List Operand}{ts:Array TypeId}{f:FuncId}{first captured:Array Value}{as0:List Value}{R:Value->SH->Prop}{i0:Nat}{last:qP}{cl:SCl}{k:Nat}{V:List Nat->Value}{G:List Nat->SH}{p:SH}
  (hx:ev a x=some (.func (.func f) first captured)) (hxs:evs a xs=some as0) (hf:xL P f=true) (hN:Nat.blt t sz=true) (hr:zH P f (first.toList++as0++captured.toList) p R) (ht:zA h p)
  (hfun:∀r q,R r q->∃ns,ns.length=k/\r=V ns/\zA q (G ns)) (hkeys:∀ns,ns.length=k->((G ns).map (·.1)).Perm (ns++p.map (·.1)))
  (hpar:∀(ns ms:List Nat) (ρ:Nat->Nat) (D:Nat->Prop),ns.length=k->ms.length=k->ms.map ρ=ns->(∀y∈p,ρ y.1=y.1)->(∀A∈ms,D A)->(∀y∈p,D y.1)->VR ρ D (V ms) (V ns)/\SHR ρ D p (G ms) (G ns))
  (hok:∀ms,ms.length=k->(Mode.draw i0 last cl).efOk ops (G ms)) (kk:∀ms,ms.length=k->GO ((Mode.draw i0 last cl).ef h) P sz ops Q rest ((t,V ms)::a) (G ms)) :
  GO (.draw i0 last cl) P sz ops Q (⟨some t,.call { callee:=.value x,args:=xs.toArray,argTypes:=ts },ty,pos,aft,none⟩::rest) a h :=
 zNp hx hxs hf hN hr ht hfun hkeys (λns ms ρ D h1 h2 h3 h4 h5 h6 _=>hpar ns ms ρ D h1 h2 h3 h4 h5 h6) hok kk
theorem kB {x:Operand}{xs:List Operand}{ts:Array TypeId}{f:FuncId}{first captured:Array Value}{as0:List Value}{v:Value}{g:SH}{i0:Nat}{last:qP}{cl:SCl}{p:SH}
  (hx:ev a x=some (.func (.func f) first captured)) (hxs:evs a xs=some as0) (hf:xL P f=true) (hN:Nat.blt t sz=true) (hr:zH P f (first.toList++as0++captured.toList) p (λr q=>r=v/\q=g)/\zA h p)
  (hkeys:(g.map (·.1)).Perm (p.map (·.1))) (hpar:∀(ρ:Nat->Nat) (D:Nat->Prop),(∀y∈p,ρ y.1=y.1)->(∀y∈p,D y.1)->VR ρ D v v/\SHR ρ D p g g)
  (hok:(Mode.draw i0 last cl).efOk ops g) (kk:GO ((Mode.draw i0 last cl).ef h) P sz ops Q rest ((t,v)::a) g) :
  GO (.draw i0 last cl) P sz ops Q (⟨some t,.call { callee:=.value x,args:=xs.toArray,argTypes:=ts },ty,pos,aft,none⟩::rest) a h :=
 aU (k:=0) (V:=λ_=>v) (G:=λ_=>g) hx hxs hf hN hr.1 hr.2 (λr q ⟨h1,h2⟩=>⟨[],rfl,h1,h2▸.nil⟩) (λns h=>by rw[List.length_eq_zero_iff.1 h];exact hkeys)
  (λ_ _ ρ D _ _ _ h1 _ h2=>hpar ρ D h1 h2) (λ_ _=>hok) (λ_ _=>kk)
theorem zGw {x:Operand}{xs:List Operand}{ts:Array TypeId}{f:FuncId}{first captured:Array Value}{as0:List Value}{v:Nat->Value}{g:Nat->SH}{i0:Nat}{last:qP}{cl:SCl}{p:SH}
  (hx:ev a x=some (.func (.func f) first captured)) (hxs:evs a xs=some as0) (hf:xL P f=true) (hN:Nat.blt t sz=true) (hr:zH P f (first.toList++as0++captured.toList) p (λr q=>∃A,r=v A/\q=g A)/\zA h p)
  (hkeys:∀A,((g A).map (·.1)).Perm (A::p.map (·.1))) (hpar:∀(A A':Nat) (ρ:Nat->Nat) (D:Nat->Prop),ρ A=A'->D A->(∀y∈p,ρ y.1=y.1)->(∀y∈p,D y.1)->VR ρ D (v A) (v A')/\SHR ρ D p (g A) (g A'))
  (hok:∀A,(Mode.draw i0 last cl).efOk ops (g A)) (kk:∀A,GO ((Mode.draw i0 last cl).ef h) P sz ops Q rest ((t,v A)::a) (g A)) :
  GO (.draw i0 last cl) P sz ops Q (⟨some t,.call { callee:=.value x,args:=xs.toArray,argTypes:=ts },ty,pos,aft,none⟩::rest) a h:=by
 have one:∀{ns:List Nat},ns.length=1->∃A,ns=[A]:=λ{ns} h=>by
  match ns,h with
  |[A],_=>exact⟨A,rfl⟩
 refine aU (k:=1) (V:=λns=>v ns.head!) (G:=λns=>g ns.head!) hx hxs hf hN hr.1 hr.2 (λr q ⟨A,h1,h2⟩=>⟨[A],rfl,h1,h2▸.nil⟩) (λns h=>?_) (λns ms ρ D h1 h2 h3 h4 h5 h6=>?_) (λms h=>?_) (λms h=>?_)
 ·obtain⟨A,rfl⟩:=one h;exact hkeys A
 ·obtain⟨A,rfl⟩:=one h1;obtain⟨B,rfl⟩:=one h2
  simp only[List.map_cons,List.map_nil,List.cons.injEq,and_true]at h3;exact hpar B A ρ D h3 (h5 B (by simp)) h4 h6
 ·obtain⟨A,rfl⟩:=one h;exact hok A
 ·obtain⟨A,rfl⟩:=one h;exact kk A
theorem zGj {x:Operand}{xs:List Operand}{ts:Array TypeId}{f:FuncId}{first captured:Array Value}{as0:List Value}{v:Nat->Nat->Value}{g:Nat->Nat->SH}{i0:Nat}{last:qP}{cl:SCl}{p:SH}
  (hx:ev a x=some (.func (.func f) first captured)) (hxs:evs a xs=some as0) (hf:xL P f=true) (hN:Nat.blt t sz=true) (hr:zH P f (first.toList++as0++captured.toList) p (λr q=>∃A B,r=v A B/\q=g A B)/\zA h p)
  (hkeys:∀A B,((g A B).map (·.1)).Perm (A::B::p.map (·.1))) (hpar:∀(A A' B B':Nat) (ρ:Nat->Nat) (D:Nat->Prop),ρ A=A'->ρ B=B'->D A->D B->(∀y∈p,ρ y.1=y.1)->(∀y∈p,D y.1)->VR ρ D (v A B) (v A' B')/\SHR ρ D p (g A B) (g A' B'))
  (hok:∀A B,(Mode.draw i0 last cl).efOk ops (g A B)) (kk:∀A B,GO ((Mode.draw i0 last cl).ef h) P sz ops Q rest ((t,v A B)::a) (g A B)) :
  GO (.draw i0 last cl) P sz ops Q (⟨some t,.call { callee:=.value x,args:=xs.toArray,argTypes:=ts },ty,pos,aft,none⟩::rest) a h:=by
 have two:∀{ns:List Nat},ns.length=2->∃A B,ns=[A,B]:=λ{ns} h=>by
  match ns,h with
  |[A,B],_=>exact⟨A,B,rfl⟩
 refine aU (k:=2) (V:=λns=>v ns.head! (ns.getD 1 0)) (G:=λns=>g ns.head! (ns.getD 1 0)) hx hxs hf hN hr.1 hr.2 (λr q ⟨A,B,h1,h2⟩=>⟨[A,B],rfl,h1,h2▸.nil⟩) (λns h=>?_) (λns ms ρ D h1 h2 h3 h4 h5 h6=>?_) (λms h=>?_) (λms h=>?_)
 ·obtain⟨A,B,rfl⟩:=two h;exact hkeys A B
 ·obtain⟨A,B,rfl⟩:=two h1;obtain⟨A2,B2,rfl⟩:=two h2
  simp only[List.map_cons,List.map_nil,List.cons.injEq,and_true]at h3;exact hpar A2 A B2 B ρ D h3.1 h3.2 (h5 A2 (by simp)) (h5 B2 (by simp)) h4 h6
 ·obtain⟨A,B,rfl⟩:=two h;exact hok A B
 ·obtain⟨A,B,rfl⟩:=two h;exact kk A B
end
end Go.Gh
end
section
set_option maxRecDepth 4000
namespace Go.Gh
open Go.RowKit Go.MapKept

section
variable {α:Type}
def xK (kf:α->Value)(l:List (α × Value)):List Value:=l.flatMap λe=>[kf e.1,e.2]
def wM [DecidableEq α]:List (α × Value)->α->Option Value
 |[],_=>none
 |e::r,a=>if e.1=a then some e.2 else wM r a
def vK [DecidableEq α]:List (α × Value)->α->Value->List (α × Value)
 |[],a,x=>[(a,x)]
 |e::r,a,x=>if e.1=a then(a,x)::r else e::vK r a x
theorem zPv [DecidableEq α]:∀(l:List (α × Value)) (a:α) (x:Value),(vK l a x).length=l.length+(if wM l a=none then 1 else 0)
 |[],_,_=>rfl
 |e::r,a,x=>by
  unfold vK wM;split
  ·simp
  ·have:=zPv r a x;simp only[List.length_cons];omega
theorem iV (kf:α->Value):∀l:List (α × Value),(xK kf l).length=2*l.length
 |[]=>rfl
 |e::r=>by have:=iV kf r;simp only[xK,List.flatMap_cons,List.length_append,List.length_cons,List.length_nil]at this ⊢;omega
structure qF (d:TypeDesc)(kf:α->Value):Prop where
 is:∀a,IsKey d (kf a)
 inj:∀a b,kf a=kf b->a=b
 sc:∀a,scalar (kf a)=true
theorem nI :qF .string (λl:List UInt8=>S l):=⟨λ_=>trivial,λa b h=>by injection h with h;injection h with h;injection h,λ_=>rfl⟩
theorem sI :qF (.int .i64) (λn:Int=>I n):=⟨λ_=>rfl,λa b h=>by injection h,λ_=>rfl⟩
inductive vF (φ:Fi)(L:zP)(kf:α->Value):List (α × Value)->List MapEntry->Prop
 |nil:vF φ L kf [] []
 |cons {a:α} {v:Value} {e:MapEntry} {l es} (hk:e.key=kf a) (hv:Val φ L v e.val) (r:vF φ L kf l es):vF φ L kf ((a,v)::l) (e::es)
theorem vF.len {φ:Fi}{L:zP}{kf:α->Value}{l:List (α × Value)}{es:List MapEntry}(h:vF φ L kf l es):es.length=l.length:=by
 induction h with
 |nil=>rfl
 |cons _ _ _ ih=>simp[ih]
theorem vF.keys {φ:Fi}{L:zP}{kf:α->Value}{d:TypeDesc}(K:qF d kf){l:List (α × Value)}{es:List MapEntry}(h:vF φ L kf l es):∀x∈es,IsKey d x.key:=by
 induction h with
 |nil=>intro x hx;cases hx
 |cons hk _ _ ih =>
  intro x hx;rcases List.mem_cons.1 hx with rfl|hx
  ·rw[hk];exact K.is _
  ·exact ih x hx
theorem vF.mono {φ φ':Fi}{L L':zP}(e:Ext φ L φ' L'){kf:α->Value}{l:List (α × Value)}{es:List MapEntry}(h:vF φ L kf l es):vF φ' L' kf l es:=by
 induction h with
 |nil=>exact .nil
 |cons hk hv _ ih=>exact .cons hk (hv.mono e) ih
theorem vF.row {φ:Fi}{L:zP}{kf:α->Value}{d:TypeDesc}(K:qF d kf){l:List (α × Value)}{es:List MapEntry}(h:vF φ L kf l es) :
  ∀(i:Nat) v,(xK kf l)[i]?=some v->∃v',(vZ es)[i]?=some v'/\Val φ L v v':=by
 induction h with
 |nil=>intro i v hi;simp[xK]at hi
 |@cons a v e l es hk hv _ ih =>
  intro i u hi;have e1:xK kf ((a,v)::l)=kf a::v::xK kf l:=rfl;have e2:vZ (e::es)=e.key::e.val::vZ es:=rfl;rw[e1]at hi;rw[e2]
  match i,hi with
  |0,hi =>
   simp only[List.getElem?_cons_zero,Option.some.injEq]at hi;subst hi;refine⟨e.key,rfl,?_⟩;rw[hk];have hs:=K.sc a;cases hx:kf a with
   |bool b=>exact .bool b
   |int k n=>exact .int k n
   |string s=>exact .str s
   |_=>rw[hx]at hs;cases hs
  |1,hi=>simp only[List.getElem?_cons_succ,List.getElem?_cons_zero,Option.some.injEq]at hi;subst hi;exact⟨e.val,rfl,hv⟩
  |i+2,hi=>exact ih i u (by simpa using hi)
theorem zSs {φ:Fi}{L:zP}{kf:α->Value}{d:TypeDesc}(K:qF d kf):∀{l:List (α × Value)} {es:List MapEntry},es.length=l.length ->
  (∀(i:Nat) v,(xK kf l)[i]?=some v->∃v',(vZ es)[i]?=some v'/\Val φ L v v')->vF φ L kf l es
 |[],[],_,_=>.nil
 |[],_::_,h,_=>by simp at h
 |_::_,[],h,_=>by simp at h
 |(a,v)::l,e::es,h,hr=>by
  have e1:xK kf ((a,v)::l)=kf a::v::xK kf l:=rfl;have e2:vZ (e::es)=e.key::e.val::vZ es:=rfl;rw[e1,e2]at hr;obtain⟨k',h1,h2⟩:=hr 0 (kf a) rfl;obtain⟨v',h3,h4⟩:=hr 1 v rfl;simp only[List.getElem?_cons_zero,List.getElem?_cons_succ,Option.some.injEq]at h1 h3;subst h1 h3;exact .cons (h2.scalar (K.sc a)) h4 (zSs K (by simpa using h) λi u hu=>by
   obtain⟨u',g1,g2⟩:=hr (i+2) u (by simpa using hu);exact⟨u',by simpa using g1,g2⟩)
theorem vF.find [DecidableEq α]{φ:Fi}{L:zP}{kf:α->Value}{d:TypeDesc}(K:qF d kf)(a:α){l:List (α × Value)}{es:List MapEntry}(h:vF φ L kf l es):∀i:Nat,
  (Instr.findNow d (kf a) es i=some none/\wM l a=none)\/∃j e v,Instr.findNow d (kf a) es i=some (some (i+j,e.val))/\es[j]?=some e/\e.key=kf a/\wM l a=some v/\Val φ L v e.val:=by
 induction h with
 |nil=>intro i;exact .inl ⟨rfl,rfl⟩
 |@cons b v e l es hk hv _ ih =>
  intro i;obtain⟨r,hr,hiff⟩:=sameNow_of_keys (K.is a) (hk▸K.is b:IsKey d e.key);cases r with
  |true =>
   have:b=a:=(K.inj _ _ ((hiff.1 rfl).trans hk)).symm;subst this;exact .inr ⟨0,e,v,by simp[Instr.findNow,hr],rfl,hk,by simp[wM],hv⟩
  |false =>
   have hne:b≠a:=λq=>by have:=hiff.2 (by rw[hk,q]);cases this
   rcases ih (i+1)with⟨h1,h2⟩|⟨j,e',v',h1,h2,h3,h4,h5⟩
   ·exact .inl ⟨by simp[Instr.findNow,hr,h1],by simp[wM,hne,h2]⟩
   ·exact .inr ⟨j+1,e',v',by simp[Instr.findNow,hr,h1];omega,by simpa using h2,h3,by simp[wM,hne,h4],h5⟩
theorem vF.push [DecidableEq α]{φ:Fi}{L:zP}{kf:α->Value}(a:α){x x':Value}(hx:Val φ L x x')(cl:Nat){l:List (α × Value)}{es:List MapEntry}(h:vF φ L kf l es)(hn:wM l a=none):vF φ L kf (vK l a x) (es++[⟨kf a,x',cl⟩]):=by
 induction h with
 |nil=>exact .cons rfl hx .nil
 |@cons b v e l es hk hv _ ih =>
  unfold wM at hn;split at hn
  ·cases hn
  ·rename_i hne
   unfold vK;rw[if_neg hne];exact .cons hk hv (ih hn)
theorem vF.modify [DecidableEq α]{φ:Fi}{L:zP}{kf:α->Value}{d:TypeDesc}(K:qF d kf)(a:α){x x':Value}(hx:Val φ L x x'){l:List (α × Value)}{es:List MapEntry}(h:vF φ L kf l es) :
  ∀(j:Nat) (i:Nat) (y:Value),Instr.findNow d (kf a) es i=some (some (i+j,y))->vF φ L kf (vK l a x) (es.modify j λe=>{ e with key:=kf a,val:=x' }):=by
 induction h with
 |nil=>intro j i y hf;cases hf
 |@cons b v e l es hk hv hr' ih =>
  intro j i y hf;obtain⟨r,hr,hiff⟩:=sameNow_of_keys (K.is a) (hk▸K.is b:IsKey d e.key);cases r with
  |true =>
   have:b=a:=(K.inj _ _ ((hiff.1 rfl).trans hk)).symm;subst this;simp only[Instr.findNow,hr,Option.some.injEq,Prod.mk.injEq]at hf;obtain rfl:j=0:=by omega
   unfold vK;rw[if_pos rfl];exact .cons rfl hx hr'
  |false =>
   have hne:b≠a:=λq=>by have:=hiff.2 (by rw[hk,q]);cases this
   simp only[Instr.findNow,hr]at hf;have hj:j≠0:=λh0=>by
    subst h0;rcases findNow_spec (K.is a) es (i+1) (hr'.keys K)with⟨h1,_⟩|⟨q,e',h1,_⟩
    ·rw[h1]at hf;cases hf
    ·rw[h1]at hf;simp only[Option.some.injEq,Prod.mk.injEq]at hf;omega
   obtain⟨j,rfl⟩:∃m,j=m+1:=⟨j-1,by omega⟩;unfold vK;rw[if_neg hne];exact .cons hk hv (ih j (i+1) y (by rw[hf];congr 3;omega))
end
section
variable {P:Program} {N:Fr} {o:Oper} {a:AF} {H:zI} {α:Type}
theorem zEt {B0:Nat}{w0:World}{φ:Fi}{w:World}(r:Rel B0 w0 φ H w){A:Nat}{kf:α->Value}{d:TypeDesc}(K:qF d kf){l:List (α × Value)}{ro:Mk}(hA:H[A]?=some (some ⟨xK kf l,ro⟩))
  {u:Value} (hu:Val φ (lens H) (.map (some A)) u):u=.map (some (φ A).b)/\((φ A).mp=true/\(φ A).size=0)/\(φ A).base=0/\∃es clock,w.heap[(φ A).b]?=some (.map es clock)/\vF φ (lens H) kf l es.toList:=by
 cases hu with
 |map _ n q hL h =>
  obtain⟨o,c,h1,h2,h3,h4⟩:=(r.blk A _ hA).any;refine⟨by rw[h.2],h.1,?_⟩;cases h2 with
  |cells hm=>rw[h.1.1]at hm;cases hm
  |loop _ _ hz=>rw[h.1.2]at hz;cases hz
  |siter _ _ hz=>rw[h.1.2]at hz;cases hz
  |miter _ _ hz=>rw[h.1.2]at hz;cases hz
  |bag _ _ hz=>rw[h.1.2]at hz;cases hz
  |map hm hb hl _ _ =>
   refine⟨hb,_,_,h1,zSs K ?_ λi v hi=>?_⟩
   ·have:=iV kf l;simp only at hl;simp;omega
   ·obtain⟨v',g1,g2⟩:=h4 i v hi
    rw[hb,Nat.zero_add]at g1;exact⟨v',by simpa using g1,g2⟩
theorem zQb {B0:Nat}{w0:World}{φ:Fi}{w:World}(r:Rel B0 w0 φ H w){A:Nat}{g:Blk}(hA:H[A]?=some (some g)){es:Array MapEntry}{cl:Nat}(hs:(φ A).size=0)(h:w.heap[(φ A).b]?=some (.map es cl)):tL es cl:=by
 obtain⟨o,c,h1,h2,_⟩:=(r.blk A g hA).any;rw[h]at h1;cases h1;cases h2 with
 |map _ _ _ _ hn=>exact hn
 |bag _ _ hz=>rw[hs]at hz;cases hz
theorem zKj {es:Array MapEntry}{cl:Nat}(h:tL es cl)(k v:Value):tL (es.push { key:=k,val:=v,born:=cl }) (cl+1):=by
 refine⟨by simp[h.1],λi e hi=>?_⟩;rw[Array.getElem?_push]at hi;split at hi
 ·rename_i hs;simp only[Option.some.injEq]at hi;subst hi;rw[hs];exact h.1
 ·exact h.2 i e hi
theorem zTt {es:Array MapEntry}{cl:Nat}(h:tL es cl)(j:Nat)(f:MapEntry->MapEntry)(hf:∀e,(f e).born=e.born):tL (es.modify j f) cl:=by
 refine⟨by simp[h.1],λi e hi=>?_⟩;rw[Array.getElem?_modify]at hi;split at hi
 ·rename_i hij
  obtain⟨e',h1,rfl⟩:=Option.map_eq_some_iff.1 hi;rw[hf];exact h.2 i e' h1
 ·exact h.2 i e hi
theorem zUm (T:TypeId)(ho:o.op=.makeMap T none){A0:Nat}{H':zI}(hpl:Place H A0 H' ⟨[],false⟩):xG P N o a H (.map (some A0)) H':=by
 refine qI (λB0 w0 φ w ac r hf=>?_);obtain⟨h1,h2⟩:=lM (w':=w.alloc (.map #[] 0)) (l0:=⟨w.heap.size,0,0,true⟩) r hpl rfl rfl rfl rfl rfl rfl λhext=>by
  refine⟨.map #[] 0,_,?_,.map (es:=#[]) (clock:=0) rfl rfl rfl rfl ⟨rfl,λi e h=>by simp at h⟩,by simp,λi v hi=>by simp at hi⟩;exact(heap_alloc w _).1
 refine⟨_,.map (some w.heap.size),_,h1,h2,?_,?_⟩
 ·exact .map _ 0 _ hpl.lens (by rw[yU];exact⟨⟨rfl,rfl⟩,rfl⟩)
 ·unfold execOp
  simp only[ho,Option.map_none,Instr.makeMap,Sem.run_bind,Sem.run_pure,Result.andThen_ok];simp[run_newObj]
theorem zMk [DecidableEq α](T:TypeId)(x k:Operand){A K E s b:Nat}{d:TypeDesc}{kf:α->Value}{l:List (α × Value)}{ro:Mk}{z:Value}{c:α}(ho:o.op=.lookup T x k false)(hx:ev a x=some (.map (some A)))(hk:ev a k=some (kf c))
  (hA:H[A]?=some (some ⟨xK kf l,ro⟩)) (hT:P.underlying T=some (.map K E)) (hK:P.underlying K=some d) (KF:qF d kf) (hI:yC P E=some (some z,s,b)) (hz:yB z=true):zR P N o a H ((wM l c).getD z):=by
 refine⟨λB0 w0 φ w ac r hf=>?_⟩;obtain⟨h1,_,_,es,cl,h2,h3⟩:=zEt r KF hA (zN hf hx);have h4:=(zN hf hk).scalar (KF.sc c);rcases h3.find KF c 0 with⟨g1,g2⟩|⟨j,e,v,g1,g2,g3,g4,g5⟩
 ·refine⟨z,by rw[g2];exact Val.const hz,λw1 hb=>?_⟩
  have h2':w1.heap[(φ A).b]?=some (.map es cl):=by rw[hb.block _ (r.lt hA)];exact h2
  unfold execOp;simp only[ho,h1,h4,Instr.lookup,Sem.run_bind,run_underlying hT,Result.andThen_ok,MapKept.run_getObj_map h2',Sem.run_pure,run_checkKey hK (KF.is c),run_findKey hK g1,pJ hI,Bool.false_eq_true,if_false]
 ·refine⟨e.val,by rw[g4];exact g5,λw1 hb=>?_⟩
  have h2':w1.heap[(φ A).b]?=some (.map es cl):=by rw[hb.block _ (r.lt hA)];exact h2
  unfold execOp;simp only[ho,h1,h4,Instr.lookup,Sem.run_bind,run_underlying hT,Result.andThen_ok,MapKept.run_getObj_map h2',Sem.run_pure,run_checkKey hK (KF.is c),run_findKey hK g1,Bool.false_eq_true,if_false]
theorem zOz [DecidableEq α](T:TypeId)(x k y:Operand){A K E:Nat}{d:TypeDesc}{kf:α->Value}{l:List (α × Value)}{c:α}{v:Value}(ho:o.op=.mapUpdate T x k y)(hx:ev a x=some (.map (some A)))(hk:ev a k=some (kf c))(hy:ev a y=some v)
  (hA:H[A]?=some (some ⟨xK kf l,false⟩)) (hT:P.underlying T=some (.map K E)) (hK:P.underlying K=some d) (KF:qF d kf):xG P N o a H undef (H.set A (some ⟨xK kf (vK l c v),false⟩)):=by
 refine kR (λB0 w0 φ w ac r hf=>?_);obtain⟨h1,hmp,hbase,es,cl,h2,h3⟩:=zEt r KF hA (zN hf hx);have h4:=(zN hf hk).scalar (KF.sc c);have h5:=zN hf hy;generalize hvv:ac.eval y=v' at h5;have hupd:upd φ A (φ A)=φ:=mZ;have hlt:=r.lt hA;have key:∀(es':Array MapEntry) (cl':Nat),tL es' cl'->vF φ (lens H) kf (vK l c v) es'.toList ->
   ∃φ',Ext φ (lens H) φ' (lens (H.set A (some ⟨xK kf (vK l c v),false⟩)))/\Rel B0 w0 φ' (H.set A (some ⟨xK kf (vK l c v),false⟩)) { w with heap:=w.heap.setIfInBounds (φ A).b (.map es' cl') }:=λes' cl' hbn he=>by
  obtain⟨g1,g2⟩:=nP (w':={ w with heap:=w.heap.setIfInBounds (φ A).b (.map es' cl') }) (g':=⟨xK kf (vK l c v),false⟩) (l':=φ A) r hA rfl rfl rfl rfl (by simp) (λq _ hq=>(heap_set h2).2 q hq) (.inl rfl) hbase
   (by
    have h6:=iV kf l;have h7:=iV kf (vK l c v);have h8:=zPv l c v;by_cases hn:wM l c=none
    ·rw[if_pos hn]at h8;exact .inr ⟨by simp only;omega,λ_=>rfl⟩
    ·rw[if_neg hn]at h8;exact .inl ⟨by simp only;omega,rfl⟩)
   (λhext=>by
    rw[hupd]at hext ⊢;have he':=he.mono hext;refine⟨_,_,(heap_set h2).1,.map hmp.1 hbase ?_ hmp.2 hbn,?_,λi u hi=>?_⟩
    ·have h6:=iV kf (vK l c v);have:=he.len;simp at this;(first|omega|(simp only;omega))
    ·have h6:=iV kf (vK l c v);have:=he.len;rw[hbase];simp only[List.size_toArray,bF];(first|omega|(simp only;omega))
    ·obtain⟨u',k1,k2⟩:=he'.row KF i u hi
     exact⟨u',by rw[hbase,Nat.zero_add];simpa using k1,k2⟩)
  exact⟨_,g1,g2⟩
 rcases h3.find KF c 0 with⟨g1,g2⟩|⟨j,e,u,g1,g2,g3,g4,g5⟩
 ·obtain⟨φ',k1,k2⟩:=key (es.push { key:=kf c,val:=v',born:=cl }) (cl+1) (zKj (zQb r hA hmp.2 h2) _ _) (by simpa using h3.push c h5 cl g2)
  refine⟨φ',_,k1,k2,?_⟩;unfold execOp;simp only[ho,h1,h4,hvv,Instr.mapUpdate,Sem.run_bind,run_underlying hT,Result.andThen_ok,MapKept.run_getObj_map h2,Sem.run_pure,run_checkKey hK (KF.is c),run_findKey hK g1,MapKept.run_setObj_map _ h2]
 ·have hj:es[j]?=some e:=by simpa using g2
  rw[Nat.zero_add]at g1;have g1':Instr.findNow d (kf c) es.toList 0=some (some (0+j,e.val)):=by rw[Nat.zero_add];exact g1
  obtain⟨φ',k1,k2⟩:=key (es.modify j λe=>{ e with key:=kf c,val:=v' }) cl (zTt (zQb r hA hmp.2 h2) _ _ λ_=>rfl) (by
   have:=h3.modify KF c h5 j 0 _ g1';simpa using this)
  refine⟨φ',_,k1,k2,?_⟩;unfold execOp;simp only[ho,h1,h4,hvv,Instr.mapUpdate,Sem.run_bind,run_underlying hT,Result.andThen_ok,MapKept.run_getObj_map h2,Sem.run_pure,run_checkKey hK (KF.is c),run_findKey hK g1,hj,Option.map_some,Option.getD_some,g3,run_keyThatStays (KF.is c),MapKept.run_setObj_map _ h2]
theorem yDj (T:TypeId)(x hi mx:Operand){A off n len fl E s b:Nat}{z:Option Value}{j k:IntKind}{h:Int}(ho:o.op=.slice T x none (some hi) (some mx))(hx:ev a x=some (gsl A off n len fl))
  (hhi:ev a hi=some (.int j h)) (hmx:ev a mx=some (.int k h)) (hT:P.underlying T=some (.slice E)) (hI:yC P E=some (z,s,b)) (h1:0<=h/\h<=len):zR P N o a H (.slice (some ⟨A,off,none⟩) h.toNat (n+1)):=by
 refine⟨λB0 w0 φ w ac r hf=>?_⟩;have hu:=zN hf hx;have e2:=(zN hf hhi).scalar rfl;have e3:=(zN hf hmx).scalar rfl;generalize hv:ac.eval x=u at hu;cases hu with
 |slc _ _ _ m _ _ cap c hL hle hc hm hh =>
  refine⟨.slice (some c) h.toNat h.toNat,.full _ _ _ m _ _ hL hle (by omega) (λe=>⟨(hh e).1,(hh e).2.2⟩),λw _=>?_⟩;unfold execOp;simp only[ho,hv,e2,e3,Instr.sliceAt,Instr.slice,Option.map_some,Option.map_none,Sem.run_bind,run_underlying hT,Result.andThen_ok,Instr.sliceBounds,Instr.sliceBound,asIntOf,Sem.run_pure,
   Sem.run_ite,if_pos (show 0<=h/\h<=(cap:Int)from⟨by omega,by omega⟩),if_pos (show 0<=h/\h<=(h.toNat:Int)from⟨by omega,by omega⟩),wV hI,Nat.zero_mul]
  simp[Addr.add]
theorem zLv (T:TypeId)(x hi mx:Operand){E s b:Nat}{z:Option Value}{j k:IntKind}(ho:o.op=.slice T x none (some hi) (some mx))(hx:ev a x=some (.slice none 0 0))
  (hhi:ev a hi=some (.int j 0)) (hmx:ev a mx=some (.int k 0)) (hT:P.underlying T=some (.slice E)) (hI:yC P E=some (z,s,b)):zR P N o a H (.slice none 0 0):=by
 refine⟨λB0 w0 φ w ac r hf=>?_⟩;have e1:ac.eval x=.slice none 0 0:=Val.det rfl (zN hf hx);have e2:=(zN hf hhi).scalar rfl;have e3:=(zN hf hmx).scalar rfl;refine⟨.slice none 0 0,.snil,λw _=>?_⟩;unfold execOp;simp only[ho,e1,e2,e3,Instr.sliceAt,Instr.slice,Option.map_some,Option.map_none,Sem.run_bind,run_underlying hT,Result.andThen_ok,Instr.sliceBounds,Instr.sliceBound,asIntOf,Sem.run_pure,
  Sem.run_ite,wV hI]
 simp
end
section
variable {P:Program} {tt:TT} {sz:Nat} {ops:Array Oper} {Q:wA} {rest:List Oper} {a:AF} {h h' h1 h2:SH} {m:Mode} {t:Nat} {op:Op} {ty:TypeId} {pos:String} {aft:Array Edge} {p:Prop} {v:Value} {α:Type}
theorem eN {T:Nat}(hN:Nat.blt t sz=true)(k:∀A,GO (m.nw h (A,⟨[],false⟩)) P sz ops Q rest ((t,.map (some A))::a) ((A,⟨[],false⟩)::h)):GO m P sz ops Q (⟨some t,.makeMap T none,ty,pos,aft,none⟩::rest) a h :=
 mH (v:=λA=>.map (some A)) hN (λ_ _ _ _ _ hpl _=>zUm T rfl hpl) k
theorem zSy [DecidableEq α]{T:Nat}{x y:Operand}{A K E s b:Nat}{tk:TK}{d:TypeDesc}{kf:α->Value}{l:List (α × Value)}{ro:Mk}{z:Value}{c:α}(ht:tt.Ok P)(hx:ev a x=some (.map (some A)))(hp:Pick h A ⟨xK kf l,ro⟩ h1)(hk:ev a y=some (kf c))
  (hT:P.underlying T=some (.map K E)) (hK:P.underlying K=some d) (KF:qF d kf) (hE:tt.get E=some ⟨tk,s,b,some z⟩) (hz:yB z=true) (hr:(wM l c).getD z=v) (hN:Nat.blt t sz=true)
  (k:GO .seq P sz ops Q rest ((t,v)::a) h):GO .seq P sz ops Q (⟨some t,.lookup T x y false,ty,pos,aft,none⟩::rest) a h:=by
 obtain⟨_,hI,hz'⟩:=xQ (TT.get_ok ht hE);subst hr;exact tZ (m:=.seq) (λh'=>∃h1,Pick h' A ⟨xK kf l,ro⟩ h1) ⟨_,hp⟩ (λ_ _ _ _ _ i ⟨_,hp⟩ hag=>zMk T x y rfl ((hag.ev (by simp[Op.operands,Call.operands])).trans hx) ((hag.ev (by simp[Op.operands,Call.operands])).trans hk) (i.look hp) hT hK KF (hz' _ rfl▸hI) hz) hN trivial k
theorem aE [DecidableEq α]{T:Nat}{x y z:Operand}{A K E:Nat}{d:TypeDesc}{kf:α->Value}{l:List (α × Value)}{c:α}(hx:ev a x=some (.map (some A)))(hu:Upd h A ⟨xK kf l,false⟩ ⟨xK kf (vK l c v),false⟩ h')(hk:ev a y=some (kf c))(hv:ev a z=some v)
  (hT:P.underlying T=some (.map K E)) (hK:P.underlying K=some d) (KF:qF d kf) (k:GO .seq P sz ops Q rest a h'):GO .seq P sz ops Q (⟨none,.mapUpdate T x y z,ty,pos,aft,none⟩::rest) a h :=
 nN (m:=.seq) rfl hu (λ_ _ _ hA hag=>zOz T x y z rfl ((hag.ev (by simp[Op.operands,Call.operands])).trans hx) ((hag.ev (by simp[Op.operands,Call.operands])).trans hk) ((hag.ev (by simp[Op.operands,Call.operands])).trans hv) hA hT hK KF) trivial k
theorem yJa {T:Nat}{x y z:Operand}{E s1 b1:Nat}{z1:Option Value}{j kk:IntKind}{e:TE}(ht:tt.Ok P)(hx:ev a x=some (.slice none 0 0))(hy:ev a y=some (.int j 0))(hz:ev a z=some (.int kk 0))(hT:tt.get T=some ⟨.slice E,s1,b1,z1⟩)(hE:tt.get E=some e)
  (hN:Nat.blt t sz=true) (k:GO m.next P sz ops Q rest ((t,.slice none 0 0)::a) h):GO m P sz ops Q (⟨some t,.slice T x none (some y) (some z),ty,pos,aft,none⟩::rest) a h :=
 qL (λ_ _ _ hag=>let ⟨_,hI,_⟩:=xQ (TT.get_ok ht hE);zLv T x y z rfl ((hag.ev (by simp[Op.operands,Call.operands])).trans hx) ((hag.ev (by simp[Op.operands,Call.operands])).trans hy) ((hag.ev (by simp[Op.operands,Call.operands])).trans hz) (vP (TT.get_ok ht hT) rfl) hI) hN k
end
end Go.Gh
end
section
set_option maxRecDepth 4000
namespace Go.Gh
open Go.RowKit

theorem zVq {φ:Fi}{L:zP}{as0:List Value}{vs:Array Value}(hc:as0.all yB=true)(h:yM φ L as0 vs):vs=as0.toArray:=by
 obtain⟨hs,hg⟩:=h;refine Array.ext (by simpa using hs) λi hi hi'=>?_;have hl:i<as0.length:=by simpa using hi'
 obtain⟨v,g1,g2⟩:=hg i as0[i] (by simp[hl]);have:=Val.det ((List.all_eq_true.1 hc) as0[i] (List.getElem_mem hl)) g2;rw[Array.getElem?_eq_getElem hi]at g1;simp only[Option.some.injEq]at g1;rw[g1,this];simp
theorem cX {P:Program}{f:FuncId}{as0:List Value}{v:Value}{h:SH}(hc:as0.all yB=true)(hv:yB v=true)
  (k:∀w:World,Calls P f as0.toArray w λe w'=>e=.returned v/\Below w.heap.size w w'):zH P f as0 h λr q=>r=v/\q=h:=by
 unfold zH;intro H i;unfold Run;intro B0 w0 φs Ls φ w vs he hr hvs;rw[zVq hc hvs];refine(k w).mono ?_;rintro e w' ⟨rfl,hb⟩;exact⟨φ,v,H,v,he,hr.later hb,rfl,Val.const hv,h,⟨rfl,rfl⟩,i⟩
theorem yFr {P:Program}{f:FuncId}{as0:List Value}{v:Value}{h:SH}(hc:as0.all yB=true)(hv:yB v=true)
  (k:∀w:World,GW w.heap.size w->Calls P f as0.toArray w λe w'=>e=.returned v/\Below w.heap.size w w'):zH P f as0 h λr q=>r=v/\q=h:=by
 unfold zH;intro H i;unfold Run;intro B0 w0 φs Ls φ w vs he hr hvs;rw[zVq hc hvs];refine(k w (hr.gw.on hr.below (Nat.le_trans hr.b0 hr.below.size))).mono ?_;rintro e w' ⟨rfl,hb⟩;exact⟨φ,v,H,v,he,hr.later hb,rfl,Val.const hv,h,⟨rfl,rfl⟩,i⟩
end Go.Gh
end
section
set_option maxRecDepth 4000
namespace Go.Gh
open Go.RowKit Go.ChangeShapes

section
variable {H:Type} {enc:TypeId × Value->H} {P:Program}
theorem zYv (hl:laidOutB P=true){W W':World}(hb:Below W.heap.size W W'):∀{ts:List TypeId} {vs:List Value} {ds:List (DataW H)} {ps:List MemPlace},
  (ts.all λt=>P.readableRec t && decide (t<P.types.size))=true->DataW.TrodAll enc P W 0 (λ_=>true) true ts vs ds ps->(∀x∈ps,x.block<W.heap.size) ->
  DataW.TrodAll enc P W' 0 (λb=>decide (b<W.heap.size)) true ts vs ds ps:=by
 intro ts
 induction ts with
 |nil=>intro vs ds ps _ h _;cases vs <;> cases ds <;> first|exact h|exact h.elim
 |cons t ts ih =>
  intro vs ds ps hr h hlt;simp only[List.all_cons,Bool.and_eq_true,decide_eq_true_eq]at hr;cases vs with
  |nil=>exact h.elim
  |cons v vs =>
   cases ds with
   |nil=>exact h.elim
   |cons d ds =>
    obtain⟨p,q,h1,h2,rfl⟩:=h;exact⟨p,q,Below.trod hl hr.1.1 hr.1.2 h1 hb (λx hx=>hlt x (List.mem_append_left _ hx)),ih (by simpa using hr.2) h2 (λx hx=>hlt x (List.mem_append_right _ hx)),rfl⟩

theorem post_law {f:Func}{s:ChangeSpec}{W W':World}{args:Array Value}{ds gs:List (DataW H)}{before:List MemPlace}{tb:TypeId}(hl:laidOutB P=true)
  (hW:DataW.Whole enc P f.params.toList s.vars false W args.toList ds gs before) (hv:s.vars=[]) (hr:(f.params.toList.all λt=>P.readableRec t && decide (t<P.types.size))=true)
  (ht:f.resultTypes=#[tb]) (hk:P.underlying tb=some .bool) (hs:(s.fn H ds).results=[.lit (.bool true)]/\(s.fn H ds).args=ds/\(s.fn H ds).vars=[]) (hb:Below W.heap.size W W') :
  s.post enc P f false true false false W args (.bool true) W':=by
 have hlt:∀p∈before,p.block<W.heap.size:=λp hp=>hW.lt p hp;have hW1:=hW;obtain⟨p,q,h1,h2,h3,h4,h5⟩:=hW1;rw[hv]at h2;have hg:gs=[]/\q=[]:=by
  cases gs with
  |nil=>exact⟨rfl,h2⟩
  |cons g gs=>exact h2.elim
 obtain⟨rfl,rfl⟩:=hg;rw[List.append_nil]at h3;subst h3;refine⟨ds,[],before,[],before,[],hW,?_,?_,?_,World.keptBut_mono (λx hx=>⟨hx,.inr (.inl hx)⟩) (hb.frame (·∈before)),λh=>by cases h⟩
 ·rw[List.append_nil,hs.1,ht]
  exact⟨[],[],shut_bool hk true,rfl,rfl⟩
 ·rw[List.append_nil,hs.2.1]
  exact zYv hl hb hr h1 hlt
 ·rw[List.append_nil,hs.2.2,hv];rfl
end
end Go.Gh
namespace Go.Gh
open Go.RowKit
end Go.Gh
end
section
namespace Go.Proofs
open Go.Shelf
def Tryz.lays156_ren :Go.Shelf.Ren:=⟨λ|156=>103|165=>172|166=>86|169=>83|240=>149|241=>227|276=>195|277=>288|n=>n,λ|31=>89|9=>9|3=>3|4=>4|0=>0|20=>20|72=>171|76=>181|70=>168|37=>169|75=>180|127=>229|164=>271|5=>5|80=>177|n=>n,λ|n=>n⟩
theorem Tryz.lays156 :Go.Proofs.Lays.n156 Tryz.prog Tryz.lays156_ren:={
 mixed:=by kernel_rfl
 f156:=Tryz.func103.trans (congrArg some (by kernel_rfl))
 f165:=Tryz.func172.trans (congrArg some (by kernel_rfl))
 f166:=Tryz.func86.trans (congrArg some (by kernel_rfl))
 f169:=Tryz.func83.trans (congrArg some (by kernel_rfl))
 f240:=Tryz.func149.trans (congrArg some (by kernel_rfl))
 f241:=Tryz.func227.trans (congrArg some (by kernel_rfl))
 f276:=Tryz.func195.trans (congrArg some (by kernel_rfl))
 f277:=Tryz.func288.trans (congrArg some (by kernel_rfl))
 t0:=Tryz.underlying0
 a0:=Tryz.isAgg0
 z0:=Tryz.sizeOf0
 v0:=Tryz.zeroValue0
 t3:=Tryz.underlying3
 a3:=Tryz.isAgg3
 z3:=Tryz.sizeOf3
 v3:=Tryz.zeroValue3
 t4:=Tryz.underlying4
 a4:=Tryz.isAgg4
 z4:=Tryz.sizeOf4
 v4:=Tryz.zeroValue4
 t9:=Tryz.underlying9
 a9:=Tryz.isAgg9
 z9:=Tryz.sizeOf9
 v9:=Tryz.zeroValue9
 t20:=Tryz.underlying20
 a20:=Tryz.isAgg20
 z20:=Tryz.sizeOf20
 v20:=Tryz.zeroValue20
 t31:=Tryz.underlying89
 a31:=Tryz.isAgg89
 z31:=Tryz.sizeOf89
 v31:=Tryz.zeroValue89
 t37:=Tryz.underlying169
 a37:=Tryz.isAgg169
 z37:=Tryz.sizeOf169
 v37:=Tryz.zeroValue169
 t70:=Tryz.underlying168
 a70:=Tryz.isAgg168
 z70:=Tryz.sizeOf168
 v70:=Tryz.zeroValue168
 t72:=Tryz.underlying171
 a72:=Tryz.isAgg171
 z72:=Tryz.sizeOf171
 v72:=Tryz.zeroValue171
 t75:=Tryz.underlying180
 a75:=Tryz.isAgg180
 z75:=Tryz.sizeOf180
 v75:=Tryz.zeroValue180
 t76:=Tryz.underlying181
 a76:=Tryz.isAgg181
 z76:=Tryz.sizeOf181
 v76:=Tryz.zeroValue181
 t127:=Tryz.underlying229
 a127:=Tryz.isAgg229
 z127:=Tryz.sizeOf229
 v127:=Tryz.zeroValue229
 t164:=Tryz.underlying271
 a164:=Tryz.isAgg271
 z164:=Tryz.sizeOf271
 v164:=Tryz.zeroValue271 }
theorem Tryz.Builder_Extra_156 :Builder.Extra Tryz.prog Tryz.lays156_ren:={
 sizeBuilder:=by kernel_rfl
 liesBuilder:=by kernel_rfl
 t5:=Tryz.underlying5
 a5:=Tryz.isAgg5
 z5:=Tryz.sizeOf5
 v5:=Tryz.zeroValue5
 infoByte:=by kernel_rfl
 cellsByte:=by kernel_rfl
 sizeByte:=by kernel_rfl
 neB5:=by decide }
open Go.RowKit in
theorem Tryz.strings_Join (bk o c:Nat)(xs:List ByteArray)(sep:ByteArray)(w:World)(hcells:∀(j:Nat) x,xs[j]?=some x->w.cell? ⟨bk,o+j,none⟩=some (.string x))(hbk:bk<w.heap.size)(hN:xs.length<=140737488355328)(hcap:xs.length<=c)(hlen:(Lib.join (xs.map (·.data.toList)) sep.data.toList).length<=140737488355328) :
  Calls Tryz.prog 103 #[.slice (some ⟨bk,o,none⟩) xs.length c,.string sep] w λe w'=>e=.returned (.string ⟨(Lib.join (xs.map (·.data.toList)) sep.data.toList).toArray⟩)/\Below w.heap.size w w':=Any.strings_Join Tryz.lays156 Tryz.Builder_Extra_156 bk o c xs sep w hcells hbk hN hcap hlen
def Tryz.laysM171_ren :Go.Shelf.Ren:=⟨λ|171=>87|243=>150|246=>196|283=>245|284=>246|285=>247|286=>248|129=>279|317=>303|318=>304|319=>305|320=>306|337=>335|338=>336|n=>n,λ|3=>3|9=>9|2=>2|4=>4|171=>311|0=>0|53=>312|37=>169|5=>5|173=>315|212=>353|51=>328|20=>20|213=>354|46=>259|232=>400|233=>401|n=>n,λ|17=>0|18=>6|19=>7|n=>n⟩
theorem Tryz.laysM171 :Go.Proofs.LaysM.n171 Tryz.prog Tryz.laysM171_ren:={
 mixed:=by kernel_rfl
 f129:=Tryz.func279.trans (congrArg some (by kernel_rfl))
 f171:=Tryz.func87.trans (congrArg some (by kernel_rfl))
 f243:=Tryz.func150.trans (congrArg some (by kernel_rfl))
 f246:=Tryz.func196.trans (congrArg some (by kernel_rfl))
 f283:=Tryz.func245.trans (congrArg some (by kernel_rfl))
 f284:=Tryz.func246.trans (congrArg some (by kernel_rfl))
 f285:=Tryz.func247.trans (congrArg some (by kernel_rfl))
 f286:=Tryz.func248.trans (congrArg some (by kernel_rfl))
 f317:=Tryz.func303.trans (congrArg some (by kernel_rfl))
 f318:=Tryz.func304.trans (congrArg some (by kernel_rfl))
 f319:=Tryz.func305.trans (congrArg some (by kernel_rfl))
 f320:=Tryz.func306.trans (congrArg some (by kernel_rfl))
 f337:=Tryz.func335.trans (congrArg some (by kernel_rfl))
 f338:=Tryz.func336.trans (congrArg some (by kernel_rfl))
 t0:=Tryz.underlying0
 a0:=Tryz.isAgg0
 z0:=Tryz.sizeOf0
 v0:=Tryz.zeroValue0
 t2:=Tryz.underlying2
 a2:=Tryz.isAgg2
 z2:=Tryz.sizeOf2
 v2:=Tryz.zeroValue2
 t3:=Tryz.underlying3
 a3:=Tryz.isAgg3
 z3:=Tryz.sizeOf3
 v3:=Tryz.zeroValue3
 t4:=Tryz.underlying4
 a4:=Tryz.isAgg4
 z4:=Tryz.sizeOf4
 v4:=Tryz.zeroValue4
 t5:=Tryz.underlying5
 a5:=Tryz.isAgg5
 z5:=Tryz.sizeOf5
 v5:=Tryz.zeroValue5
 t9:=Tryz.underlying9
 a9:=Tryz.isAgg9
 z9:=Tryz.sizeOf9
 v9:=Tryz.zeroValue9
 t20:=Tryz.underlying20
 a20:=Tryz.isAgg20
 z20:=Tryz.sizeOf20
 v20:=Tryz.zeroValue20
 t37:=Tryz.underlying169
 a37:=Tryz.isAgg169
 z37:=Tryz.sizeOf169
 v37:=Tryz.zeroValue169
 t46:=Tryz.underlying259
 a46:=Tryz.isAgg259
 z46:=Tryz.sizeOf259
 v46:=Tryz.zeroValue259
 t51:=Tryz.underlying328
 a51:=Tryz.isAgg328
 z51:=Tryz.sizeOf328
 v51:=Tryz.zeroValue328
 t53:=Tryz.underlying312
 a53:=Tryz.isAgg312
 z53:=Tryz.sizeOf312
 v53:=Tryz.zeroValue312
 t171:=Tryz.underlying311
 a171:=Tryz.isAgg311
 z171:=Tryz.sizeOf311
 v171:=Tryz.zeroValue311
 t173:=Tryz.underlying315
 a173:=Tryz.isAgg315
 z173:=Tryz.sizeOf315
 v173:=Tryz.zeroValue315
 t212:=Tryz.underlying353
 a212:=Tryz.isAgg353
 z212:=Tryz.sizeOf353
 v212:=Tryz.zeroValue353
 t213:=Tryz.underlying354
 a213:=Tryz.isAgg354
 z213:=Tryz.sizeOf354
 t232:=Tryz.underlying400
 a232:=Tryz.isAgg400
 z232:=Tryz.sizeOf400
 v232:=Tryz.zeroValue400
 t233:=Tryz.underlying401
 a233:=Tryz.isAgg401
 z233:=Tryz.sizeOf401
 v233:=Tryz.zeroValue401
 g17:=by kernel_rfl
 g18:=by kernel_rfl
 g19:=by kernel_rfl
 i0:=by kernel_rfl
 i2:=by kernel_rfl
 i3:=by kernel_rfl
 i4:=by kernel_rfl
 i5:=by kernel_rfl
 i9:=by kernel_rfl
 i20:=by kernel_rfl
 i37:=by kernel_rfl
 i46:=by kernel_rfl
 i51:=by kernel_rfl
 i53:=by kernel_rfl
 i171:=by kernel_rfl
 i173:=by kernel_rfl
 i212:=by kernel_rfl
 i232:=by kernel_rfl
 i233:=by kernel_rfl
 m17:=by kernel_rfl
 m18:=by kernel_rfl
 m19:=by kernel_rfl }
open Go.RowKit Go.Sort Go.Lib in
theorem Tryz.strconv_Itoa (n:Int)(h0:-9223372036854775808<=n)(h1:n<=9223372036854775807)(w:World)(htab:Lib.TabIs Tryz.prog w "internal/strconv.uint64pow10" .u64 Lib.pow10Tab) :
  Calls Tryz.prog 87 #[.int .i64 n] w λe w'=>e=.returned (.string ⟨(Lib.itoa n).toArray⟩)/\∃k os,w'=grow (w.drewN k) os:=Any.strconv_Itoa Tryz.laysM171 n h0 h1 w htab
def Tryz.lays143_ren :Go.Shelf.Ren:=⟨λ|143=>291|219=>327|217=>323|225=>283|224=>282|267=>349|266=>347|314=>357|n=>n,λ|9=>9|3=>3|4=>4|5=>5|46=>259|146=>402|51=>328|n=>n,λ|1=>1|n=>n⟩
theorem Tryz.lays143 :Go.Proofs.Lays.n143 Tryz.prog Tryz.lays143_ren:={
 mixed:=by kernel_rfl
 f143:=Tryz.func291.trans (congrArg some (by kernel_rfl))
 f217:=Tryz.func323.trans (congrArg some (by kernel_rfl))
 f219:=Tryz.func327.trans (congrArg some (by kernel_rfl))
 f224:=Tryz.func282.trans (congrArg some (by kernel_rfl))
 f225:=Tryz.func283.trans (congrArg some (by kernel_rfl))
 f266:=Tryz.func347.trans (congrArg some (by kernel_rfl))
 f267:=Tryz.func349.trans (congrArg some (by kernel_rfl))
 f314:=Tryz.func357.trans (congrArg some (by kernel_rfl))
 t3:=Tryz.underlying3
 a3:=Tryz.isAgg3
 z3:=Tryz.sizeOf3
 v3:=Tryz.zeroValue3
 t4:=Tryz.underlying4
 a4:=Tryz.isAgg4
 z4:=Tryz.sizeOf4
 v4:=Tryz.zeroValue4
 t5:=Tryz.underlying5
 a5:=Tryz.isAgg5
 z5:=Tryz.sizeOf5
 v5:=Tryz.zeroValue5
 t9:=Tryz.underlying9
 a9:=Tryz.isAgg9
 z9:=Tryz.sizeOf9
 v9:=Tryz.zeroValue9
 t46:=Tryz.underlying259
 a46:=Tryz.isAgg259
 z46:=Tryz.sizeOf259
 v46:=Tryz.zeroValue259
 t51:=Tryz.underlying328
 a51:=Tryz.isAgg328
 z51:=Tryz.sizeOf328
 v51:=Tryz.zeroValue328
 t146:=Tryz.underlying402
 a146:=Tryz.isAgg402
 z146:=Tryz.sizeOf402
 v146:=Tryz.zeroValue402
 g1:=by kernel_rfl }
open Go.RowKit Go.Lib in
theorem Tryz.strings_Index_one (s:ByteArray)(c:UInt8)(w:World) :
  Calls Tryz.prog 291 #[.string s,.string ⟨#[c]⟩] w λe w'=>e=.returned (.int .i64 (Lib.indexByte s.data.toList c))/\w'=w:=Any.strings_Index_one Tryz.lays143 s c w
def Tryz.lays138_ren :Go.Shelf.Ren:=⟨λ|138=>290|195=>325|218=>326|143=>291|219=>327|217=>323|225=>283|224=>282|267=>349|266=>347|314=>357|n=>n,λ|9=>9|3=>3|4=>4|5=>5|0=>0|46=>259|146=>402|51=>328|n=>n,λ|1=>1|n=>n⟩
theorem Tryz.lays138 :Go.Proofs.Lays.n138 Tryz.prog Tryz.lays138_ren:={
 mixed:=by kernel_rfl
 f138:=Tryz.func290.trans (congrArg some (by kernel_rfl))
 f143:=Tryz.func291.trans (congrArg some (by kernel_rfl))
 f195:=Tryz.func325.trans (congrArg some (by kernel_rfl))
 f217:=Tryz.func323.trans (congrArg some (by kernel_rfl))
 f218:=Tryz.func326.trans (congrArg some (by kernel_rfl))
 f219:=Tryz.func327.trans (congrArg some (by kernel_rfl))
 f224:=Tryz.func282.trans (congrArg some (by kernel_rfl))
 f225:=Tryz.func283.trans (congrArg some (by kernel_rfl))
 f266:=Tryz.func347.trans (congrArg some (by kernel_rfl))
 f267:=Tryz.func349.trans (congrArg some (by kernel_rfl))
 f314:=Tryz.func357.trans (congrArg some (by kernel_rfl))
 t0:=Tryz.underlying0
 a0:=Tryz.isAgg0
 z0:=Tryz.sizeOf0
 v0:=Tryz.zeroValue0
 t3:=Tryz.underlying3
 a3:=Tryz.isAgg3
 z3:=Tryz.sizeOf3
 v3:=Tryz.zeroValue3
 t4:=Tryz.underlying4
 a4:=Tryz.isAgg4
 z4:=Tryz.sizeOf4
 v4:=Tryz.zeroValue4
 t5:=Tryz.underlying5
 a5:=Tryz.isAgg5
 z5:=Tryz.sizeOf5
 v5:=Tryz.zeroValue5
 t9:=Tryz.underlying9
 a9:=Tryz.isAgg9
 z9:=Tryz.sizeOf9
 v9:=Tryz.zeroValue9
 t46:=Tryz.underlying259
 a46:=Tryz.isAgg259
 z46:=Tryz.sizeOf259
 v46:=Tryz.zeroValue259
 t51:=Tryz.underlying328
 a51:=Tryz.isAgg328
 z51:=Tryz.sizeOf328
 v51:=Tryz.zeroValue328
 t146:=Tryz.underlying402
 a146:=Tryz.isAgg402
 z146:=Tryz.sizeOf402
 v146:=Tryz.zeroValue402
 g1:=by kernel_rfl }
open Go.RowKit Go.Lib in
theorem Tryz.strings_Count_one (s:ByteArray)(c:UInt8)(w:World) :
  Calls Tryz.prog 290 #[.string s,.string ⟨#[c]⟩] w λe w'=>e=.returned (.int .i64 (Lib.countByte s.data.toList c))/\w'=w:=Any.strings_Count_one Tryz.lays138 s c w
def Tryz.lays150_ren :Go.Shelf.Ren:=⟨λ|150=>95|153=>165|152=>206|226=>207|227=>208|228=>209|137=>280|119=>281|224=>282|225=>283|217=>323|266=>347|n=>n,λ|9=>9|4=>4|3=>3|5=>5|21=>21|117=>285|116=>284|0=>0|46=>259|124=>331|n=>n,λ|n=>n⟩
theorem Tryz.lays150 :Go.Proofs.Lays.n150 Tryz.prog Tryz.lays150_ren:={
 mixed:=by kernel_rfl
 f119:=Tryz.func281.trans (congrArg some (by kernel_rfl))
 f137:=Tryz.func280.trans (congrArg some (by kernel_rfl))
 f150:=Tryz.func95.trans (congrArg some (by kernel_rfl))
 f152:=Tryz.func206.trans (congrArg some (by kernel_rfl))
 f153:=Tryz.func165.trans (congrArg some (by kernel_rfl))
 f217:=Tryz.func323.trans (congrArg some (by kernel_rfl))
 f224:=Tryz.func282.trans (congrArg some (by kernel_rfl))
 f225:=Tryz.func283.trans (congrArg some (by kernel_rfl))
 f226:=Tryz.func207.trans (congrArg some (by kernel_rfl))
 f227:=Tryz.func208.trans (congrArg some (by kernel_rfl))
 f228:=Tryz.func209.trans (congrArg some (by kernel_rfl))
 f266:=Tryz.func347.trans (congrArg some (by kernel_rfl))
 t0:=Tryz.underlying0
 a0:=Tryz.isAgg0
 z0:=Tryz.sizeOf0
 v0:=Tryz.zeroValue0
 t3:=Tryz.underlying3
 a3:=Tryz.isAgg3
 z3:=Tryz.sizeOf3
 v3:=Tryz.zeroValue3
 t4:=Tryz.underlying4
 a4:=Tryz.isAgg4
 z4:=Tryz.sizeOf4
 v4:=Tryz.zeroValue4
 t5:=Tryz.underlying5
 a5:=Tryz.isAgg5
 z5:=Tryz.sizeOf5
 v5:=Tryz.zeroValue5
 t9:=Tryz.underlying9
 a9:=Tryz.isAgg9
 z9:=Tryz.sizeOf9
 v9:=Tryz.zeroValue9
 t21:=Tryz.underlying21
 a21:=Tryz.isAgg21
 z21:=Tryz.sizeOf21
 v21:=Tryz.zeroValue21
 t46:=Tryz.underlying259
 a46:=Tryz.isAgg259
 z46:=Tryz.sizeOf259
 v46:=Tryz.zeroValue259
 t116:=Tryz.underlying284
 a116:=Tryz.isAgg284
 z116:=Tryz.sizeOf284
 t117:=Tryz.underlying285
 a117:=Tryz.isAgg285
 z117:=Tryz.sizeOf285
 v117:=Tryz.zeroValue285
 t124:=Tryz.underlying331
 a124:=Tryz.isAgg331
 z124:=Tryz.sizeOf331
 v124:=Tryz.zeroValue331 }
open Go.RowKit Go.Lib in
theorem Tryz.strings_ContainsAny_laid (s chars:ByteArray)(w:World)(hs:s.size<4294967281)(hcs:chars.size<4294967281)(has:∀(j:Nat) b,s.data.toList[j]?=some b->b.toNat<128)(hac:∀(j:Nat) b,chars.data.toList[j]?=some b->b.toNat<128) :
  Calls Tryz.prog 95 #[.string s,.string chars] w λe w'=>e=.returned (.bool (Lib.containsAny s.data.toList chars.data.toList))/\Below w.heap.size w w':=Any.strings_ContainsAny_laid Tryz.lays150 (by kernel_rfl) s chars w hs hcs has hac
def Tryz.lays105_ren :Go.Shelf.Ren:=⟨λ|105=>309|212=>339|99=>66|165=>172|166=>86|170=>340|169=>83|263=>353|264=>354|206=>128|240=>149|241=>227|276=>195|277=>288|n=>n,λ|9=>9|3=>3|4=>4|20=>20|0=>0|46=>259|109=>383|5=>5|72=>171|76=>181|51=>328|146=>402|53=>312|148=>404|70=>168|37=>169|75=>180|127=>229|164=>271|80=>177|n=>n,λ|n=>n⟩
theorem Tryz.lays105 :Go.Proofs.Lays.n105 Tryz.prog Tryz.lays105_ren:={
 mixed:=by kernel_rfl
 f99:=Tryz.func66.trans (congrArg some (by kernel_rfl))
 f105:=Tryz.func309.trans (congrArg some (by kernel_rfl))
 f165:=Tryz.func172.trans (congrArg some (by kernel_rfl))
 f166:=Tryz.func86.trans (congrArg some (by kernel_rfl))
 f169:=Tryz.func83.trans (congrArg some (by kernel_rfl))
 f170:=Tryz.func340.trans (congrArg some (by kernel_rfl))
 f206:=Tryz.func128.trans (congrArg some (by kernel_rfl))
 f212:=Tryz.func339.trans (congrArg some (by kernel_rfl))
 f240:=Tryz.func149.trans (congrArg some (by kernel_rfl))
 f241:=Tryz.func227.trans (congrArg some (by kernel_rfl))
 f263:=Tryz.func353.trans (congrArg some (by kernel_rfl))
 f264:=Tryz.func354.trans (congrArg some (by kernel_rfl))
 f276:=Tryz.func195.trans (congrArg some (by kernel_rfl))
 f277:=Tryz.func288.trans (congrArg some (by kernel_rfl))
 t0:=Tryz.underlying0
 a0:=Tryz.isAgg0
 z0:=Tryz.sizeOf0
 v0:=Tryz.zeroValue0
 t3:=Tryz.underlying3
 a3:=Tryz.isAgg3
 z3:=Tryz.sizeOf3
 v3:=Tryz.zeroValue3
 t4:=Tryz.underlying4
 a4:=Tryz.isAgg4
 z4:=Tryz.sizeOf4
 v4:=Tryz.zeroValue4
 t5:=Tryz.underlying5
 a5:=Tryz.isAgg5
 z5:=Tryz.sizeOf5
 v5:=Tryz.zeroValue5
 t9:=Tryz.underlying9
 a9:=Tryz.isAgg9
 z9:=Tryz.sizeOf9
 v9:=Tryz.zeroValue9
 t20:=Tryz.underlying20
 a20:=Tryz.isAgg20
 z20:=Tryz.sizeOf20
 v20:=Tryz.zeroValue20
 t37:=Tryz.underlying169
 a37:=Tryz.isAgg169
 z37:=Tryz.sizeOf169
 v37:=Tryz.zeroValue169
 t46:=Tryz.underlying259
 a46:=Tryz.isAgg259
 z46:=Tryz.sizeOf259
 v46:=Tryz.zeroValue259
 t51:=Tryz.underlying328
 a51:=Tryz.isAgg328
 z51:=Tryz.sizeOf328
 v51:=Tryz.zeroValue328
 t53:=Tryz.underlying312
 a53:=Tryz.isAgg312
 z53:=Tryz.sizeOf312
 v53:=Tryz.zeroValue312
 t70:=Tryz.underlying168
 a70:=Tryz.isAgg168
 z70:=Tryz.sizeOf168
 v70:=Tryz.zeroValue168
 t72:=Tryz.underlying171
 a72:=Tryz.isAgg171
 z72:=Tryz.sizeOf171
 v72:=Tryz.zeroValue171
 t75:=Tryz.underlying180
 a75:=Tryz.isAgg180
 z75:=Tryz.sizeOf180
 v75:=Tryz.zeroValue180
 t76:=Tryz.underlying181
 a76:=Tryz.isAgg181
 z76:=Tryz.sizeOf181
 v76:=Tryz.zeroValue181
 t109:=Tryz.underlying383
 a109:=Tryz.isAgg383
 z109:=Tryz.sizeOf383
 v109:=Tryz.zeroValue383
 t127:=Tryz.underlying229
 a127:=Tryz.isAgg229
 z127:=Tryz.sizeOf229
 v127:=Tryz.zeroValue229
 t146:=Tryz.underlying402
 a146:=Tryz.isAgg402
 z146:=Tryz.sizeOf402
 v146:=Tryz.zeroValue402
 t148:=Tryz.underlying404
 a148:=Tryz.isAgg404
 z148:=Tryz.sizeOf404
 v148:=Tryz.zeroValue404
 t164:=Tryz.underlying271
 a164:=Tryz.isAgg271
 z164:=Tryz.sizeOf271
 v164:=Tryz.zeroValue271 }
theorem Tryz.Builder_Extra_105 :Builder.Extra Tryz.prog Tryz.lays105_ren:={
 sizeBuilder:=by kernel_rfl
 liesBuilder:=by kernel_rfl
 t5:=Tryz.underlying5
 a5:=Tryz.isAgg5
 z5:=Tryz.sizeOf5
 v5:=Tryz.zeroValue5
 infoByte:=by kernel_rfl
 cellsByte:=by kernel_rfl
 sizeByte:=by kernel_rfl
 neB5:=by decide }
open Go.RowKit Go.Lib in
theorem Tryz.strings_Repeat (s:ByteArray)(c:Nat)(w:World)(hc:c<=9223372036854775807)(hlen:s.size*c<=140737488355328) :
  Calls Tryz.prog 309 #[.string s,.int .i64 c] w λe w'=>e=.returned (.string ⟨(Lib.repeatL s.data.toList c).toArray⟩)/\Below w.heap.size w w':=Any.strings_Repeat Tryz.lays105 Tryz.Builder_Extra_105 s c w hc hlen
end Go.Proofs
end
section
set_option maxRecDepth 4000
namespace Go.Proofs.YtbidadebolllkaaGreatDoor
open Go.Gh Go.RowKit

theorem zBb (x:Int)(h:SH):zH Tryz.prog 177 [I x] h λr q=>r=B false/\q=h:=by
 refine yG Tryz.func177 rfl rfl ?_
 repeat'(first|apply zE|apply zD|apply zC|refine jg ?_ ?_|apply zB|apply zJ|exact jS|fail)
 exact jF (k:=by exact⟨congrArg Value.bool (decide_eq_false (λg=>g rfl)),rfl⟩)
theorem zRc (x y:Int)(h:SH):zH Tryz.prog 117 [I x,I y] h λr q=>r=I (sc3 x y)/\q=h:=by
 unfold sc3;by_cases h1:x<y
 ·rw[if_pos h1]
  refine yJ Tryz.func117 rfl rfl ?_
  repeat'(first|apply zE|apply zD|apply zC|refine jg ?_ ?_|refine jq ?_ (c:=by exact⟨_,zBb _ _,jN⟩)|(apply zX;exact rfl)|refine jd ?_|apply zB|apply zV|apply zL|apply zJ|exact jS|fail)
  all_goals first
   |exact jX
   |exact jG
 ·rw[if_neg h1]
  by_cases h2:y<x
  ·rw[if_pos h2]
   refine yJ Tryz.func117 rfl rfl ?_
   repeat'(first|apply zE|apply zD|apply zC|refine jg ?_ ?_|refine jq ?_ (c:=by exact⟨_,zBb _ _,jN⟩)|(apply zX;exact rfl)|refine jd ?_|refine jf ?_|apply zB|apply zV|apply zL|apply zJ|exact jS|fail)
   all_goals first
    |exact jX
    |exact jG
  ·rw[if_neg h2]
   refine yJ Tryz.func117 rfl rfl ?_
   repeat'(first|apply zE|apply zD|apply zC|refine jg ?_ ?_|refine jq ?_ (c:=by exact⟨_,zBb _ _,jN⟩)|(apply zX;exact rfl)|refine jf ?_|apply zB|apply zL|apply zJ|exact jS|fail)
   all_goals first
    |exact jX
    |exact jG
theorem zYb (n:Int)(h:SH)(hn:-9223372036854775808<=n/\n<=9223372036854775807):zH Tryz.prog 87 [I n] h λr q=>r=S (Lib.itoa n)/\q=h :=
 yFr rfl rfl λw hg=>(Tryz.strconv_Itoa n hn.1 hn.2 w (Lib.TabBelow.here hg)).mono λe w' ⟨h1,k,os,h2⟩=>⟨h1,by rw[h2];exact Lib.below_grow _ w (Nat.le_refl _) k os⟩
abbrev nmV (s:Bool)(v:Value)(e:Int):Value:=.agg ⟨[B s,v,I e]⟩
theorem yAo (s:Bool)(e:Int)(ad:Option Addr)(n fl:Nat)(h:SH)(hn:n<=1000000)(he:-4000000<=e/\e<=4000000):zH Tryz.prog 345 [nmV s (.slice ad n fl) e] h λr q=>r=I (e+n-1)/\q=h:=by
 refine yG Tryz.func345 rfl rfl ?_
 repeat'(first|apply zE|apply zD|apply zC|refine jg ?_ ?_|(apply ja;exact jH)|(apply jm;exact jI)|refine jx ?_|apply zB|apply zJ|exact jS|exact jL|exact jW|exact jE|exact True.intro|intro A|exact rfl)
 all_goals first
  |exact jX
  |exact jG

theorem uG (l:List UInt8)(i:Int):0<=bat l i/\bat l i<=255:=by
 unfold bat;have:=(l.getD i.toNat 0).toNat_lt;omega
theorem aH {l:List UInt8}{i:Nat}(h:i<l.length):bat l (i:Int)=(l[i].toNat:Int):=by
 unfold bat;rw[Int.toNat_natCast,List.getD_eq_getElem?_getD,List.getElem?_eq_getElem h];rfl

theorem kO (n5 n1:Nat)(set s:List UInt8)(p i0:Nat)(h h1:SH)[hpk:Pick h n1 ⟨[S s],false⟩ h1](hs:s.length<=1000)(hset:set.length<=10)(hp:p<s.length)(hi0:i0<set.length)(he:bat set (i0:Int)=bat s (p:Int)) :
  zH Tryz.prog 342 [S set,zG n5 0 1,zG n1 0 1] ((n5,⟨[I p],false⟩)::h) λr q=>r=B true/\q=(n5,⟨[I ((p:Int)+1)],false⟩)::h:=by
 refine wF Tryz.func342 rfl rfl ?_
 repeat'(first|apply zE|apply zD|apply zC|refine jg ?_ ?_|apply zB|apply zM|exact jS|fail)
 all_goals try exact jX
 refine yH (S:=Nat) (λi=>[(0,S set),(1,zG n5 0 1),(2,zG n1 0 1),(7,I set.length),(8,I i)]) (λ_=>(n5,⟨[I p],false⟩)::h) (λi=>i<=i0) (λi=>i0+1-i) 0 (Nat.zero_le _) jB jK ?_;intro i hi;have hb1:=uG s (p:Int);have hb2:=uG set (i:Int);by_cases hc2:bat s (p:Int)=bat set (i:Int)
 ·repeat'(first|apply zE|apply zD|apply zC|refine jr ?_|refine jg ?_ ?_|(apply ja;exact jH)|(apply jm;exact jI)|(apply yV zK;(iterate 4 exact rfl);exact up)|refine jw ?_|refine jh ?_|(apply tC;exact rfl;(focus first|exact ‹_›|omega))|apply zB|apply zV|apply xM|apply zL|apply zJ|apply zM|exact jO|exact jL|exact jW|exact jE|((with_reducible apply Se.mk);first|(focus(repeat(first|exact yD.zero));done))|exact True.intro|exact rfl)
  all_goals try exact jX
  exact jG
 ·have hne:i≠i0:=λg=>hc2 (by rw[g];exact he.symm)
  repeat'(first|apply zE|apply zD|apply zC|refine jr ?_|refine jg ?_ ?_|(apply ja;exact jH)|(apply jm;exact jI)|refine jw ?_|refine jh ?_|refine jd ?_|refine jf ?_|apply zB|apply zQ|apply zL|apply zM|exact jO|exact jL|exact jW|exact jE|exact True.intro|exact rfl)
  all_goals try exact jX
  exact⟨i+1,by show i+1<=i0;omega,by omega,jB,jK⟩
theorem pK (n5 n1:Nat)(set s:List UInt8)(p:Nat)(h h1:SH)[hpk:Pick h n1 ⟨[S s],false⟩ h1](hs:s.length<=1000)(hset:set.length<=10)(hp:p<=s.length)(hno:p=s.length\/∀i:Nat,i<set.length->bat s (p:Int)≠bat set (i:Int)) :
  zH Tryz.prog 342 [S set,zG n5 0 1,zG n1 0 1] ((n5,⟨[I p],false⟩)::h) λr q=>r=B false/\q=(n5,⟨[I p],false⟩)::h:=by
 refine wF Tryz.func342 rfl rfl ?_
 repeat'(first|apply zE|apply zD|apply zC|refine jg ?_ ?_|apply zB|apply zM|exact jS|fail)
 all_goals try exact jX
 refine yH (S:=Nat) (λi=>[(0,S set),(1,zG n5 0 1),(2,zG n1 0 1),(7,I set.length),(8,I i)]) (λ_=>(n5,⟨[I p],false⟩)::h) (λi=>i<=set.length) (λi=>set.length-i) 0 (Nat.zero_le _) jB jK ?_;intro i hi;by_cases hil:i<set.length
 ·have hb1:=uG s (p:Int)
  have hb2:=uG set (i:Int);by_cases hpl:p<s.length
  ·have hne:¬(bat s (p:Int)=bat set (i:Int)):=by
    rcases hno with g|g
    ·omega
    ·exact g i hil
   repeat'(first|apply zE|apply zD|apply zC|refine jr ?_|refine jg ?_ ?_|(apply ja;exact jH)|(apply jm;exact jI)|refine jw ?_|refine jh ?_|refine jd ?_|(apply pT;exact rfl;exact ‹_›)|apply zB|apply zQ|apply zL|apply zM|exact jO|exact jL|exact jW|exact jE|exact True.intro|exact rfl)
   all_goals try exact jX
   exact⟨i+1,by show i+1<=_;omega,by omega,jB,jK⟩
  ·repeat'(first|apply zE|apply zD|apply zC|refine jr ?_|refine jg ?_ ?_|(apply ja;exact jH)|(apply jm;exact jI)|refine jk ?_|(apply tO;(iterate 3 exact rfl);omega;exact rfl)|(apply zX;exact rfl)|refine jd ?_|apply zB|apply zQ|apply zL|apply zM|exact jS|exact jL|exact jW|exact jE|exact True.intro|exact rfl)
   all_goals try exact jX
   exact⟨i+1,by show i+1<=_;omega,by omega,jB,jK⟩
 ·repeat'(first|apply zE|apply zD|apply zC|refine jg ?_ ?_|refine jf ?_|apply zB|apply zW|apply zT|apply zJ|apply zU|exact jS|fail)
  all_goals try exact jX
  exact jG
theorem kV (n5 n1:Nat)(s:List UInt8)(p k:Nat)(h h1:SH)[hpk:Pick h n1 ⟨[S s],false⟩ h1](hs:s.length<=1000)(hk:p+k<=s.length)(hd:∀j:Nat,p<=j->j<p+k->48<=bat s (j:Int)/\bat s (j:Int)<=57)
  (he:p+k=s.length\/bat s ((p+k:Nat):Int)<48\/57<bat s ((p+k:Nat):Int)) :
  zH Tryz.prog 343 [zG n5 0 1,zG n1 0 1] ((n5,⟨[I p],false⟩)::h) λr q=>r=S ((s.drop p).take k)/\q=(n5,⟨[I ((p+k:Nat):Int)],false⟩)::h:=by
 refine yJ Tryz.func343 rfl rfl ?_
 repeat'(first|apply zE|apply zD|apply zC|refine jg ?_ ?_|(apply jm;exact jI)|apply zB|apply zM|exact jS|exact jL|exact jE|exact True.intro|exact rfl)
 all_goals try exact jX
 refine yH (S:=Nat) (λi=>[(0,zG n5 0 1),(1,zG n1 0 1),(3,I p)]) (λi=>(n5,⟨[I ((p+i:Nat):Int)],false⟩)::h) (λi=>i<=k) (λi=>k-i) 0 (Nat.zero_le _) jB jK ?_;intro i hi;have hb1:=uG s ((p+i:Nat):Int);by_cases hik:i<k
 ·have hdi:=hd (p+i) (by omega) (by omega)
  repeat'(first|apply zE|apply zD|apply zC|refine jg ?_ ?_|(apply ja;exact jH)|(apply jm;exact jI)|(apply yV zK;(iterate 4 exact rfl);exact up)|refine jw ?_|refine jh ?_|refine jd ?_|apply zB|apply zQ|apply zL|apply zM|exact jO|exact jL|exact jW|exact jE|((with_reducible apply Se.mk);first|(focus(repeat(first|exact yD.zero));done))|exact True.intro|exact rfl)
  all_goals try exact jX
  exact⟨i+1,by show i+1<=k;omega,by omega,jB,by rw[show((p+i:Nat):Int)+1=((p+(i+1):Nat):Int)by omega];exact jK⟩
 ·obtain rfl:i=k:=by omega
  have hfin:(s.take ((p+i:Nat):Int).toNat).drop ((p:Nat):Int).toNat=(s.drop p).take i:=by
   rw[Int.toNat_natCast,Int.toNat_natCast,List.drop_take,show p+i-p=i by omega]
  by_cases hpl:p+i<s.length
  ·repeat'(first|apply zE|apply zD|apply zC|refine jg ?_ ?_|(apply jm;exact jI)|refine jw ?_|refine jk ?_|refine jh ?_|(apply rX;(iterate 3 exact rfl);all_goals intro hc)|(apply zX;exact rfl)|refine jf ?_|apply zB|apply zW|apply zT|apply zJ|apply zU|exact jO|exact jL|exact jE|exact True.intro|exact rfl)
   all_goals first
    |exact jX
    |exact jF (k:=by exact⟨congrArg S hfin,rfl⟩)
  ·repeat'(first|apply zE|apply zD|apply zC|refine jg ?_ ?_|(apply jm;exact jI)|refine jk ?_|(apply tO;(iterate 3 exact rfl);omega;exact rfl)|(apply zX;exact rfl)|apply zB|apply zW|apply zT|apply zJ|apply zU|exact jO|exact jL|exact jE|exact True.intro|exact rfl)
   all_goals first
    |exact jX
    |exact jF (k:=by exact⟨congrArg S hfin,rfl⟩)
def Dg (q:SH)(v:Value)(ds:List UInt8):Prop:=(ds=[]/\v=.slice none 0 0)\/(ds≠[]/\∃(A off fl:Nat) (bs:List UInt8) (ro:Bool) (q1:SH),v=gsl A off bs.length ds.length fl/\Pick q A ⟨zS bs,ro⟩ q1/\off+ds.length<=bs.length/\(bs.drop off).take ds.length=ds)
theorem Dg.re {q q':SH}{v:Value}{ds:List UInt8}(g:Dg q v ds)(t:zA q' q):Dg q' v ds:=by
 rcases g with⟨g1,g2⟩|⟨g1,A,off,fl,bs,ro,q1,e1,e2,e3,e4⟩
 ·exact .inl ⟨g1,g2⟩
 ·obtain⟨q2,p2,_⟩:=t.pick e2
  exact .inr ⟨g1,A,off,fl,bs,ro,q2,e1,p2,e3,e4⟩
theorem Dg.len {q:SH}{v:Value}{ds:List UInt8}(g:Dg q v ds):∃ad fl,v=.slice ad ds.length fl:=by
 rcases g with⟨rfl,rfl⟩|⟨g1,A,off,fl,bs,ro,q1,rfl,_⟩
 ·exact⟨_,_,rfl⟩
 ·exact⟨_,_,rfl⟩
end Go.Proofs.YtbidadebolllkaaGreatDoor
end
section
set_option maxRecDepth 4000
namespace Go.Gh
open Go.RowKit

theorem yLd {P:Program}(w:World)(t u ty e:TypeId)(i:TypeInfo)(ht:P.underlying t=some (.slice e))(hu:P.underlying u=some .string)(hi:P.info? e=some i)(hs1:i.size=1)
  (b sLen sCap:Nat) {c:Array Value} {T:TypeId} {fz:Nat × Nat} (hg:w.heap[b]?=some (.cells c T fz)) (hfz:∀i,i<c.size->¬(fz.1<=i/\i<fz.2))
  (s:ByteArray) (us:List Value) (hst:Lib.strCells s=us) (hul:us.length=s.size) (h1:∀u∈us,u.oneCell'=true)
  (hroom:sLen+s.size<=sCap) (hfit:sLen*i.size+us.length<=c.size) :
  (Builtin.append_ #[t,u] ty #[.slice (some ⟨b,0,none⟩) sLen sCap,.string s]).run P w =
   .ok (.slice (some ⟨b,0,none⟩) (sLen+s.size) sCap) (w.setCells b (sLen*i.size) us):=by
 have hf:=Lib.run_firstCells_string (P:=P) w 1 s;rw[hst]at hf;have hsc:=zFy (P:=P) hg hfit hfz h1;rw[hs1,Nat.mul_one]at hsc;simp[Builtin.append_,run_underlying ht,run_underlying hu,sizeOf,typeInfo,hi,hs1,Builtin.lenOf,hroom,hf,Addr.add_lit,hsc]
theorem zSn (φ:Fi)(L:zP)(l:List UInt8):yM φ L (zS l) (zS l).toArray:=⟨by simp,λi v hi=>⟨v,by simpa using hi,by
 have:=(List.getElem?_eq_some_iff.1 hi).2;simp at this;rw[<-this];exact .int _ _⟩⟩
theorem zXp (l:List UInt8):(zS l).all one=true:=by
 rw[List.all_eq_true];intro v hv;obtain⟨b,_,rfl⟩:=List.mem_map.1 hv;rfl
section
variable {P:Program} {N:Fr} {ops:Array Oper} {Q:xR} {rest:List Oper} {o:Oper} {a:AF} {H:zI}
theorem zHo (T U:TypeId)(x y:Operand){A n len E s b:Nat}{z:Value}{cells:List Value}{l:List UInt8}{m0 m1:Mk}
  (ho:o.op=.call { callee:=.builtin .append,args:=#[x,y],argTypes:=#[T,U] }) (hx:ev a x=some (gsl A 0 n len s)) (hy:ev a y=some (S l))
  (hT:P.underlying T=some (.slice E)) (hU:P.underlying U=some .string) (hI:yC P E=some (some z,s,b)) (hzs:z.cells.size=s) (hs1:s=1)
  (hA:H[A]?=some (some ⟨cells,m0⟩)) (hn:cells.length=n) (hfull:len*s=n) (hb:(len+l.length)*b<=140737488355328) (h63:len+l.length<=maxLen) (hm0:m0.b=false:=by rfl) (hm1:m1.b=false:=by rfl) (hty:∀t,m1.ty=some t->m0.ty=some t/\t=E:=by nofun)
  : xG P N o a H (gsl A 0 (n+l.length*s) (len+l.length) s) (H.set A (some ⟨cells++zS l,m1⟩)):=by
 have hs:0<s:=by omega
 refine qI (λB0 w0 φ w ac r hf=>?_);obtain⟨cap,hu,hlc,hcm,hsz,hmp⟩:=uV r hA hn (zN hf hx);have hu2:=(zN hf hy).scalar rfl;have hus0:=zSn φ (lens H) l;have h1:=zXp l;have hl:(zS l).length=l.length*s:=by rw[hs1,List.length_map,Nat.mul_one]
 obtain⟨m,hm⟩:∃m,l.length=m:=⟨_,rfl⟩;obtain⟨news,hnw⟩:∃news,zS l=news:=⟨_,rfl⟩;rw[hm]at hl hb h63 ⊢;rw[hnw]at hus0 hl h1 ⊢;obtain⟨us,hue⟩:∃us,us=news:=⟨_,rfl⟩;have hus:yM φ (lens H) news us.toArray:=by rw[hue];exact hus0
 obtain⟨olds,hold,hocell⟩:=rI r hA hmp 0 (vs:=cells) (λi v h=>by simpa using h);obtain⟨c,T',fz,k1,k2,k3,k4,k5,k6⟩:=(r.blk A _ hA).exT hmp;obtain⟨_,hbase⟩:=r.own A _ hA hm0;obtain⟨i,hi,e1,e2,e3⟩:=qN hI;subst e2 e3;simp only at k3 k5;rw[hbase]at hu k3 hocell;simp only[Nat.add_zero]at hu hocell;have hsz':=hsz (by omega);rw[hbase]at hsz';simp only[Nat.zero_add]at hsz';have hul:us.length=m*i.size:=by have:=hus.size;simp at this;omega
 have hol:olds.length=len*i.size:=by have:=hold.size;simp at this;omega
 have hone:=cH hus h1;have hst:Lib.strCells ⟨⟨l⟩⟩=us:=by rw[hue,<-hnw];rfl
 have hss:(⟨⟨l⟩⟩:ByteArray).size=m:=hm;have hAlt:=(List.getElem?_eq_some_iff.1 hA).1;by_cases hroom:len+m<=cap
 ·have hfit:len*i.size+us.length<=c.size:=by
   rw[hul,k2,<-Nat.add_mul];exact Nat.le_trans (Nat.mul_le_mul_right _ hroom) hsz'
  have hrun:=yLd (P:=P) w T U o.type E i hT hU hi hs1 (φ A).b len cap k1 (k4 hm0) ⟨⟨l⟩⟩ us hst (by rw[hss,hul,hs1,Nat.mul_one]) hone (by rw[hss];exact hroom) hfit;rw[hss]at hrun;have hw:=cV us w (φ A).b (len*i.size) c T' fz k1;have key:=dU (w':=w.setCells (φ A).b (len*i.size) us) (g':=⟨cells++news,m1⟩) (l':=φ A) r hA hm0 hw.os hw.tape hw.output (by rw[hw.size];exact Nat.le_refl _) (λk _ hk=>hw.oth k hk) (.inl rfl) hbase hmp hmp hw.block (by rw[tK];exact k2)
   (by rw[tK];simp only[List.length_append];omega) (by rw[tK];exact k4 hm0) (by
    by_cases hm0:m=0
    ·subst hm0;exact .inl ⟨by simp at hl;simp[hl],rfl⟩
    ·refine .inr ?_
     simp only[List.length_append];have:0<m*i.size:=Nat.mul_pos (by omega) hs;omega) (λq v hq=>?_) (λt ht=>k6 t (hty t ht).1)
  ·refine⟨_,.slice (some ⟨(φ A).b,0,none⟩) (len+m) cap,_,key.1,key.2,?_,tB ho (by rw[hu,hu2];exact hrun)⟩
   refine .slc _ _ _ (n+m*i.size) _ _ _ _ ?_ (Nat.le_refl _) hroom hcm (λ_=>⟨by rw[yU,hbase],λ_=>by rw[yU,hbase];omega,by rw[yU];exact hmp⟩);rw[tU hAlt];simp[hn,hl]
  ·have hext:Ext φ (lens H) (upd φ A (φ A)) (lens (H.set A (some ⟨cells++news,m1⟩))):=by
    refine⟨λA' n' hn'=>?_,λ_ h=>h⟩;by_cases e:A'=A
    ·subst e
     rw[wH hA]at hn';simp only[Option.some.injEq]at hn';refine⟨_,tU hAlt,?_⟩;simp only[List.length_append];by_cases hz0:news.length=0
     ·exact .inl ⟨by omega,by rw[yU]⟩
     ·exact .inr ⟨by omega,λh=>by rw[hmp]at h;cases h⟩
    ·exact⟨n',by rw[oQ e];exact hn',.inl ⟨rfl,wX e⟩⟩
   rw[kS _ _ _ _ hfit];simp only at hq;by_cases hql:q<cells.length
   ·rw[List.getElem?_append_left hql]at hq
    rw[if_neg (by omega)];obtain⟨v',g3,g4⟩:=k5 q v hq;rw[hbase,Nat.zero_add]at g3;exact⟨v',g3,g4.mono hext⟩
   ·rw[List.getElem?_append_right (by omega)]at hq
    obtain⟨v',g3,g4⟩:=hus.get _ v hq;have hlt:=(Array.getElem?_eq_some_iff.1 g3).1;simp only[List.size_toArray]at hlt;refine⟨v',?_,g4.mono hext⟩;rw[if_pos (by omega),hfull,<-hn];simpa using g3
 ·have hrun:=Lib.run_append_grow_string (P:=P) w T U o.type E i z hT hU hi e1 ⟨(φ A).b,0,none⟩ len cap olds hol (λj v h=>hocell j v h) ⟨⟨l⟩⟩ (by rw[hss];omega)
   (by rw[hss];unfold maxLen at h63;omega) (by rw[hss];exact growslice_fits (by omega) hb)
  rw[hss,hst]at hrun;have hge:len+m<=grownCap w (len+m) cap E:=grownCap_ge w _ _ _;have hcs:(olds.toArray++us.toArray++Builtin.zeroCells z.cells (grownCap w (len+m) cap E-(len+m))).size=grownCap w (len+m) cap E*i.size:=by
   simp only[Array.size_append,List.size_toArray,size_zeroCells,hzs,hol,hul,<-Nat.add_mul]
   congr 1;omega
  have hle:cells.length+news.length<=grownCap w (len+m) cap E*i.size:=by
   rw[hl,hn,<-hfull,<-Nat.add_mul];exact Nat.mul_le_mul_right _ hge
  have key:=dU (w':=w.drew.alloc (.cells (olds.toArray++us.toArray++Builtin.zeroCells z.cells (grownCap w (len+m) cap E-(len+m))) E)) (g':=⟨cells++news,m1⟩)
   (l':=⟨w.heap.size,0,grownCap w (len+m) cap E*i.size,false⟩) (T:=E) (fz:=(0,0)) r hA hm0 rfl rfl rfl (by simp) (λk hk _=>by exact heap_alloc_old w.drew (.cells (olds.toArray++us.toArray++Builtin.zeroCells z.cells (grownCap w (len+m) cap E-(len+m))) E) hk) (.inr (Nat.le_refl _)) rfl rfl hmp
   (heap_alloc_new w.drew _) hcs (by simp only[List.length_append];rw[hcs];exact hle) (λi _ h=>by simp at h) (by
    refine .inr ?_;simp only[List.length_append];have:0<m*i.size:=Nat.mul_pos (by omega) hs;omega) (λq v hq=>?_) (λt ht=>(hty t ht).2.symm)
  ·refine⟨_,.slice (some ⟨w.heap.size,0,none⟩) (len+m) (grownCap w (len+m) cap E),_,key.1,key.2,?_,tB ho (by rw[hu,hu2];exact hrun)⟩
   refine .slc _ _ _ (n+m*i.size) _ _ _ _ ?_ (Nat.le_refl _) hge (grownCap_le_maxLen w _ _ _ h63) (λ_=>⟨by rw[yU],λ_=>by rw[yU];simp,by rw[yU]⟩);rw[tU hAlt];simp[hn,hl]
  ·have hext:Ext φ (lens H) (upd φ A ⟨w.heap.size,0,grownCap w (len+m) cap E*i.size,false⟩) (lens (H.set A (some ⟨cells++news,m1⟩))):=by
    refine⟨λA' n' hn'=>?_,λ_ h=>h⟩;by_cases e:A'=A
    ·subst e
     rw[wH hA]at hn';simp only[Option.some.injEq]at hn';refine⟨_,tU hAlt,.inr ⟨?_,λh=>by rw[hmp]at h;cases h⟩⟩;simp only[List.length_append];have:0<m*i.size:=Nat.mul_pos (by omega) hs;omega
    ·exact⟨n',by rw[oQ e];exact hn',.inl ⟨rfl,wX e⟩⟩
   simp only at hq;have hql:q<cells.length+news.length:=by have:=(List.getElem?_eq_some_iff.1 hq).1;simpa using this
   rw[Array.getElem?_append_left (by simp;omega)];rcases Nat.lt_or_ge q cells.length with h'|h'
   ·rw[List.getElem?_append_left h']at hq
    obtain⟨v',g3,g4⟩:=hold.get q v hq;refine⟨v',?_,g4.mono hext⟩;rw[Array.getElem?_append_left (by have:=hold.size;omega)];exact g3
   ·rw[List.getElem?_append_right h']at hq
    obtain⟨v',g3,g4⟩:=hus.get _ v hq;refine⟨v',?_,g4.mono hext⟩;rw[Array.getElem?_append_right (by have:=hold.size;omega)];have:=hold.size;rw[this];exact g3
theorem zQs (T U:TypeId)(x y:Operand){E b:Nat}{z:Value}{l:List UInt8}{m0:Mk}
  (ho:o.op=.call { callee:=.builtin .append,args:=#[x,y],argTypes:=#[T,U] }) (hx:ev a x=some (.slice none 0 0)) (hy:ev a y=some (S l))
  (hT:P.underlying T=some (.slice E)) (hU:P.underlying U=some .string) (hI:yC P E=some (some z,1,b)) (hzs:z.cells.size=1)
  (hm:0<l.length) (hb:l.length*b<=281474976710656) (h63:l.length<=maxLen)
  {A0:Nat} {H':zI} (hpl:Place H A0 H' ⟨zS l,m0⟩) (hty:∀t,m0.ty=some t->E=t:=by nofun):xG P N o a H (gsl A0 0 l.length l.length 1) H':=by
 refine qI (λB0 w0 φ w ac r hf=>?_);have hu2:=(zN hf hy).scalar rfl;have hu:ac.eval x=.slice none 0 0:=Val.det rfl (zN hf hx);have hus:=zSn φ (lens H) l;obtain⟨i,hi,e1,e2,e3⟩:=qN hI;have hss:(⟨⟨l⟩⟩:ByteArray).size=l.length:=rfl;have hrun:=run_append_nil_string (P:=P) w T U o.type E i z hT hU hi e1 ⟨⟨l⟩⟩ hm (by rw[hss];unfold maxLen at h63;omega) (by rw[hss,e3];exact hb);have hmap:(⟨⟨l⟩⟩:ByteArray).data.map (λb=>Value.int .u8 (b.toNat:Int))=(zS l).toArray:=by apply Array.ext';simp[lF]
 rw[hmap,hss]at hrun;have hge:l.length<=grownCap w l.length 0 E:=grownCap_ge w _ _ _;have hcs:((zS l).toArray++Builtin.zeroCells z.cells (grownCap w l.length 0 E-l.length)).size=grownCap w l.length 0 E:=by
  simp only[Array.size_append,List.size_toArray,size_zeroCells,hzs,List.length_map];omega
 obtain⟨g1,g2⟩:=pY (w':=w.drew.alloc (.cells ((zS l).toArray++Builtin.zeroCells z.cells (grownCap w l.length 0 E-l.length)) E)) r (ro:=m0) (fz:=(0,0)) hpl hus rfl rfl rfl rfl
  (by rw[hcs,List.size_toArray,List.length_map];exact hge) (λq hq=>by rw[Array.getElem?_append_left hq]) (λi _ h=>by simp at h) hty
 refine⟨_,.slice (some ⟨w.heap.size,0,none⟩) l.length (grownCap w l.length 0 E),_,g1,g2,?_,tB ho (by rw[hu,hu2];exact hrun)⟩;refine .slc _ _ _ l.length _ _ _ _ ?_ (Nat.le_refl _) hge (grownCap_le_maxLen w _ _ _ h63) (λ_=>⟨by rw[yU],λ_=>by rw[yU];simp[hcs],by rw[yU]⟩);rw[hpl.lens];simp
theorem yEg (T:TypeId)(x hi mx:Operand){A off n len fl E s b:Nat}{z:Option Value}{j k:IntKind}{h:Int}(ho:o.op=.slice T x none (some hi) (some mx))(hx:ev a x=some (gsl A off n len fl))
  (hhi:ev a hi=some (.int j h)) (hmx:ev a mx=some (.int k h)) (hT:P.underlying T=some (.slice E)) (hI:yC P E=some (z,s,b)) (h1:0<=h/\h<=len):zR P N o a H (gsl A off n h.toNat 0):=by
 refine⟨λB0 w0 φ w ac r hf=>?_⟩;have hu:=zN hf hx;have e2:=(zN hf hhi).scalar rfl;have e3:=(zN hf hmx).scalar rfl;generalize hv:ac.eval x=u at hu;cases hu with
 |slc _ _ _ m _ _ cap c hL hle hc hm hh =>
  refine⟨.slice (some c) h.toNat h.toNat,.slc _ _ _ m _ _ _ _ hL hle (Nat.le_refl _) (by omega) (λe=>⟨(hh e).1,λq=>absurd rfl q,(hh e).2.2⟩),λw _=>?_⟩;unfold execOp;simp only[ho,hv,e2,e3,Instr.sliceAt,Instr.slice,Option.map_some,Option.map_none,Sem.run_bind,run_underlying hT,Result.andThen_ok,Instr.sliceBounds,Instr.sliceBound,asIntOf,Sem.run_pure,
   Sem.run_ite,if_pos (show 0<=h/\h<=(cap:Int)from⟨by omega,by omega⟩),if_pos (show 0<=h/\h<=(h.toNat:Int)from⟨by omega,by omega⟩),wV hI,Nat.zero_mul]
  simp[Addr.add]
end
section
variable {m:Gh.Mode} {P:Program} {sz:Nat} {ops:Array Oper} {Q:wA} {rest:List Oper} {a:AF} {h h':SH} {t:Nat} {ty:TypeId} {pos:String} {aft:Array Edge} {tt:TT}
theorem zNo {T U:Nat}{x y:Operand}{A n len E s1 b1 s b:Nat}{tk:TK}{z1:Option Value}{z:Value}{cells:List Value}{l:List UInt8}{e2:TE}(ht:tt.Ok P)(hx:ev a x=some (gsl A 0 n len s))(hy:ev a y=some (S l))(hT:tt.get T=some ⟨.slice E,s1,b1,z1⟩)(hE:tt.get E=some ⟨tk,s,b,some z⟩)
  (hU:tt.get U=some e2) (k2:e2.k=.str) (hzs:(mG z).length=s) (hs:s=1) (hu:Upd h A ⟨cells,false⟩ ⟨cells++zS l,false⟩ h') (hn:Ln (cells.length=n)) (hfull:Ln (len*s=n)) (hN:Nat.blt t sz=true)
  (hb:Sd ((len+l.length)*b<=140737488355328/\len+l.length<=maxLen)) (hok:m.efOk ops h') (k:GO (m.ef h) P sz ops Q rest ((t,gsl A 0 (n+l.length*s) (len+l.length) s)::a) h') :
  GO m P sz ops Q (⟨some t,.call { callee:=.builtin .append,args:=#[x,y],argTypes:=#[T,U] },ty,pos,aft,none⟩::rest) a h:=by
 obtain⟨_,hI,hz'⟩:=xQ (TT.get_ok ht hE);have hzs':z.cells.size=s:=by rw[<-Array.length_toList,lT,hzs]
 exact nN hN hu (λ_ _ _ hA hag=>zHo T U x y rfl ((hag.ev (by simp[Op.operands,Call.operands])).trans hx) ((hag.ev (by simp[Op.operands,Call.operands])).trans hy) (vP (TT.get_ok ht hT) rfl) (mC (TT.get_ok ht hU) k2) (hz' _ rfl▸hI) hzs' hs hA hn.1 hfull.1 hb.1.1 hb.1.2) hok k
theorem zFp {T U:Nat}{x y:Operand}{E s1 b1 b:Nat}{tk:TK}{z1:Option Value}{z:Value}{l:List UInt8}{e2:TE}(ht:tt.Ok P)(hx:ev a x=some (.slice none 0 0))(hy:ev a y=some (S l))(hT:tt.get T=some ⟨.slice E,s1,b1,z1⟩)(hE:tt.get E=some ⟨tk,1,b,some z⟩)
  (hU:tt.get U=some e2) (k2:e2.k=.str) (hzs:(mG z).length=1) (hN:Nat.blt t sz=true) (hb:Sd (0<l.length/\l.length*b<=281474976710656/\l.length<=maxLen))
  (k:∀A,GO (m.nw h (A,⟨zS l,false⟩)) P sz ops Q rest ((t,gsl A 0 l.length l.length 1)::a) ((A,⟨zS l,false⟩)::h)) :
  GO m P sz ops Q (⟨some t,.call { callee:=.builtin .append,args:=#[x,y],argTypes:=#[T,U] },ty,pos,aft,none⟩::rest) a h:=by
 obtain⟨_,hI,hz'⟩:=xQ (TT.get_ok ht hE);have hzs':z.cells.size=1:=by rw[<-Array.length_toList,lT,hzs]
 exact mH (v:=λA=>gsl A 0 _ _ _) hN (λ_ _ _ _ _ hpl hag=>zQs T U x y rfl ((hag.ev (by simp[Op.operands,Call.operands])).trans hx) ((hag.ev (by simp[Op.operands,Call.operands])).trans hy) (vP (TT.get_ok ht hT) rfl) (mC (TT.get_ok ht hU) k2) (hz' _ rfl▸hI) hzs' hb.1.1 hb.1.2.1 hb.1.2.2 hpl) k
theorem zWc {T:Nat}{x y z:Operand}{A off n len fl E s1 b1:Nat}{z1:Option Value}{j kk:IntKind}{i:Int}{e:TE}(ht:tt.Ok P)(hx:ev a x=some (gsl A off n len fl))(hy:ev a y=some (.int j i))(hz:ev a z=some (.int kk i))(hT:tt.get T=some ⟨.slice E,s1,b1,z1⟩)(hE:tt.get E=some e)
  (hi:Sd (0<=i/\i<=len)) (hN:Nat.blt t sz=true) (k:GO m.next P sz ops Q rest ((t,gsl A off n i.toNat 0)::a) h):GO m P sz ops Q (⟨some t,.slice T x none (some y) (some z),ty,pos,aft,none⟩::rest) a h :=
 qL (λ_ _ _ hag=>let ⟨_,hI,_⟩:=xQ (TT.get_ok ht hE);yEg T x y z rfl ((hag.ev (by simp[Op.operands,Call.operands])).trans hx) ((hag.ev (by simp[Op.operands,Call.operands])).trans hy) ((hag.ev (by simp[Op.operands,Call.operands])).trans hz) (vP (TT.get_ok ht hT) rfl) hI hi.1) hN k
end

theorem zXa (t:List UInt8)(o n:Nat):zS ((t.drop o).take n)=((zS t).drop o).take n:=by
 simp[zS,List.map_take,List.map_drop]
theorem zUk {t:List UInt8}{o n:Nat}(h:o+n<=t.length):xF (zS t) (0+o*1) (zS ((t.drop o).take n)):=by
 rw[zXa,Nat.zero_add,Nat.mul_one];exact zHs (by simp;omega)
end Go.Gh
end
section
set_option maxRecDepth 4000
namespace Go.Proofs.YtbidadebolllkaaGreatDoor
open Go.Gh Go.RowKit

theorem zMb {bs ds:List UInt8}{off k:Nat}(h:(bs.drop off).take k=ds)(hk:off+k<=bs.length){j:Nat}(hj:j<k):bat bs ((off+j:Nat):Int)=bat ds (j:Int):=by
 rw[<-h];unfold bat;rw[Int.toNat_natCast,Int.toNat_natCast,List.getD_eq_getElem?_getD,List.getD_eq_getElem?_getD,List.getElem?_take,if_pos hj,List.getElem?_drop]
theorem fY :∀(l:List UInt8),∃j,zl l=l.drop j/\j<=l.length/\(∀i:Nat,i<j->bat l (i:Int)=48)/\(j<l.length->bat l (j:Int)≠48)
 |[]=>⟨0,rfl,Nat.le_refl _,λi h=>absurd h (Nat.not_lt_zero i),λh=>absurd h (Nat.not_lt_zero 0)⟩
 |b::r=>by
  obtain⟨j,h1,h2,h3,h4⟩:=fY r;have hs:∀i:Nat,bat (b::r) ((i+1:Nat):Int)=bat r (i:Int):=λi=>rfl;have h0:bat (b::r) ((0:Nat):Int)=(b.toNat:Int):=rfl;unfold zl;split
  ·rename_i g
   refine⟨j+1,h1,by rw[List.length_cons];omega,λi hi=>?_,λhj=>?_⟩
   ·cases i with
    |zero=>rw[h0];omega
    |succ i=>rw[hs];exact h3 i (by omega)
   ·rw[hs];exact h4 (by rw[List.length_cons]at hj;omega)
  ·rename_i g
   refine⟨0,rfl,Nat.zero_le _,λi h=>absurd h (Nat.not_lt_zero i),λ_=>?_⟩;rw[h0];omega
theorem bV :∀(l:List UInt8),∃k,zr l=l.take k/\k<=l.length/\(∀i:Nat,k<=i->i<l.length->bat l (i:Int)=48)/\(0<k->bat l ((k-1:Nat):Int)≠48)
 |[]=>⟨0,rfl,Nat.le_refl _,λi h1 h2=>absurd h2 (Nat.not_lt_zero i),λh=>absurd h (Nat.not_lt_zero 0)⟩
 |b::r=>by
  obtain⟨k,h1,h2,h3,h4⟩:=bV r;have hs:∀i:Nat,bat (b::r) ((i+1:Nat):Int)=bat r (i:Int):=λi=>rfl;have h0:bat (b::r) ((0:Nat):Int)=(b.toNat:Int):=rfl;have hlk:(zr r).length=k:=by rw[h1,List.length_take];omega
  unfold zr;split
  ·rename_i g
   have hk0:k=0:=by rw[<-hlk,g.1];rfl
   refine⟨0,rfl,Nat.zero_le _,λi _ hi=>?_,λh=>absurd h (Nat.not_lt_zero 0)⟩;cases i with
   |zero=>rw[h0];omega
   |succ i=>rw[hs];exact h3 i (by omega) (by rw[List.length_cons]at hi;omega)
  ·rename_i g
   refine⟨k+1,by rw[h1];rfl,by rw[List.length_cons];omega,λi hi hl=>?_,λ_=>?_⟩
   ·cases i with
    |zero=>omega
    |succ i=>rw[hs];exact h3 i (by omega) (by rw[List.length_cons]at hl;omega)
   ·rw[show k+1-1=k by omega]
    cases k with
    |zero =>
     rw[h0];have:zr r=[]:=List.length_eq_zero_iff.1 hlk;have:¬b.toNat=48:=λe=>g ⟨this,e⟩;omega
    |succ k=>rw[hs];exact h4 (by omega)
abbrev kF (A off n k j fl:Nat):Value:=if j<k then gsl A (off+j) n (k-j) fl else iL
theorem yBu (A off fl:Nat)(bs ds:List UInt8)(ro:Bool)(h h1:SH)[hp:Pick h A ⟨zS bs,ro⟩ h1](hb:bs.length<=1000000)(hd:off+ds.length<=bs.length)(hs:(bs.drop off).take ds.length=ds)(h0:ds≠[]) :
  zH Tryz.prog 359 [gsl A off bs.length ds.length fl,.int .u8 48] h λr q=>(∃j fl',zl ds=ds.drop j/\j<=ds.length/\r=if j<ds.length then gsl A (off+j) bs.length (ds.length-j) fl' else .slice none 0 0)/\q=h:=by
 obtain⟨j0,z1,z2,z3,z4⟩:=fY ds;have hl0:=List.length_pos_iff.2 h0;have hlb:(zS bs).length=bs.length:=by simp
 refine yJ Tryz.func359 rfl rfl ?_
 repeat'(first|apply zE|apply zD|apply zC|refine jg ?_ ?_|apply zB|apply zM|exact jS|fail)
 all_goals try exact jX
 refine yH (S:=Nat × Nat) (λx=>[(0,kF A off bs.length ds.length x.1 x.2),(1,.int .u8 48)]) (λ_=>h) (λx=>x.1<=j0) (λx=>j0+1-x.1) (0,fl) (Nat.zero_le _) ⟨congrArg some (show gsl A off bs.length ds.length fl=kF A off bs.length ds.length 0 fl by unfold kF;rw[if_pos hl0];rfl),rfl,trivial⟩ jK ?_;rintro⟨j,fl1⟩ hj;dsimp only at hj ⊢;by_cases hjk:j<ds.length
 ·unfold kF
  rw[if_pos hjk];have hb0:=zMb hs hd hjk;have hb255:=uG ds (j:Int);have hcell:(zS bs)[off+j+(0:Int).toNat*1]?=some (.int .u8 (bat ds (j:Int))):=by
   rw[<-hb0,show off+j+(0:Int).toNat*1=(((off+j:Nat):Int)).toNat from rfl];have:=aJ (l:=bs) (i:=((off+j:Nat):Int)) (by omega);rwa [show 0+(((off+j:Nat):Int)).toNat*1=(((off+j:Nat):Int)).toNat by omega]at this
  by_cases hjj:j<j0
  ·have h48:=z3 j hjj
   by_cases hlast:j+1<ds.length
   ·skip
    repeat'(first|apply zE|apply zD|apply zC|refine jg ?_ ?_|(apply jm;exact jI)|refine jw ?_|refine jh ?_|refine jd ?_|apply zB|apply zQ|apply zL|apply zM|exact jO|((with_reducible apply Ln.mk);first|omega)|((with_reducible apply Ce.mk);first|exact hcell)|exact True.intro|exact rfl)
    all_goals try exact jX
    exact⟨(j+1,0),by show j+1<=j0;omega,by show j0+1-(j+1)<j0+1-j;omega,⟨congrArg some (by
     show _=(if j+1<ds.length then _ else _);rw[if_pos hlast];exact vR rfl (by show off+j+1*1=off+(j+1);omega) rfl (by show ds.length-j-1=ds.length-(j+1);omega) rfl),rfl,trivial⟩,jK⟩
   ·skip
    repeat'(first|apply zE|apply zD|apply zC|(apply bP zK;(iterate 4 exact rfl);(focus omega);exact rfl)|refine jg ?_ ?_|(apply jm;exact jI)|refine jw ?_|refine jh ?_|refine jd ?_|apply zB|apply zQ|apply zL|apply zM|exact jO|((with_reducible apply Ln.mk);first|omega)|((with_reducible apply Ce.mk);first|exact hcell)|exact True.intro|exact rfl)
    all_goals try exact jX
    exact⟨(j+1,0),by show j+1<=j0;omega,by show j0+1-(j+1)<j0+1-j;omega,⟨congrArg some (by
     show _=(if j+1<ds.length then _ else _);rw[if_neg hlast]),rfl,trivial⟩,jK⟩
  ·obtain rfl:j=j0:=by omega
   have hne:=z4 hjk
   repeat'(first|apply zE|apply zD|apply zC|refine jg ?_ ?_|(apply jm;exact jI)|refine jw ?_|refine jh ?_|(apply pT;exact rfl;(focus first|exact ‹_›|omega))|apply zB|apply zW|apply zT|apply zL|apply zJ|apply zU|exact jO|((with_reducible apply Ln.mk);first|omega)|((with_reducible apply Ce.mk);first|exact hcell)|exact True.intro|exact rfl)
   all_goals try exact jX
   exact jF (k:=by exact⟨⟨j,fl1,z1,z2,by rw[if_pos hjk];rfl⟩,rfl⟩)
 ·unfold kF
  rw[if_neg hjk]
  repeat'(first|apply zE|apply zD|apply zC|refine jg ?_ ?_|refine jk ?_|(apply yO;exact rfl)|(apply zX;exact rfl)|apply zB|apply zV|apply zW|apply zT|apply zJ|apply zU|exact jS|fail)
  all_goals try exact jX
  exact jF (k:=by exact⟨⟨j0,0,z1,z2,by rw[if_neg (by omega)];rfl⟩,rfl⟩)
theorem zMn (A off fl:Nat)(bs ds:List UInt8)(ro:Bool)(h h1:SH)[hp:Pick h A ⟨zS bs,ro⟩ h1](hb:bs.length<=1000000)(hd:off+ds.length<=bs.length)(hs:(bs.drop off).take ds.length=ds)(h0:ds≠[]) :
  zH Tryz.prog 355 [gsl A off bs.length ds.length fl,S [48]] h λr q=>(∃j fl',zl ds=ds.drop j/\j<=ds.length/\r=if j<ds.length then gsl A (off+j) bs.length (ds.length-j) fl' else .slice none 0 0)/\q=h:=by
 have hT:=yBu A off fl bs ds ro h h1 hb hd hs h0;have hl0:=List.length_pos_iff.2 h0;refine yJ Tryz.func355 rfl rfl ?_
 repeat'(first|apply zE|apply zD|apply zC|refine jg ?_ ?_|(refine jc ?_ (c:=by exact⟨_,hT,jN⟩);rintro _ _ ⟨⟨j,fl',e1,e2,rfl⟩,rfl⟩)|refine jw ?_|(apply yO;exact rfl)|(apply zX;exact rfl)|refine jf ?_|apply zB|apply zV|apply zL|apply zJ|((with_reducible apply Sd.mk);first|exact True.intro|decide))
 all_goals try exact jX
 exact jF (k:=by exact⟨⟨j,fl',e1,e2,rfl⟩,rfl⟩)
theorem zZf (A off fl:Nat)(bs ds:List UInt8)(ro:Bool)(h h1:SH)[hp:Pick h A ⟨zS bs,ro⟩ h1](hb:bs.length<=1000000)(hd:off+ds.length<=bs.length)(hs:(bs.drop off).take ds.length=ds) :
  zH Tryz.prog 363 [gsl A off bs.length ds.length fl,.int .u8 48] h λr q=>(∃k fl',zr ds=ds.take k/\k<=ds.length/\r=gsl A off bs.length k fl')/\q=h:=by
 obtain⟨k0,z1,z2,z3,z4⟩:=bV ds;have hlb:(zS bs).length=bs.length:=by simp
 refine yJ Tryz.func363 rfl rfl ?_
 repeat'(first|apply zE|apply zD|apply zC|refine jg ?_ ?_|apply zB|apply zM|exact jS|fail)
 all_goals try exact jX
 refine yH (S:=Nat × Nat) (λx=>[(0,gsl A off bs.length x.1 x.2),(1,.int .u8 48)]) (λ_=>h) (λx=>k0<=x.1/\x.1<=ds.length) (λx=>x.1) (ds.length,fl) ⟨z2,Nat.le_refl _⟩ jB jK ?_;rintro⟨k,fl1⟩ ⟨hk1,hk2⟩;dsimp only at hk1 hk2 ⊢;by_cases hk0:k=0
 ·subst hk0
  repeat'(first|apply zE|apply zD|apply zC|refine jg ?_ ?_|refine jk ?_|(apply zX;exact rfl)|apply zB|apply zW|apply zT|apply zJ|apply zU|exact jS|fail)
  all_goals try exact jX
  exact jF (k:=by exact⟨⟨0,fl1,by rw[z1,show k0=0 by omega],Nat.zero_le _,rfl⟩,rfl⟩)
 have hb0:=zMb hs hd (j:=k-1) (by omega);have hb255:=uG ds ((k-1:Nat):Int);have hcell:(zS bs)[off+((k:Int)-1).toNat*1]?=some (.int .u8 (bat ds ((k-1:Nat):Int))):=by
  rw[<-hb0];have:=aJ (l:=bs) (i:=((off+(k-1):Nat):Int)) (by omega);rwa [show 0+(((off+(k-1):Nat):Int)).toNat*1=off+((k:Int)-1).toNat*1 by omega]at this
 by_cases hkk:k=k0
 ·have hne:=z4 (by omega)
  rw[<-hkk]at hne
  repeat'(first|apply zE|apply zD|apply zC|refine jg ?_ ?_|(apply ja;exact jH)|(apply jm;exact jI)|refine jw ?_|refine jh ?_|(apply pT;exact rfl;exact ‹_›)|apply zB|apply zW|apply zT|apply zJ|apply zU|exact jO|((with_reducible apply Ln.mk);first|omega)|exact jW|((with_reducible apply Ce.mk);first|exact hcell)|exact True.intro|exact rfl)
  all_goals try exact jX
  exact jF (k:=by exact⟨⟨k,fl1,by rw[z1,hkk],hk2,rfl⟩,rfl⟩)
 ·have h48:=z3 (k-1) (by omega) (by omega)
  repeat'(first|apply zE|apply zD|apply zC|refine jg ?_ ?_|(apply ja;exact jH)|(apply jm;exact jI)|refine jw ?_|refine jh ?_|(apply tC;exact rfl;exact ‹_›)|apply zB|apply zQ|apply zL|apply zM|exact jO|((with_reducible apply Ln.mk);first|omega)|exact jW|((with_reducible apply Ce.mk);first|exact hcell)|exact True.intro|exact rfl)
  all_goals try exact jX
  exact⟨(k-1,0),⟨by show k0<=k-1;omega,by show k-1<=ds.length;omega⟩,by show k-1<k;omega,⟨congrArg some (vR rfl rfl rfl (by omega) rfl),rfl,trivial⟩,jK⟩
theorem zZq (A off fl:Nat)(bs ds:List UInt8)(ro:Bool)(h h1:SH)[hp:Pick h A ⟨zS bs,ro⟩ h1](hb:bs.length<=1000000)(hd:off+ds.length<=bs.length)(hs:(bs.drop off).take ds.length=ds)(h0:ds≠[]) :
  zH Tryz.prog 356 [gsl A off bs.length ds.length fl,S [48]] h λr q=>(∃k fl',zr ds=ds.take k/\k<=ds.length/\r=gsl A off bs.length k fl')/\q=h:=by
 have hT:=zZf A off fl bs ds ro h h1 hb hd hs;have hl0:=List.length_pos_iff.2 h0;refine yJ Tryz.func356 rfl rfl ?_
 repeat'(first|apply zE|apply zD|apply zC|refine jg ?_ ?_|(refine jc ?_ (c:=by exact⟨_,hT,jN⟩);rintro _ _ ⟨⟨j,fl',e1,e2,rfl⟩,rfl⟩)|refine jw ?_|refine ji ?_|(apply yO;exact rfl)|(apply zX;exact rfl)|apply zB|apply zV|apply zL|apply zJ|((with_reducible apply Sd.mk);first|exact True.intro|decide))
 all_goals try exact jX
 exact jF (k:=by exact⟨⟨j,fl',e1,e2,rfl⟩,rfl⟩)
theorem yDz (A off fl:Nat)(bs ds:List UInt8)(ro:Bool)(h h1:SH)[hp:Pick h A ⟨zS bs,ro⟩ h1](hb:bs.length<=1000000)(hd:off+ds.length<=bs.length)(hs:(bs.drop off).take ds.length=ds)(h0:ds≠[])(hz:zl ds≠[]) :
  zH Tryz.prog 355 [gsl A off bs.length ds.length fl,S [48]] h λr q=>∃fl',r=gsl A (off+(ds.length-(zl ds).length)) bs.length (zl ds).length fl'/\q=h :=
 (zMn A off fl bs ds ro h h1 hb hd hs h0).mono λr q ⟨⟨j,fl',e1,e2,e3⟩,e4⟩=>by
  have hl:(zl ds).length=ds.length-j:=by rw[e1,List.length_drop]
  have hz2:=List.length_pos_iff.2 hz;rw[if_pos (by omega)]at e3;exact⟨fl',by rw[e3];exact vR rfl (by omega) rfl (by omega) rfl,e4⟩
theorem yHj (A off fl:Nat)(bs ds:List UInt8)(ro:Bool)(h h1:SH)[hp:Pick h A ⟨zS bs,ro⟩ h1](hb:bs.length<=1000000)(hd:off+ds.length<=bs.length)(hs:(bs.drop off).take ds.length=ds)(h0:ds≠[])(hz:zl ds=[]) :
  zH Tryz.prog 355 [gsl A off bs.length ds.length fl,S [48]] h λr q=>r=.slice none 0 0/\q=h :=
 (zMn A off fl bs ds ro h h1 hb hd hs h0).mono λr q ⟨⟨j,fl',e1,e2,e3⟩,e4⟩=>by
  have hl:(zl ds).length=ds.length-j:=by rw[e1,List.length_drop]
  rw[hz]at hl;have hl:0=ds.length-j:=hl;rw[if_neg (by omega)]at e3;exact⟨e3,e4⟩
theorem zWp (A off fl:Nat)(bs ds:List UInt8)(ro:Bool)(h h1:SH)[hp:Pick h A ⟨zS bs,ro⟩ h1](hb:bs.length<=1000000)(hd:off+ds.length<=bs.length)(hs:(bs.drop off).take ds.length=ds)(h0:ds≠[]) :
  zH Tryz.prog 356 [gsl A off bs.length ds.length fl,S [48]] h λr q=>∃fl',r=gsl A off bs.length (zr ds).length fl'/\q=h :=
 (zZq A off fl bs ds ro h h1 hb hd hs h0).mono λr q ⟨⟨k,fl',e1,e2,e3⟩,e4⟩=>by
  have hl:(zr ds).length=k:=by rw[e1,List.length_take];omega
  exact⟨fl',by rw[e3,hl],e4⟩
theorem zAh :∀ds:List UInt8,zl ds≠[]->(zr (zl ds)).length≠0
 |[],h=>absurd rfl h
 |b::r,h=>by
  unfold zl at h ⊢;split
  ·rename_i g
   rw[if_pos g]at h;exact zAh r h
  ·rename_i g
   unfold zr;rw[if_neg (λk=>g k.2)];exact Nat.succ_ne_zero _
theorem zTe (s:Bool)(e:Int)(A off fl:Nat)(bs ds:List UInt8)(ro:Bool)(h h1:SH)[hp:Pick h A ⟨zS bs,ro⟩ h1](hb:bs.length<=1000000)(hd:off+ds.length<=bs.length)(hs:(bs.drop off).take ds.length=ds)(h0:ds≠[])(he:-4000000<=e/\e<=4000000)(hz:zl ds=[]) :
  zH Tryz.prog 344 [nmV s (gsl A off bs.length ds.length fl) e] h λr q=>r=nmV false (.slice none 0 0) 0/\q=h:=by
 have hL:=λh h1 hp=>@yHj A off fl bs ds ro h h1 hp hb hd hs h0 hz;have hR:∀h,zH Tryz.prog 356 [.slice none 0 0,S [48]] h λr q=>r=.slice none 0 0/\q=h:=λh=>by
  refine yJ Tryz.func356 rfl rfl ?_
  repeat'(first|apply zE|apply zD|apply zC|refine jg ?_ ?_|refine jk ?_|(apply yO;exact rfl)|apply zB|apply zV|apply zJ|exact jS|fail)
  all_goals try exact jX
  exact jG
 refine yG Tryz.func344 rfl rfl ?_
 repeat'((fail_if_success (show SWp _ _ (Code.seq (Code.region 1 _ _) _) _ _ _));(fail_if_success (show SWp _ _ (Code.region 1 _ _) _ _ _));first|apply zE|apply zD|apply zC|refine jy ?_|refine jx ?_|apply zB|intro A)
 rename_i n1;obtain⟨n2,rfl⟩:∃m,m=A:=⟨_,rfl⟩
 repeat'(first|apply zE|apply zD|apply zC|refine jg ?_ ?_|(apply ja;exact jH)|(apply jm;exact jI)|(apply yV zK;(iterate 4 exact rfl);exact up)|(apply js;exact jJ)|(apply xZ zK;exact rfl;exact rfl;(focus first|with_reducible exact zKs);exact rfl;(focus repeat(first|exact yT.nil));exact rfl)|(apply yJa zK;iterate 5 exact rfl)|(refine jc ?_ (c:=by exact⟨_,hL ((n2,⟨[B false,.slice none 0 0,I 0],false⟩)::(n1,⟨[B s,gsl A off bs.length ds.length fl,I e],false⟩)::h) _ (.tail (.tail hp)),jN⟩);rintro _ _ ⟨rfl,rfl⟩)|(refine jc ?_ (c:=by exact⟨_,hR _,jN⟩);rintro _ _ ⟨rfl,rfl⟩)|(apply yO;exact rfl)|apply zB|apply zV|apply zJ|exact jS|exact jL|exact jW|exact jE|exact jZ|exact jP|exact True.intro|exact rfl)
 all_goals try exact jX
 (apply yA;(exact(show zO _ _ _ _ [_] from(sG zK rfl rfl rfl (by exact pk) (by first|rfl|exact ‹_›|omega|(simp ;first|done|omega)) (by first|rfl|exact ‹_›|omega|(simp ;first|done|omega)) trivial)));exact⟨rfl,rfl⟩;(focus repeat(first|with_reducible exact zA.nil|with_reducible apply zA.c|with_reducible apply zA.drop)))
theorem zTs (s:Bool)(e:Int)(A off fl:Nat)(bs ds:List UInt8)(ro:Bool)(h h1:SH)[hp:Pick h A ⟨zS bs,ro⟩ h1](hb:bs.length<=1000000)(hd:off+ds.length<=bs.length)(hs:(bs.drop off).take ds.length=ds)(h0:ds≠[])(he:-4000000<=e/\e<=4000000)(hz:zl ds≠[]) :
  zH Tryz.prog 344 [nmV s (gsl A off bs.length ds.length fl) e] h λr q=>r=nmV s (gsl A (off+(ds.length-(zl ds).length)) bs.length (zr (zl ds)).length 0) (e+(((zl ds).length:Int)-((zr (zl ds)).length:Int)))/\q=h:=by
 obtain⟨j,z1,z2,-,-⟩:=fY ds;obtain⟨k,y1,y2,-,-⟩:=bV (zl ds);have hl1:(zl ds).length=ds.length-j:=by rw[z1,List.length_drop]
 have hl2:(zr (zl ds)).length=k:=by rw[y1,List.length_take];omega
 have hL:=λh h1 hp=>@yDz A off fl bs ds ro h h1 hp hb hd hs h0 hz;have hs2:(bs.drop (off+(ds.length-(zl ds).length))).take (zl ds).length=zl ds:=by
  rw[hl1,show ds.length-(ds.length-j)=j by omega,<-List.drop_drop,z1]
  conv=>rhs;rw[<-hs]
  rw[List.drop_take]
 have hR:=λfl h h1 hp=>@zWp A (off+(ds.length-(zl ds).length)) fl bs (zl ds) ro h h1 hp hb (by omega) hs2 hz;have hz0:=List.length_pos_iff.2 hz;have hkl:(zr (zl ds)).length<=(zl ds).length:=by omega
 have hzl:(zl ds).length<=ds.length:=by omega
 have hk0:=zAh ds hz;generalize (zr (zl ds)).length=k2 at *;generalize (zl ds).length=k1 at *;refine yG Tryz.func344 rfl rfl ?_
 repeat'((fail_if_success (show SWp _ _ (Code.seq (Code.region 1 _ _) _) _ _ _));(fail_if_success (show SWp _ _ (Code.region 1 _ _) _ _ _));first|apply zE|apply zD|apply zC|refine jy ?_|refine jx ?_|apply zB|intro A)
 rename_i n1;obtain⟨n2,rfl⟩:∃m,m=A:=⟨_,rfl⟩
 repeat'((fail_if_success (show SWp _ _ (Code.seq (Code.region 2 _ _) _) _ _ _));(fail_if_success (show SWp _ _ (Code.region 2 _ _) _ _ _));first|apply zE|apply zD|apply zC|refine jg ?_ ?_|(apply jm;exact jI)|(apply yV zK;(iterate 4 exact rfl);exact up)|(refine jc ?_ (c:=by exact⟨_,hL ((n2,⟨[B false,.slice none 0 0,I 0],false⟩)::(n1,⟨[B s,gsl A off bs.length ds.length fl,I e],false⟩)::h) _ (.tail (.tail hp)),jN⟩);rintro _ _ ⟨fl2,rfl,rfl⟩)|apply zB|exact jS|exact jL|exact jE|exact jZ|exact True.intro|exact rfl)
 all_goals try exact jX
 repeat'(first|apply zE|apply zD|apply zC|refine jg ?_ ?_|(apply ja;exact jH)|(apply jm;exact jI)|(apply jl;exact jI)|(apply yV zK;(iterate 4 exact rfl);exact up)|(apply js;exact jJ)|(apply zWc zK;iterate 5 exact rfl)|(refine jc ?_ (c:=by exact⟨_,hR fl2 ((n2,⟨[B false,.slice none 0 0,I 0],false⟩)::(n1,⟨[B s,gsl A (off+(ds.length-k1)) bs.length k1 fl2,I e],false⟩)::h) _ (.tail (.tail hp)),jN⟩);rintro _ _ ⟨fl3,rfl,rfl⟩)|refine jf ?_|apply zB|apply zL|apply zJ|exact jO|exact jL|exact jW|exact jE|exact jZ|exact jP|exact jU|exact True.intro|exact rfl)
 all_goals try exact jX
 (apply yA;(exact(show zO _ _ _ _ [_] from(sG zK rfl rfl rfl (by exact pk) (by first|rfl|exact ‹_›|omega|(simp ;first|done|omega)) (by first|rfl|exact ‹_›|omega|(simp ;first|done|omega)) trivial)));exact⟨rfl,rfl⟩;(focus repeat(first|with_reducible exact zA.nil|with_reducible apply zA.c|with_reducible apply zA.drop)))

def ptx (ds:List UInt8):List UInt8:=if 1<ds.length then ds.take 1++([46]++ds.drop 1)else ds.take 1
def ctx (M:Nm):List UInt8:=if M.2.1=[] then [48] else((if M.1=true then [45]++ptx M.2.1 else ptx M.2.1)++[101])++Lib.itoa (fst M)
def okN (M:Nm):Prop:=M.2.1=[]\/(M.2.1.length<=17/\-400<=fst M/\fst M<=400)
instance (M:Nm):Decidable (okN M):=inferInstanceAs (Decidable (_\/_))
def txN (M:Nm):List UInt8 × Int:=if okN M then(ctx M,0)else([],9)
theorem zIl {n:Int}(h:-400<=n/\n<=400):(Lib.itoa n).length<=21:=Lib.itoa_length_le n (by omega) (by omega)
theorem zRu (M:Nm)(v:Value)(h:SH)(hd:Dg h v M.2.1)(hl:M.2.1.length<=1000000)(he:-4000000<=M.2.2/\M.2.2<=4000000) :
  zH Tryz.prog 315 [nmV M.1 v M.2.2] h λr q=>r=.tuple #[S (txN M).1,I (txN M).2]/\q=h:=by
 obtain⟨s,ds,e⟩:=M;dsimp only at hd hl he ⊢;rcases hd with⟨rfl,rfl⟩|⟨g1,A,off,fl,bs,ro,q1,rfl,hp,g3,g4⟩
 ·have:txN (s,[],e)=([48],0):=by unfold txN;rw[if_pos (.inl rfl)];rfl
  rw[this];refine yG Tryz.func315 rfl rfl ?_
  repeat'(first|apply zE|apply zD|apply zC|refine jg ?_ ?_|(apply jm;exact jI)|refine jx ?_|(apply yO;exact rfl)|apply zB|apply zV|apply zJ|exact jS|exact jL|exact jE|exact True.intro|intro A|exact rfl)
  all_goals first
   |exact jX
   |exact jG
 have hl0:=List.length_pos_iff.2 g1;have hF:=λh=>yAo s e (some ⟨A,off,some bs.length⟩) ds.length fl h hl he;by_cases hok:ds.length<=17/\-400<=e+ds.length-1/\e+ds.length-1<=400
 ·have htx:txN (s,ds,e)=(((if s=true then [45]++ptx ds else ptx ds)++[101])++Lib.itoa (e+ds.length-1),0):=by
   unfold txN;rw[if_pos (.inr hok)];unfold ctx;rw[if_neg g1];rfl
  rw[htx];have hI:=λh=>zYb (e+ds.length-1) h (by omega);have hil:=zIl (n:=e+ds.length-1) (by omega);generalize Lib.itoa (e+ds.length-1)=it at *;have hlb:(zS bs).length=bs.length:=by simp
  have hs1:xF (zS bs) off (zS (ds.take 1)):=by
   have:=zUk (t:=bs) (o:=off) (n:=1) (by omega);rw[show(bs.drop off).take 1=ds.take 1 by rw[<-g4,List.take_take,Nat.min_eq_left (by omega)]]at this;rwa [Nat.zero_add,Nat.mul_one]at this
  have ht1:(ds.take 1).length=1:=by rw[List.length_take];omega
  by_cases h1:1<ds.length
  ·have hs2:xF (zS bs) (off+(1:Int).toNat*1) (zS (ds.drop 1)):=by
    have:=zUk (t:=bs) (o:=off+1) (n:=ds.length-1) (by omega);rw[show(bs.drop (off+1)).take (ds.length-1)=ds.drop 1 by rw[<-g4,List.drop_take,List.drop_drop,List.length_take];congr 1;rw[List.length_drop];omega]at this;rwa [Nat.zero_add,Nat.mul_one]at this
   have ht2:(ds.drop 1).length=ds.length-1:=List.length_drop;have hpt:ptx ds=ds.take 1++([46]++ds.drop 1):=if_pos h1;rw[hpt];generalize ds.take 1=d1 at *;generalize ds.drop 1=d2 at *;cases s
   ·skip
    refine yG Tryz.func315 rfl rfl ?_
    repeat'(first|apply zE|apply zD|apply zC|refine jg ?_ ?_|(apply jm;exact jI)|(apply jl;exact jI)|refine jx ?_|(apply dS zK;(iterate 6 exact rfl);exact pk)|refine jq ?_ (c:=by exact⟨_,hF _,jN⟩)|refine jq ?_ (c:=by exact⟨_,hI _,jN⟩)|refine jw ?_|refine ji ?_|(apply zX;exact rfl)|refine jd ?_|refine jf ?_|apply zB|apply zL|apply zJ|((with_reducible apply Sd.mk);first|exact True.intro|omega|(simp only[List.length_append,List.length_singleton,List.length_nil,List.length_cons];omega))|((with_reducible apply Ln.mk);first|rfl|omega)|exact jE|((with_reducible apply Su.mk);first|exact hs1|exact hs2|exact xY)|exact True.intro|intro A|exact rfl)
    all_goals first
     |exact jX
     |exact jG
   ·refine yG Tryz.func315 rfl rfl ?_
    repeat'(first|apply zE|apply zD|apply zC|refine jg ?_ ?_|(apply jm;exact jI)|(apply jl;exact jI)|refine jx ?_|(apply dS zK;(iterate 6 exact rfl);exact pk)|refine jq ?_ (c:=by exact⟨_,hF _,jN⟩)|refine jq ?_ (c:=by exact⟨_,hI _,jN⟩)|refine jw ?_|refine ji ?_|(apply yO;exact rfl)|refine jd ?_|refine jf ?_|apply zB|apply zL|apply zJ|((with_reducible apply Sd.mk);first|exact True.intro|omega|(simp only[List.length_append,List.length_singleton,List.length_nil,List.length_cons];omega))|((with_reducible apply Ln.mk);first|rfl|omega)|exact jE|((with_reducible apply Su.mk);first|exact hs1|exact hs2|exact xY)|exact True.intro|intro A|exact rfl)
    all_goals first
     |exact jX
     |exact jG
  ·have hpt:ptx ds=ds.take 1:=if_neg h1
   rw[hpt];generalize ds.take 1=d1 at *;cases s
   ·skip
    refine yG Tryz.func315 rfl rfl ?_
    repeat'(first|apply zE|apply zD|apply zC|refine jg ?_ ?_|(apply jm;exact jI)|(apply jl;exact jI)|refine jx ?_|(apply dS zK;(iterate 6 exact rfl);exact pk)|refine jq ?_ (c:=by exact⟨_,hF _,jN⟩)|refine jq ?_ (c:=by exact⟨_,hI _,jN⟩)|refine jw ?_|refine ji ?_|(apply zX;exact rfl)|refine jf ?_|apply zB|apply zL|apply zJ|((with_reducible apply Sd.mk);first|exact True.intro|omega|(simp only[List.length_append,List.length_singleton,List.length_nil,List.length_cons];omega))|((with_reducible apply Ln.mk);first|rfl|omega)|exact jE|((with_reducible apply Su.mk);first|exact hs1|exact xY)|exact True.intro|intro A|exact rfl)
    all_goals first
     |exact jX
     |exact jG
   ·refine yG Tryz.func315 rfl rfl ?_
    repeat'(first|apply zE|apply zD|apply zC|refine jg ?_ ?_|(apply jm;exact jI)|(apply jl;exact jI)|refine jx ?_|(apply dS zK;(iterate 6 exact rfl);exact pk)|refine jq ?_ (c:=by exact⟨_,hF _,jN⟩)|refine jq ?_ (c:=by exact⟨_,hI _,jN⟩)|refine jw ?_|refine ji ?_|(apply yO;exact rfl)|refine jf ?_|apply zB|apply zL|apply zJ|((with_reducible apply Sd.mk);first|exact True.intro|omega|(simp only[List.length_append,List.length_singleton,List.length_nil,List.length_cons];omega))|((with_reducible apply Ln.mk);first|rfl|omega)|exact jE|((with_reducible apply Su.mk);first|exact hs1|exact xY)|exact True.intro|intro A|exact rfl)
    all_goals first
     |exact jX
     |exact jG
 ·have htx:txN (s,ds,e)=([],9):=by
   unfold txN;rw[if_neg];rintro(g|g)
   ·exact g1 g
   ·exact hok g
  rw[htx];refine yG Tryz.func315 rfl rfl ?_
  repeat'(first|apply zE|apply zD|apply zC|refine jg ?_ ?_|(apply jm;exact jI)|(apply jl;exact jI)|refine jx ?_|refine jq ?_ (c:=by exact⟨_,hF _,jN⟩)|refine jw ?_|refine jk ?_|(apply vJ;(iterate 3 exact rfl);all_goals intro hc)|(apply yO;exact rfl)|refine jd ?_|refine jf ?_|apply zB|apply zV|apply zL|apply zJ|exact jS|exact jL|exact jE|exact jU|exact True.intro|intro A|exact rfl)
  all_goals first
   |exact jX
   |exact jG

theorem iX (a b:List UInt8)(j:Nat):bat (a++b) ((a.length+j:Nat):Int)=bat b (j:Int):=by
 unfold bat;rw[Int.toNat_natCast,Int.toNat_natCast,List.getD_eq_getElem?_getD,List.getD_eq_getElem?_getD,List.getElem?_append_right (by omega),show a.length+j-a.length=j by omega]
theorem yJk (a b:List UInt8){j:Nat}(h:j<a.length):bat (a++b) (j:Int)=bat a (j:Int):=by
 unfold bat;rw[Int.toNat_natCast,List.getD_eq_getElem?_getD,List.getD_eq_getElem?_getD,List.getElem?_append_left h]
theorem iM {l:List UInt8}(h:isD l){j:Nat}(hj:j<l.length):48<=bat l (j:Int)/\bat l (j:Int)<=57:=by
 have:=h _ (List.getElem_mem hj);rw[aH hj];omega
theorem zPl (u:Nat):isD (Lib.decDigits u)/\dv (Lib.decDigits u)=u/\Lib.decDigits u≠[]:=by
 induction u using Nat.strongRecOn with
 |_ u ih =>
  have hb:∀n,n<10->(UInt8.ofNat (48+n)).toNat=48+n:=λn hn=>by rw[UInt8.toNat_ofNat'];omega
  rw[Lib.decDigits];split
  ·rename_i h
   refine⟨λb hx=>?_,?_,by simp⟩
   ·obtain rfl:=List.mem_singleton.1 hx
    rw[hb u h];omega
   ·rw[pQ,hb u h]
    show(48+u-48)*1+0=u;omega
  ·rename_i h
   obtain⟨h1,h2,h3⟩:=ih (u/10) (by omega);refine⟨zPr.2 ⟨h1,λb hx=>?_⟩,?_,by simp⟩
   ·obtain rfl:=List.mem_singleton.1 hx
    rw[hb _ (Nat.mod_lt _ (by decide))];omega
   ·rw[zHa,h2,pQ,hb _ (Nat.mod_lt _ (by decide))]
    show u/10*10+((48+u%10-48)*1+0)=u;omega
def esg (n:Int):List UInt8:=if n<0 then [45] else []
theorem zVm (n:Int):Lib.itoa n=esg n++Lib.decDigits n.natAbs:=by
 unfold Lib.itoa esg;split
 ·rfl
 ·rw[show n.toNat=n.natAbs by omega]
  rfl
theorem zZd {M:Nm}(hT:okT M)(h0:M.2.1≠[])(hN:okN M):∃(s:List UInt8) (p0 pe pd n:Nat),ctx M=s/\p0=(if M.1=true then 1 else 0)/\pe=p0+(ptx M.2.1).length/\pd=pe+1+(if fst M<0 then 1 else 0)/\pd+n=s.length/\1<=n/\s.length<=64 /\
  (M.1=true->bat s 0=45)/\(M.1=false->bat s 0≠45/\bat s 0≠43)/\(48<=bat s (p0:Int)/\bat s (p0:Int)<=57)/\(s.drop p0).take 1=M.2.1.take 1 /\
  (1<M.2.1.length->bat s ((p0+1:Nat):Int)=46/\(∀j:Nat,p0+2<=j->j<p0+2+(M.2.1.length-1)->48<=bat s (j:Int)/\bat s (j:Int)<=57)/\(s.drop (p0+2)).take (M.2.1.length-1)=M.2.1.drop 1) /\
  bat s (pe:Int)=101/\(fst M<0->bat s ((pe+1:Nat):Int)=45)/\(¬fst M<0->bat s ((pe+1:Nat):Int)≠45/\bat s ((pe+1:Nat):Int)≠43) /\
  (∀j:Nat,pd<=j->j<pd+n->48<=bat s (j:Int)/\bat s (j:Int)<=57)/\(s.drop pd).take n=Lib.decDigits (fst M).natAbs/\n=(Lib.decDigits (fst M).natAbs).length:=by
 obtain⟨neg,ds,e⟩:=M;have hD:=hT.d;dsimp only at h0 hD ⊢;obtain⟨d1,d2,d3⟩:=zPl (fst (neg,ds,e)).natAbs;have hok:ds.length<=17/\-400<=fst (neg,ds,e)/\fst (neg,ds,e)<=400:=by
  rcases hN with g|g
  ·exact absurd g h0
  ·exact g
 have hil:=zIl (n:=fst (neg,ds,e)) ⟨hok.2.1,hok.2.2⟩;rw[zVm]at hil;have hctx:ctx (neg,ds,e)=(if neg=true then [45] else [])++(ptx ds++([101]++(esg (fst (neg,ds,e))++Lib.decDigits (fst (neg,ds,e)).natAbs))):=by
  unfold ctx;rw[if_neg h0,zVm];cases neg
  ·simp
  ·simp
 generalize fst (neg,ds,e)=f at *;generalize Lib.decDigits f.natAbs=dd at *;have hl0:=List.length_pos_iff.2 h0;have hn1:=List.length_pos_iff.2 d3;obtain⟨SG,hSG⟩:∃SG,(if neg=true then [(45:UInt8)] else [])=SG:=⟨_,rfl⟩;have hSl:SG.length=if neg=true then 1 else 0:=by rw[<-hSG];cases neg <;> rfl
 obtain⟨ES,hES⟩:∃ES,esg f=ES:=⟨_,rfl⟩;have hEl:ES.length=if f<0 then 1 else 0:=by rw[<-hES];unfold esg;split <;> rfl
 rw[hSG,hES]at hctx;rw[hES]at hil;have ht1:(ds.take 1).length=1:=by rw[List.length_take];omega
 have ht2:(ds.drop 1).length=ds.length-1:=List.length_drop
 
 have hpl:(ptx ds).length=if 1<ds.length then ds.length+1 else 1:=by
  unfold ptx;split
  ·rw[List.length_append,List.length_append,ht1,ht2]
   show 1+(1+_)=_;omega
  ·exact ht1
 have hds0:∀R:List UInt8,bat (ptx ds++R) ((0:Nat):Int)=bat ds ((0:Nat):Int)/\((ptx ds++R).drop 0).take 1=ds.take 1:=λR=>by
  cases ds with
  |nil=>exact absurd rfl h0
  |cons b r =>
   unfold ptx;split <;> exact⟨rfl,rfl⟩
 have hb0:=iM hD (j:=0) hl0;obtain⟨s,hs⟩:∃s,SG++(ptx ds++([101]++(ES++dd)))=s:=⟨_,rfl⟩;have hsl:s.length=SG.length+((ptx ds).length+(1+(ES.length+dd.length))):=by
  rw[<-hs,List.length_append,List.length_append,List.length_append,List.length_append];rfl
 rw[List.length_append]at hil;have r1:∀j:Nat,bat s ((SG.length+j:Nat):Int)=bat (ptx ds++([101]++(ES++dd))) (j:Int):=λj=>by rw[<-hs,iX]
 have r2:∀j:Nat,bat s ((SG.length+((ptx ds).length+j):Nat):Int)=bat ([101]++(ES++dd)) (j:Int):=λj=>by rw[r1,iX]
 have r3:∀j:Nat,bat s ((SG.length+((ptx ds).length+(1+j)):Nat):Int)=bat (ES++dd) (j:Int):=λj=>by
  rw[r2];exact iX [101] (ES++dd) j
 have r4:∀j:Nat,bat s ((SG.length+((ptx ds).length+(1+(ES.length+j))):Nat):Int)=bat dd (j:Int):=λj=>by rw[r3,iX]
 refine⟨s,SG.length,SG.length+(ptx ds).length,SG.length+(ptx ds).length+1+ES.length,dd.length,by rw[hctx,hs],hSl,rfl,by rw[hEl],by rw[hsl];omega,hn1,?_,?_,?_,?_,?_,?_,?_,?_,?_,?_,?_,rfl⟩
 ·rw[hsl,hpl,hSl]
  split <;> split <;> omega
 ·rintro rfl
  rw[<-hs,<-hSG];rfl
 ·rintro rfl
  have h2:=(hds0 ([101]++(ES++dd))).1;rw[show(if false=true then [(45:UInt8)] else [])=[] from rfl]at hSG;have e0:bat s 0=bat ds ((0:Nat):Int):=by
   have h3:=r1 0;rw[<-hSG]at h3;exact h3.trans h2
  omega
 ·have h3:=r1 0
  rw[Nat.add_zero]at h3;rw[h3,(hds0 _).1];exact hb0
 ·rw[<-hs,List.drop_left]
  have:=(hds0 ([101]++(ES++dd))).2;exact this
 ·intro h1
  have hpt:ptx ds=ds.take 1++([46]++ds.drop 1):=if_pos h1;have q1:∀j:Nat,bat s ((SG.length+(1+j):Nat):Int)=bat ([46]++ds.drop 1++([101]++(ES++dd))) (j:Int):=λj=>by
   rw[r1,hpt,List.append_assoc,show 1+j=(ds.take 1).length+j by omega,iX]
  have q2:∀j:Nat,bat s ((SG.length+(1+(1+j)):Nat):Int)=bat (ds.drop 1++([101]++(ES++dd))) (j:Int):=λj=>by
   rw[q1,List.append_assoc];exact iX [46] _ j
  refine⟨?_,λj h2 h3=>?_,?_⟩
  ·have:=q1 0
   rw[show SG.length+(1+0)=SG.length+1 from rfl]at this;rw[this];rfl
  ·obtain⟨i,rfl⟩:∃i,j=SG.length+(1+(1+i)):=⟨j-SG.length-2,by omega⟩
   rw[q2,yJk _ _ (by omega)];exact iM (λb hb=>hD b (List.mem_of_mem_drop hb)) (by omega)
  ·rw[<-hs,hpt,show SG.length+2=SG.length+((ds.take 1).length+1)by omega,<-List.drop_drop,List.drop_left,<-List.drop_drop,List.append_assoc,List.drop_left,<-ht2]
   show(ds.drop 1++([101]++(ES++dd))).take (ds.drop 1).length=ds.drop 1;rw[List.take_left]
 ·have:=r2 0
  rw[show SG.length+((ptx ds).length+0)=SG.length+(ptx ds).length from rfl]at this;rw[this];rfl
 ·intro hf
  have h3:=r3 0;rw[<-hES,show esg f=[45] from if_pos hf,show SG.length+((ptx ds).length+(1+0))=SG.length+(ptx ds).length+1 by omega]at h3;rw[h3];rfl
 ·intro hf
  have h3:=r3 0;rw[<-hES,show esg f=[] from if_neg hf,show SG.length+((ptx ds).length+(1+0))=SG.length+(ptx ds).length+1 by omega]at h3;have:=iM d1 (j:=0) hn1;rw[h3];show bat dd ((0:Nat):Int)≠45/\bat dd ((0:Nat):Int)≠43;omega
 ·intro j h2 h3
  obtain⟨i,rfl⟩:∃i,j=SG.length+((ptx ds).length+(1+(ES.length+i))):=⟨j-(SG.length+(ptx ds).length+1+ES.length),by omega⟩;rw[r4];exact iM d1 (by omega)
 ·rw[<-hs,show SG.length+(ptx ds).length+1+ES.length=SG.length+((ptx ds).length+(1+ES.length))by omega,<-List.drop_drop,List.drop_left,<-List.drop_drop,List.drop_left,<-List.drop_drop]
  show((ES++dd).drop ES.length).take _=_;rw[List.drop_left,List.take_length]
end Go.Proofs.YtbidadebolllkaaGreatDoor
end
