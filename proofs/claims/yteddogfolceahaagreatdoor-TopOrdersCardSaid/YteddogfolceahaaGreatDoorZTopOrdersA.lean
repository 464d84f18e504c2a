/- Part 1 of the proof of the law TopOrders: texts merged. No condition. -/
import Derived.WalkKit
import Derived.Lib.AppendIntMem
import Derived.Lib.LaidTab
import Derived.Test.YteddogfolceahaaGreatDoorProg
import Derived.BigQuiet
import Derived.Deep.QuietTactic
set_option linter.unusedSimpArgs false
set_option linter.unusedVariables false
section
set_option maxRecDepth 4000
namespace Go.Gh
open Go.RowKit

def GW (B:Nat)(w:World):Prop:=Lib.TabBelow Go.Proofs.Tryz.prog B w "internal/strconv.uint64pow10" .u64 Lib.pow10Tab
theorem GW.on {B0:Nat}{w0 w:World}(h:GW B0 w0)(hb:Below B0 w0 w)(hle:B0≤w.heap.size):GW w.heap.size w:=fun w' hb'=>(Lib.TabBelow.on h hb) w' (hb'.mono hle)

structure Loc where
 b:Nat
 base:Nat
 size:Nat
 mp:Bool

structure Blk where
 cells:List Value
 ro:Bool

abbrev Heap :=List (Option Blk)
abbrev Lens :=Nat→Option Nat
def lens (H:Heap):Lens:=fun A=>((H[A]?).join).map (·.cells.length)

inductive Val (φ:Nat→Loc)(L:Lens):Value→Value→Prop
 |bool (b:Bool):Val φ L (.bool b) (.bool b)
 |int (k:IntKind) (n:Int):Val φ L (.int k n) (.int k n)
 |str (s:ByteArray):Val φ L (.string s) (.string s)
 |pnil:Val φ L (.pointer none) (.pointer none)
 |ptr (A o v n:Nat) (c:Addr) (hL:L A=some n) (hv:v≤n) (h:v=n→c=⟨(φ A).b,(φ A).base+o,none⟩∧(φ A).mp=false) :
   Val φ L (.pointer (some ⟨A,o,some v⟩)) (.pointer (some c))
 |snil:Val φ L (.slice none 0 0) (.slice none 0 0)
 |slc (A o v n len fl cap:Nat) (c:Addr) (hL:L A=some n) (hv:v≤n) (hc:len≤cap) (hm:cap≤maxLen)
   (h:v=n→c=⟨(φ A).b,(φ A).base+o,none⟩∧(fl≠0→(φ A).base+o+cap*fl≤(φ A).size)∧(φ A).mp=false) :
   Val φ L (.slice (some ⟨A,o,some v⟩) len fl) (.slice (some c) len cap)
 |sdead (c:Addr) (cap:Nat) (hm:cap≤maxLen):Val φ L (.slice (some ⟨0,0,none⟩) 0 0) (.slice (some c) 0 cap)
 |full (A o v n len:Nat) (c:Addr) (hL:L A=some n) (hv:v≤n) (hm:len≤maxLen) (h:v=n→c=⟨(φ A).b,(φ A).base+o,none⟩∧(φ A).mp=false) :
   Val φ L (.slice (some ⟨A,o,none⟩) len (v+1)) (.slice (some c) len len)
 |map (A n r:Nat) (hL:L A=some n) (h:(φ A).mp=true∧r=(φ A).b):Val φ L (.map (some A)) (.map (some r))
 |mnil:Val φ L (.map none) (.map none)
 |func (f:Fn) (a b c d:Array Value) (h1:a.size=b.size) (h2:∀i (h:i<a.size) (h':i<b.size),Val φ L a[i] b[i])
   (h3:c.size=d.size) (h4:∀i (h:i<c.size) (h':i<d.size),Val φ L c[i] d[i]):Val φ L (.func f a c) (.func f b d)
 |fnil:Val φ L .nilFunc .nilFunc
 |inil:Val φ L .nilIface .nilIface
 |iface (t:TypeId) (v v':Value) (h:Val φ L v v'):Val φ L (.iface t v) (.iface t v')
 |agg (a b:Array Value) (h1:a.size=b.size) (h2:∀i (h:i<a.size) (h':i<b.size),Val φ L a[i] b[i]):Val φ L (.agg a) (.agg b)
 |tuple (a b:Array Value) (h1:a.size=b.size) (h2:∀i (h:i<a.size) (h':i<b.size),Val φ L a[i] b[i]):Val φ L (.tuple a) (.tuple b)

def Ext (φ:Nat→Loc)(L:Lens)(φ':Nat→Loc)(L':Lens):Prop :=
 ∀A n,L A=some n→∃n',L' A=some n'∧((n'=n∧φ' A=φ A)∨(n<n'∧((φ A).mp=true→φ' A=φ A)))

theorem Ext.refl (φ:Nat→Loc)(L:Lens):Ext φ L φ L:=fun _ n h=>⟨n,h,.inl ⟨rfl,rfl⟩⟩

theorem Ext.trans {φ φ' φ'':Nat→Loc}{L L' L'':Lens}(h:Ext φ L φ' L')(k:Ext φ' L' φ'' L''):Ext φ L φ'' L'':=by
 intro A n hn
 obtain⟨n',h1,h2⟩:=h A n hn
 obtain⟨n'',h3,h4⟩:=k A n' h1
 refine⟨n'',h3,?_⟩
 rcases h2 with⟨rfl,e⟩|⟨h2,e⟩
 ·rcases h4 with⟨rfl,e'⟩|⟨h4,e'⟩
  ·exact .inl ⟨rfl,e'.trans e⟩
  ·exact .inr ⟨h4,fun hm=>(e' (by rw[e];exact hm)).trans e⟩
 ·rcases h4 with⟨rfl,e'⟩|⟨h4,e'⟩
  ·exact .inr ⟨h2,fun hm=>e'.trans (e hm)⟩
  ·exact .inr ⟨by omega,fun hm=>(e' (by rw[e hm];exact hm)).trans (e hm)⟩

theorem Val.mono {φ φ':Nat→Loc}{L L':Lens}(e:Ext φ L φ' L'){v v':Value}(h:Val φ L v v'):Val φ' L' v v':=by
 induction h with
 |bool b=>exact .bool b
 |int k n=>exact .int k n
 |str s=>exact .str s
 |pnil=>exact .pnil
 |ptr A o v n c hL hv h =>
  obtain⟨n',h1,h2⟩:=e A n hL
  rcases h2 with⟨rfl,e'⟩|⟨h2,_⟩
  ·exact .ptr A o v n' c h1 hv (fun q=>by rw[e'];exact h q)
  ·exact .ptr A o v n' c h1 (by omega) (fun q=>by omega)
 |snil=>exact .snil
 |slc A o v n len fl cap c hL hv hc hm h =>
  obtain⟨n',h1,h2⟩:=e A n hL
  rcases h2 with⟨rfl,e'⟩|⟨h2,_⟩
  ·exact .slc A o v n' len fl cap c h1 hv hc hm (fun q=>by rw[e'];exact h q)
  ·exact .slc A o v n' len fl cap c h1 (by omega) hc hm (fun q=>by omega)
 |full A o v n len c hL hv hm h =>
  obtain⟨n',h1,h2⟩:=e A n hL
  rcases h2 with⟨rfl,e'⟩|⟨h2,_⟩
  ·exact .full A o v n' len c h1 hv hm (fun q=>by rw[e'];exact h q)
  ·exact .full A o v n' len c h1 (by omega) hm (fun q=>by omega)
 |map A n r hL h =>
  obtain⟨n',h1,h2⟩:=e A n hL
  rcases h2 with⟨rfl,e'⟩|⟨h2,e'⟩
  ·exact .map A n' r h1 (by rw[e'];exact h)
  ·exact .map A n' r h1 (by rw[e' h.1];exact h)
 |sdead c cap hm=>exact .sdead c cap hm
 |mnil=>exact .mnil
 |func f a b c d h1 _ h3 _ ih1 ih2=>exact .func f a b c d h1 ih1 h3 ih2
 |fnil=>exact .fnil
 |inil=>exact .inil
 |iface t v v' _ ih=>exact .iface t v v' ih
 |agg a b h1 _ ih=>exact .agg a b h1 ih
 |tuple a b h1 _ ih=>exact .tuple a b h1 ih

def yJ :Value→Bool
 |.bool _|.int _ _|.string _|.pointer none|.slice none 0 0|.map none|.nilFunc|.nilIface=>true
 |.iface _ (.int _ _)|.iface _ (.string _)=>true
 |.agg cs=>cs.toList.all fun
  |.bool _|.int _ _|.string _|.pointer none|.slice none 0 0|.map none|.nilFunc|.nilIface=>true
  |_=>false
 |.tuple cs=>cs.toList.all fun
  |.bool _|.int _ _|.string _|.pointer none|.slice none 0 0|.map none|.nilFunc|.nilIface=>true
  |_=>false
 |_=>false

theorem Val.const1 {φ:Nat→Loc}{L:Lens}{v:Value}
  (h:(match v with
   |.bool _|.int _ _|.string _|.pointer none|.slice none 0 0|.map none|.nilFunc|.nilIface=>true
   |_=>false)=true):Val φ L v v:=by
 split at h <;> first|cases h|skip
 ·exact .bool _
 ·exact .int _ _
 ·exact .str _
 ·exact .pnil
 ·exact .snil
 ·exact .mnil
 ·exact .fnil
 ·exact .inil

theorem Val.const {φ:Nat→Loc}{L:Lens}{v:Value}(h:yJ v=true):Val φ L v v:=by
 unfold yJ at h
 split at h
 ·exact .bool _
 ·exact .int _ _
 ·exact .str _
 ·exact .pnil
 ·exact .snil
 ·exact .mnil
 ·exact .fnil
 ·exact .inil
 ·exact .iface _ _ _ (.int _ _)
 ·exact .iface _ _ _ (.str _)
 ·rename_i cs
  refine .agg cs cs rfl fun i h1 h2=>Val.const1 ?_
  exact(List.all_eq_true.1 h) cs[i] (Array.mem_toList_iff.2 (Array.getElem_mem h1))
 ·rename_i cs
  refine .tuple cs cs rfl fun i h1 h2=>Val.const1 ?_
  exact(List.all_eq_true.1 h) cs[i] (Array.mem_toList_iff.2 (Array.getElem_mem h1))
 ·cases h

def scalar :Value→Bool
 |.bool _|.int _ _|.string _=>true
 |_=>false
theorem Val.scalar {φ:Nat→Loc}{L:Lens}{v v':Value}(h:Val φ L v v')(hs:scalar v=true):v'=v:=by
 cases h <;> first|rfl|cases hs

theorem Val.det {φ:Nat→Loc}{L:Lens}{v v':Value}(hs:yJ v=true)(h:Val φ L v v'):v'=v:=by
 have one:∀{u u':Value},Val φ L u u'→(match u with
   |.bool _|.int _ _|.string _|.pointer none|.slice none 0 0|.map none|.nilFunc|.nilIface=>true
   |_=>false)=true→u'=u:=by
  intro u u' h hu
  cases h <;> first|rfl|(simp at hu)
 have arr:∀{a b:Array Value},a.size=b.size→(∀i (h:i<a.size) (h':i<b.size),Val φ L a[i] b[i])→(a.toList.all fun
  |.bool _|.int _ _|.string _|.pointer none|.slice none 0 0|.map none|.nilFunc|.nilIface=>true
  |_=>false)=true→b=a:=by
  intro a b h1 h2 h3
  refine Array.ext h1.symm fun i hi hi'=>?_
  exact one (h2 i hi' hi) ((List.all_eq_true.1 h3) a[i] (Array.mem_toList_iff.2 (Array.getElem_mem hi')))
 cases h with
 |agg a b h1 h2=>rw[arr h1 h2 hs]
 |tuple a b h1 h2=>rw[arr h1 h2 hs]
 |iface t w w' h =>
  cases h <;> first|rfl|(simp[yJ]at hs)
 |_=>first|rfl|(simp[yJ]at hs)

def flat (es:List MapEntry):List Value:=es.flatMap fun e=>[e.key,e.val]
theorem flat_len :∀(es:List MapEntry),(flat es).length=2*es.length
 |[]=>rfl
 |e::es=>by have:=flat_len es;simp only[flat,List.flatMap_cons,List.length_append,List.length_cons,List.length_nil]at this ⊢;omega
inductive View (l:Loc)(g:Blk):Obj→Array Value→Prop
 |cells {c T fz} (hm:l.mp=false) (hs:c.size=l.size) (hf:g.ro=false→∀i,i<c.size→¬(fz.1≤i∧i<fz.2)):View l g (.cells c T fz) c
 |map {es clock} (hm:l.mp=true) (hb:l.base=0) (hl:g.cells.length=2*es.size):View l g (.map es clock) (flat es.toList).toArray
structure BRel (φ:Nat→Loc)(L:Lens)(g:Blk)(l:Loc)(w:World):Prop where
 any:∃o c,w.heap[l.b]?=some o∧View l g o c∧l.base+g.cells.length≤c.size∧∀i v,g.cells[i]?=some v→∃v',c[l.base+i]?=some v'∧Val φ L v v'
theorem BRel.ex {φ:Nat→Loc}{L:Lens}{g:Blk}{l:Loc}{w:World}(h:BRel φ L g l w)(hm:l.mp=false) :
  ∃c T fz,w.heap[l.b]?=some (.cells c T fz)∧c.size=l.size∧l.base+g.cells.length≤c.size∧(g.ro=false→∀i,i<c.size→¬(fz.1≤i∧i<fz.2)) ∧
  ∀i v,g.cells[i]?=some v→∃v',c[l.base+i]?=some v'∧Val φ L v v':=by
 obtain⟨o,c,h1,h2,h3,h4⟩:=h.any
 cases h2 with
 |cells _ hs hf=>exact⟨_,_,_,h1,hs,h3,hf,h4⟩
 |map hm'=>rw[hm]at hm';cases hm'

structure Rel (B0:Nat)(w0:World)(φ:Nat→Loc)(H:Heap)(w:World):Prop where
 below:Below B0 w0 w
 b0:B0≤w0.heap.size
 blk:∀A g,H[A]?=some (some g)→BRel φ (lens H) g (φ A) w
 own:∀A g,H[A]?=some (some g)→g.ro=false→B0≤(φ A).b∧(φ A).base=0
 inj:∀A A' g g',H[A]?=some (some g)→g.ro=false→H[A']?=some (some g')→(φ A').b=(φ A).b→A'=A
 gw:GW B0 w0

theorem Rel.lt {B0:Nat}{w0:World}{φ:Nat→Loc}{H:Heap}{w:World}(r:Rel B0 w0 φ H w){A:Nat}{g:Blk}(h:H[A]?=some (some g)):(φ A).b<w.heap.size:=by
 obtain⟨o,c,h1,_⟩:=(r.blk A g h).any
 exact(Array.getElem?_eq_some_iff.1 h1).1

def upd (φ:Nat→Loc)(A:Nat)(l:Loc):Nat→Loc:=fun B=>if B=A then l else φ B
theorem yK {φ:Nat→Loc}{A:Nat}{l:Loc}:upd φ A l A=l:=by simp[upd]
theorem upd_ne {φ:Nat→Loc}{A B:Nat}{l:Loc}(h:B≠A):upd φ A l B=φ B:=by simp[upd,h]

structure VRel (φ:Nat→Loc)(L:Lens)(as0:List Value)(vs:Array Value):Prop where
 size:vs.size=as0.length
 get:∀(i:Nat) (v:Value),as0[i]?=some v→∃v',vs[i]?=some v'∧Val φ L v v'

theorem VRel.mono {φ φ':Nat→Loc}{L L':Lens}(e:Ext φ L φ' L'){as0:List Value}{vs:Array Value}(h:VRel φ L as0 vs):VRel φ' L' as0 vs :=
 ⟨h.size,fun i v hi=>let ⟨v',h1,h2⟩:=h.get i v hi;⟨v',h1,h2.mono e⟩⟩

theorem lens_live {H:Heap}{A n:Nat}(h:lens H A=some n):∃g,H[A]?=some (some g)∧g.cells.length=n:=by
 unfold lens at h
 cases hA:H[A]? with
 |none=>rw[hA]at h;cases h
 |some x =>
  cases x with
  |none=>rw[hA]at h;cases h
  |some g=>rw[hA]at h;simp only[Option.join_some,Option.map_some,Option.some.injEq]at h;exact⟨g,rfl,h⟩
theorem lens_some {H:Heap}{A n:Nat}(h:lens H A=some n):A<H.length:=by
 obtain⟨g,h,_⟩:=lens_live h
 exact(List.getElem?_eq_some_iff.1 h).1

theorem lens_of {H:Heap}{A:Nat}{g:Blk}(h:H[A]?=some (some g)):lens H A=some g.cells.length:=by simp[lens,h]

theorem lens_app_eq {H:Heap}{g:Blk}:lens (H++[some g]) H.length=some g.cells.length:=by
 simp[lens]
theorem lens_set_ne {H:Heap}{g:Blk}{A B:Nat}(h:B≠A):lens (H.set A (some g)) B=lens H B:=by
 simp only[lens];rw[List.getElem?_set_ne (by omega)]
theorem lens_set_eq {H:Heap}{g:Blk}{A:Nat}(h:A<H.length):lens (H.set A (some g)) A=some g.cells.length:=by
 simp[lens,h]

structure Place (H:Heap)(A:Nat)(H':Heap)(b:Blk):Prop where
 at_:H'[A]?=some (some b)
 ne:∀B,B≠A→H'[B]?=H[B]?
 free:∀g,H[A]?≠some (some g)
theorem Place.app (H:Heap)(b:Blk):Place H H.length (H++[some b]) b:=by
 refine⟨by simp,fun B hB=>?_,fun g h=>?_⟩
 ·rcases Nat.lt_or_ge B H.length with h|h
  ·rw[List.getElem?_append_left h]
  ·rw[List.getElem?_eq_none (by simp;omega),List.getElem?_eq_none h]
 ·rw[List.getElem?_eq_none (Nat.le_refl _)]at h;cases h
theorem Place.hole {H:Heap}{A:Nat}(h:H[A]?=some none)(b:Blk):Place H A (H.set A (some b)) b:=by
 have hA:=(List.getElem?_eq_some_iff.1 h).1
 exact⟨by simp[hA],fun B hB=>List.getElem?_set_ne (by omega),fun g k=>by rw[h]at k;cases k⟩
theorem Place.lens {H H':Heap}{A:Nat}{b:Blk}(p:Place H A H' b):lens H' A=some b.cells.length:=lens_of p.at_
theorem Place.lens_ne {H H':Heap}{A B:Nat}{b:Blk}(p:Place H A H' b)(h:B≠A):Gh.lens H' B=Gh.lens H B:=by
 simp only[Gh.lens,p.ne B h]
theorem rel_newO {B0:Nat}{w0:World}{φ:Nat→Loc}{H:Heap}{w w':World}(r:Rel B0 w0 φ H w){g0:Blk}{o:Obj}{l0:Loc}{A0:Nat}{H':Heap}
  (hpl:Place H A0 H' g0) (hlb:l0.b=w.heap.size) (hl0:l0.base=0) (hw:w'.heap=w.heap.push o) (hos:w'.os=w.os) (htp:w'.tape=w.tape) (hou:w'.output=w.output)
  (hbr:Ext φ (lens H) (upd φ A0 l0) (lens H')→BRel (upd φ A0 l0) (lens H') g0 l0 w') :
  Ext φ (lens H) (upd φ A0 l0) (lens H')∧Rel B0 w0 (upd φ A0 l0) H' w':=by
 have hne:∀{A n},lens H A=some n→A≠A0:=by
  intro A n hA e
  subst e
  obtain⟨g,h,_⟩:=lens_live hA
  exact hpl.free g h
 have hext:Ext φ (lens H) (upd φ A0 l0) (lens H'):=by
  intro A n hA
  have h:=hne hA
  exact⟨n,by rw[hpl.lens_ne h];exact hA,.inl ⟨rfl,upd_ne h⟩⟩
 have hb:w0.heap.size≤w.heap.size:=r.below.size
 refine⟨hext,⟨?_,r.b0,?_,?_,?_,r.gw⟩⟩
 ·refine r.below.trans ⟨hos,htp,hou,by rw[hw];simp,fun k hk=>?_⟩
  rw[hw,Array.getElem?_push,if_neg (by have:=r.b0;omega)]
 ·intro A g hA
  by_cases e:A=A0
  ·subst e
   rw[hpl.at_]at hA
   simp only[Option.some.injEq]at hA
   subst hA
   rw[yK]
   exact hbr hext
  ·rw[hpl.ne A e]at hA
   obtain⟨o1,c1,h1,h2,h3,h5⟩:=(r.blk A g hA).any
   have hlt':=(Array.getElem?_eq_some_iff.1 h1).1
   rw[upd_ne e]
   refine⟨o1,c1,?_,h2,h3,fun i v hi=>?_⟩
   ·rw[hw,Array.getElem?_push,if_neg (by omega)];exact h1
   ·obtain⟨v',g1,g2⟩:=h5 i v hi
    exact⟨v',g1,g2.mono hext⟩
 ·intro A g hA hro
  by_cases e:A=A0
  ·subst e
   rw[yK]
   exact⟨by have:=r.b0;omega,hl0⟩
  ·rw[hpl.ne A e]at hA
   rw[upd_ne e]
   exact r.own A g hA hro
 ·intro A A' g g' hA hro hA' he
  by_cases e1:A=A0
  ·subst e1
   by_cases e2:A'=A
   ·exact e2
   ·rw[yK,upd_ne e2]at he
    rw[hpl.ne A' e2]at hA'
    have:=r.lt hA'
    omega
  ·rw[hpl.ne A e1]at hA
   by_cases e2:A'=A0
   ·subst e2
    rw[yK,upd_ne e1]at he
    have:=r.lt hA
    omega
   ·rw[upd_ne e1,upd_ne e2]at he
    rw[hpl.ne A' e2]at hA'
    exact r.inj A A' g g' hA hro hA' he

theorem rel_new {B0:Nat}{w0:World}{φ:Nat→Loc}{H:Heap}{w w':World}(r:Rel B0 w0 φ H w){cells:List Value}{us c:Array Value}{T:TypeId}{fz:Nat × Nat}{ro:Bool}{A0:Nat}{H':Heap}
  (hpl:Place H A0 H' ⟨cells,ro⟩) (hv:VRel φ (lens H) cells us) (hw:w'.heap=w.heap.push (.cells c T fz)) (hos:w'.os=w.os) (htp:w'.tape=w.tape) (hou:w'.output=w.output)
  (hc:us.size≤c.size) (hcu:∀i:Nat,i<us.size→c[i]?=us[i]?) (hfz:∀i,i<c.size→¬(fz.1≤i∧i<fz.2)) :
  Ext φ (lens H) (upd φ A0 ⟨w.heap.size,0,c.size,false⟩) (lens H')∧Rel B0 w0 (upd φ A0 ⟨w.heap.size,0,c.size,false⟩) H' w' :=
 rel_newO r hpl rfl rfl hw hos htp hou fun hext=>by
  refine⟨.cells c T fz,c,?_,.cells rfl rfl fun _=>hfz,?_,fun i v hi=>?_⟩
  ·rw[hw];simp
  ·simp only;have:=hv.size;omega
  ·obtain⟨v',g1,g2⟩:=hv.get i v hi
   refine⟨v',?_,g2.mono hext⟩
   simp only[Nat.zero_add]
   rw[hcu i (Array.getElem?_eq_some_iff.1 g1).1];exact g1

theorem rel_setO {B0:Nat}{w0:World}{φ:Nat→Loc}{H:Heap}{w w':World}(r:Rel B0 w0 φ H w){A:Nat}{g g':Blk}{l':Loc}
  (hA:H[A]?=some (some g)) (hro:g.ro=false) (hos:w'.os=w.os) (htp:w'.tape=w.tape) (hou:w'.output=w.output) (hsz:w.heap.size≤w'.heap.size)
  (hoth:∀k,k<w.heap.size→k≠(φ A).b→w'.heap[k]?=w.heap[k]?) (hl:l'.b=(φ A).b∨w.heap.size≤l'.b) (hbase:l'.base=0)
  (hgrow:(g'.cells.length=g.cells.length∧l'=φ A)∨(g.cells.length<g'.cells.length∧((φ A).mp=true→l'=φ A)))
  (hbr:Ext φ (lens H) (upd φ A l') (lens (H.set A (some g')))→BRel (upd φ A l') (lens (H.set A (some g'))) g' l' w') :
  Ext φ (lens H) (upd φ A l') (lens (H.set A (some g')))∧Rel B0 w0 (upd φ A l') (H.set A (some g')) w':=by
 have hAlt:=(List.getElem?_eq_some_iff.1 hA).1
 obtain⟨hB0,_⟩:=r.own A g hA hro
 have hext:Ext φ (lens H) (upd φ A l') (lens (H.set A (some g'))):=by
  intro A' n hn
  by_cases e:A'=A
  ·subst e
   rw[lens_of hA]at hn
   simp only[Option.some.injEq]at hn
   refine⟨g'.cells.length,lens_set_eq hAlt,?_⟩
   rw[yK,←hn]
   exact hgrow
  ·exact⟨n,by rw[lens_set_ne e];exact hn,.inl ⟨rfl,upd_ne e⟩⟩
 refine⟨hext,⟨?_,r.b0,?_,?_,?_,r.gw⟩⟩
 ·refine r.below.trans ⟨hos,htp,hou,hsz,fun k hk=>hoth k ?_ (by omega)⟩
  have:=r.b0;have:=r.below.size;omega
 ·intro A' g1 hA'
  by_cases e:A'=A
  ·subst e
   rw[List.getElem?_set_self hAlt]at hA'
   simp only[Option.some.injEq]at hA'
   subst hA'
   rw[yK]
   exact hbr hext
  ·rw[List.getElem?_set_ne (by omega)]at hA'
   rw[upd_ne e]
   obtain⟨o1,c1,h1,h2,h3,h5⟩:=(r.blk A' g1 hA').any
   have hlt':=(Array.getElem?_eq_some_iff.1 h1).1
   refine⟨o1,c1,?_,h2,h3,fun i v hi=>?_⟩
   ·rw[hoth _ hlt' (fun e'=>e (r.inj A A' g g1 hA hro hA' e'))];exact h1
   ·obtain⟨v',g2,g3⟩:=h5 i v hi
    exact⟨v',g2,g3.mono hext⟩
 ·intro A' g1 hA' hr1
  by_cases e:A'=A
  ·subst e
   rw[yK]
   refine⟨?_,hbase⟩
   rcases hl with hl|hl
   ·omega
   ·have:=r.b0;have:=r.below.size;omega
  ·rw[List.getElem?_set_ne (by omega)]at hA'
   rw[upd_ne e]
   exact r.own A' g1 hA' hr1
 ·intro A1 A2 g1 g2 h1 hr1 h2 he
  by_cases e1:A1=A
  ·subst e1
   by_cases e2:A2=A1
   ·exact e2
   ·rw[List.getElem?_set_ne (by omega)]at h2
    rw[yK,upd_ne e2]at he
    rcases hl with hl|hl
    ·exact r.inj A1 A2 g g2 hA hro h2 (he.trans hl)
    ·have:=r.lt h2;omega
  ·rw[List.getElem?_set_ne (by omega)]at h1
   by_cases e2:A2=A
   ·subst e2
    rw[yK,upd_ne e1]at he
    rcases hl with hl|hl
    ·exact r.inj A1 A2 g1 g h1 hr1 hA (hl.symm.trans he)
    ·have:=r.lt h1;omega
   ·rw[List.getElem?_set_ne (by omega)]at h2
    rw[upd_ne e1,upd_ne e2]at he
    exact r.inj A1 A2 g1 g2 h1 hr1 h2 he

theorem rel_set {B0:Nat}{w0:World}{φ:Nat→Loc}{H:Heap}{w w':World}(r:Rel B0 w0 φ H w){A:Nat}{g g':Blk}{l':Loc}{c:Array Value}{T:TypeId}{fz:Nat × Nat}
  (hA:H[A]?=some (some g)) (hro:g.ro=false) (hos:w'.os=w.os) (htp:w'.tape=w.tape) (hou:w'.output=w.output) (hsz:w.heap.size≤w'.heap.size)
  (hoth:∀k,k<w.heap.size→k≠(φ A).b→w'.heap[k]?=w.heap[k]?) (hl:l'.b=(φ A).b∨w.heap.size≤l'.b) (hbase:l'.base=0) (hmp:l'.mp=false) (hmp0:(φ A).mp=false)
  (hw:w'.heap[l'.b]?=some (.cells c T fz)) (hc:c.size=l'.size) (hlen:g'.cells.length≤c.size) (hfz:∀i,i<c.size→¬(fz.1≤i∧i<fz.2))
  (hgrow:(g'.cells.length=g.cells.length∧l'=φ A)∨g.cells.length<g'.cells.length)
  (hcells:∀(i:Nat) (v:Value),g'.cells[i]?=some v→∃v',c[i]?=some v'∧Val (upd φ A l') (lens (H.set A (some g'))) v v') :
  Ext φ (lens H) (upd φ A l') (lens (H.set A (some g')))∧Rel B0 w0 (upd φ A l') (H.set A (some g')) w' :=
 rel_setO r hA hro hos htp hou hsz hoth hl hbase (hgrow.imp id fun h=>⟨h,fun h'=>by rw[hmp0]at h';cases h'⟩) fun _=>by
  refine⟨_,c,hw,.cells hmp hc fun _=>hfz,by omega,fun i v hi=>?_⟩
  rw[hbase,Nat.zero_add]
  exact hcells i v hi

abbrev AF :=List (Nat × Value)

def get :AF→Nat→Option Value
 |[],_=>none
 |(k,v)::r,t=>bif Nat.beq k t then some v else get r t

structure Fr where
 sz:Nat
 n0:Nat

structure FRel (φ:Nat→Loc)(L:Lens)(N:Fr)(a:AF)(ac:Act):Prop where
 defers:ac.defers=[]
 size:ac.tmps.size=N.sz
 slot:∀t v,get a t=some v→∃v',ac.tmps[t]?=some v'∧Val φ L v v'

theorem FRel.mono {φ φ':Nat→Loc}{L L':Lens}{N:Fr}{a:AF}{ac:Act}(e:Ext φ L φ' L')(h:FRel φ L N a ac):FRel φ' L' N a ac :=
 ⟨h.defers,h.size,fun t v ht=>let ⟨v',h1,h2⟩:=h.slot t v ht;⟨v',h1,h2.mono e⟩⟩

def ev (a:AF):Operand→Option Value
 |.tmp t=>get a t
 |.const v=>bif yJ v then some v else none
 |.global _=>none
 |.func f=>some (.func (.func f) #[] #[])

theorem zW {φ:Nat→Loc}{L:Lens}{N:Fr}{a:AF}{ac:Act}(h:FRel φ L N a ac){x:Operand}{v:Value}(hx:ev a x=some v) :
  Val φ L v (ac.eval x):=by
 cases x with
 |tmp t =>
  obtain⟨v',h1,h2⟩:=h.slot t v hx
  have:ac.eval (.tmp t)=v':=by simp[Act.eval,Array.getD_eq_getD_getElem?,h1]
  rw[this];exact h2
 |const u =>
  cases hu:yJ u with
  |true =>
   simp only[ev,hu,cond_true,Option.some.injEq]at hx
   subst hx
   exact Val.const hu
  |false=>simp[ev,hu]at hx
 |global g=>cases hx
 |func f =>
  simp only[ev,Option.some.injEq]at hx
  subst hx
  exact .func _ _ _ _ _ rfl (fun i h=>by simp at h) rfl (fun i h=>by simp at h)

def put (a:AF)(dst:Option Tmp)(v:Value):AF :=
 match dst with
 |some d=>(d,v)::a
 |none=>a

theorem get_put {a:AF}{d:Nat}{v:Value}{t:Nat}{u:Value}(h:get ((d,v)::a) t=some u):(t=d∧u=v)∨(t≠d∧get a t=some u):=by
 unfold get at h
 by_cases hd:d=t
 ·subst hd
  rw[show Nat.beq d d=true from Nat.beq_refl d]at h
  simp only[cond_true,Option.some.injEq]at h
  exact .inl ⟨rfl,h.symm⟩
 ·have:Nat.beq d t=false:=by
   cases hb:Nat.beq d t with
   |true=>exact absurd (Nat.eq_of_beq_eq_true hb) hd
   |false=>rfl
  rw[this]at h
  exact .inr ⟨fun e=>hd e.symm,h⟩

theorem FRel.put {φ:Nat→Loc}{L:Lens}{N:Fr}{a:AF}{ac:Act}(h:FRel φ L N a ac){dst:Option Tmp}{v v':Value}
  (hd:∀d,dst=some d→d<N.sz) (hv:Val φ L v v'):FRel φ L N (put a dst v) (ac.put dst v'):=by
 cases dst with
 |none=>exact h
 |some d =>
  refine⟨h.defers,by simp[Act.put,h.size],fun t u ht=>?_⟩
  rcases get_put ht with⟨rfl,rfl⟩|⟨hne,ht⟩
  ·exact⟨v',by simp[Act.put,h.size,hd t rfl],hv⟩
  ·obtain⟨u',h1,h2⟩:=h.slot t u ht
   refine⟨u',?_,h2⟩
   simp only[Act.put]
   rw[Array.getElem?_setIfInBounds_ne (by omega)]
   exact h1

def Sub :AF→AF→Prop
 |[],_=>True
 |(t,v)::r,a=>get a t=some v∧Sub r a

theorem Sub.get {b a:AF}(h:Sub b a):∀{t v},get b t=some v→get a t=some v:=by
 induction b with
 |nil=>intro t v hv;cases hv
 |cons x r ih =>
  obtain⟨k,u⟩:=x
  intro t v hv
  rcases get_put hv with⟨rfl,rfl⟩|⟨_,hv⟩
  ·exact h.1
  ·exact ih h.2 hv

theorem FRel.sub {φ:Nat→Loc}{L:Lens}{N:Fr}{a b:AF}{ac:Act}(h:FRel φ L N a ac)(s:Sub b a):FRel φ L N b ac :=
 ⟨h.defers,h.size,fun t v hv=>h.slot t v (s.get hv)⟩


abbrev Post :=Exit→AF→Heap→Prop

def QC (B0:Nat)(w0:World)(N:Fr)(φs:Nat→Loc)(Ls:Lens)(Q:Post):Exit→Act→World→Prop :=
 fun e ac w=>∃φ a H,Ext φs Ls φ (lens H)∧Rel B0 w0 φ H w∧FRel φ (lens H) N a ac∧Q e a H

def Dom (Ls:Lens)(n:Nat):Prop:=∀A m,Ls A=some m→A<n

def AWp (P:Program)(N:Fr)(c:Code)(Q:Post)(a:AF)(H:Heap):Prop :=
 ∀B0 w0 φs Ls φ w ac,Dom Ls N.n0→Ext φs Ls φ (lens H)→Rel B0 w0 φ H w→FRel φ (lens H) N a ac→c.wp P (QC B0 w0 N φs Ls Q) ac w

def AOps (P:Program)(N:Fr)(ops:Array Oper)(Q:Post)(l:List Oper)(a:AF)(H:Heap):Prop :=
 ∀B0 w0 φs Ls φ w ac,Dom Ls N.n0→Ext φs Ls φ (lens H)→Rel B0 w0 φ H w→FRel φ (lens H) N a ac→wpList P ops (QC B0 w0 N φs Ls Q) l ac w

def AOp (P:Program)(N:Fr)(o:Oper)(ops:Array Oper)(rest:List Oper)(Q:Post)(a:AF)(H:Heap):Prop :=
 ∀B0 w0 φs Ls φ w ac,Dom Ls N.n0→Ext φs Ls φ (lens H)→Rel B0 w0 φ H w→FRel φ (lens H) N a ac →
  o.wp P ac w (wpList P ops (QC B0 w0 N φs Ls Q) rest) (QC B0 w0 N φs Ls Q)

section
variable {P:Program} {N:Fr} {ops:Array Oper} {Q:Post} {l rest:List Oper} {o:Oper} {a:AF} {H:Heap}

theorem AWp.mono {c:Code}{Q':Post}(h:AWp P N c Q a H)(hq:∀e a H,Q e a H→Q' e a H):AWp P N c Q' a H :=
 fun B0 w0 φs Ls φ w ac hdm he hr hf=>wp_mono (h B0 w0 φs Ls φ w ac hdm he hr hf) fun _ _ _ ⟨φ',a',H',h1,h2,h3,h4⟩=>⟨φ',a',H',h1,h2,h3,hq _ _ _ h4⟩

theorem AWp.sub {c:Code}{b:AF}(h:AWp P N c Q b H)(s:Sub b a):AWp P N c Q a H :=
 fun B0 w0 φs Ls φ w ac hdm he hr hf=>h B0 w0 φs Ls φ w ac hdm he hr (hf.sub s)

theorem AOps.sub {b:AF}(h:AOps P N ops Q l b H)(s:Sub b a):AOps P N ops Q l a H :=
 fun B0 w0 φs Ls φ w ac hdm he hr hf=>h B0 w0 φs Ls φ w ac hdm he hr (hf.sub s)

def thenA (K:AF→Heap→Prop)(Q:Post):Post
 |.normal,a,H=>K a H
 |e,a,H=>Q e a H

def blockA (id:Nat)(Q:Post):Post
 |.exit id',a,H=>if id'=id then Q .normal a H else Q (.exit id') a H
 |e,a,H=>Q e a H

theorem awp_skip (h:Q .normal a H):AWp P N .skip Q a H :=
 fun _ _ _ _ φ _ _ _ he hr hf=>wp_skip ⟨φ,a,H,he,hr,hf,h⟩

theorem awp_ret (h:Q .ret a H):AWp P N .ret Q a H :=
 fun _ _ _ _ φ _ _ _ he hr hf=>wp_ret ⟨φ,a,H,he,hr,hf,h⟩

theorem awp_exit {id:Nat}(h:Q (.exit id) a H):AWp P N (.exit id) Q a H :=
 fun _ _ _ _ φ _ _ _ he hr hf=>wp_exit ⟨φ,a,H,he,hr,hf,h⟩

theorem awp_seq {x y:Code}(h:AWp P N x (thenA (fun a H=>AWp P N y Q a H) Q) a H):AWp P N (.seq x y) Q a H:=by
 intro B0 w0 φs Ls φ w ac hdm he hr hf
 refine wp_seq (wp_mono (h B0 w0 φs Ls φ w ac hdm he hr hf) ?_)
 rintro e ac' w' ⟨φ',a',H',h1,h2,h3,h4⟩
 cases e with
 |normal=>exact h4 B0 w0 φs Ls φ' w' ac' hdm h1 h2 h3
 |_=>exact⟨φ',a',H',h1,h2,h3,h4⟩

theorem awp_cond {c:Operand}{x y:Code}{t:Bool}(hc:ev a c=some (.bool t))(h1:t=true→AWp P N x Q a H)(h2:t=false→AWp P N y Q a H) :
  AWp P N (.cond c x y) Q a H:=by
 intro B0 w0 φs Ls φ w ac hdm he hr hf
 have hb:=(zW hf hc).scalar rfl
 cases t with
 |true=>exact wp_cond_true hb (h1 rfl B0 w0 φs Ls φ w ac hdm he hr hf)
 |false=>exact wp_cond_false hb (h2 rfl B0 w0 φs Ls φ w ac hdm he hr hf)

theorem awp_cond_true {c:Operand}{x y:Code}{t:Bool}(hc:ev a c=some (.bool t))(ht:t=true)(h1:AWp P N x Q a H):AWp P N (.cond c x y) Q a H :=
 awp_cond hc (fun _=>h1) (fun h=>by rw[ht]at h;cases h)
theorem awp_cond_false {c:Operand}{x y:Code}{t:Bool}(hc:ev a c=some (.bool t))(ht:t=false)(h1:AWp P N y Q a H):AWp P N (.cond c x y) Q a H :=
 awp_cond hc (fun h=>by rw[ht]at h;cases h) (fun _=>h1)
theorem awp_if {c:Operand}{x y:Code}{p:Prop}[Decidable p](hc:ev a c=some (.bool (decide p)))(h1:p→AWp P N x Q a H)(h2:¬p→AWp P N y Q a H) :
  AWp P N (.cond c x y) Q a H :=
 awp_cond hc (fun h=>h1 (of_decide_eq_true h)) (fun h=>h2 (of_decide_eq_false h))

theorem awp_block {id:Nat}{c:Code}(h:AWp P N c (blockA id Q) a H):AWp P N (.block id c) Q a H:=by
 intro B0 w0 φs Ls φ w ac hdm he hr hf
 refine wp_block (wp_mono (h B0 w0 φs Ls φ w ac hdm he hr hf) ?_)
 rintro e ac' w' ⟨φ',a',H',h1,h2,h3,h4⟩
 cases e with
 |exit id' =>
  by_cases hid:id'=id
  ·subst hid
   simp only[blockA,if_true]at h4
   simp only[Exit.inBlock,if_true]
   exact⟨φ',a',H',h1,h2,h3,h4⟩
  ·simp only[blockA,hid,if_false]at h4
   simp only[Exit.inBlock,hid,if_false]
   exact⟨φ',a',H',h1,h2,h3,h4⟩
 |_=>exact⟨φ',a',H',h1,h2,h3,h4⟩

structure Keep (N:Fr)(a:AF)(H:Heap)(a2:AF)(H2:Heap):Prop where
 go:∀B0 w0 φ w ac,Rel B0 w0 φ H w→FRel φ (lens H) N a ac →
  ∃φ2,Rel B0 w0 φ2 H2 w∧FRel φ2 (lens H2) N a2 ac∧∀A,A<N.n0→φ2 A=φ A∧lens H2 A=lens H A

theorem keep_sub {a2:AF}(s:Sub a2 a):Keep N a H a2 H :=
 ⟨fun _ _ φ _ _ hr hf=>⟨φ,hr,hf.sub s,fun _ _=>⟨rfl,rfl⟩⟩⟩
theorem keep_refl :Keep N a H a H:=⟨fun _ _ φ _ _ hr hf=>⟨φ,hr,hf,fun _ _=>⟨rfl,rfl⟩⟩⟩

theorem ext_keep {φs φ φ2:Nat→Loc}{Ls:Lens}{H2:Heap}{n:Nat}(hdm:Dom Ls n)(he:Ext φs Ls φ (lens H))(h:∀A,A<n→φ2 A=φ A∧lens H2 A=lens H A):Ext φs Ls φ2 (lens H2):=by
 intro A m hA
 obtain⟨m',h1,h2⟩:=he A m hA
 obtain⟨e1,e2⟩:=h A (hdm A m hA)
 exact⟨m',e2.trans h1,h2.imp (fun⟨x,y⟩=>⟨x,e1.trans y⟩) (fun⟨x,y⟩=>⟨x,fun hm=>e1.trans (y hm)⟩)⟩

theorem awp_keep {c:Code}{a2:AF}{H2:Heap}(k:Keep N a H a2 H2)(h:AWp P N c Q a2 H2):AWp P N c Q a H:=by
 intro B0 w0 φs Ls φ w ac hdm he hr hf
 obtain⟨φ2,h1,h2,h3⟩:=k.go B0 w0 φ w ac hr hf
 exact h B0 w0 φs Ls φ2 w ac hdm (ext_keep hdm he h3) h1 h2

theorem awp_loop {S:Type}{c:Code}(A:S→AF)(G:S→Heap)(I:S→Prop)(μ:S→Nat)(s0:S)(h0:I s0)(hk:Keep N a H (A s0) (G s0))
  (round:∀s,I s→AWp P N c (thenA (fun a' H'=>∃s',I s'∧μ s'<μ s∧Keep N a' H' (A s') (G s')) Q) (A s) (G s)):AWp P N (.loop c) Q a H:=by
 refine awp_keep hk ?_
 intro B0 w0 φs Ls φ w ac hdm he hr hf b k cs
 have key:∀n s φ ac w,μ s=n→I s→Ext φs Ls φ (lens (G s))→Rel B0 w0 φ (G s) w→FRel φ (lens (G s)) N (A s) ac →
   ∃e a' w',QC B0 w0 N φs Ls Q e a' w'∧Arrives P (lone (b.at ac (.code c::.inLoop c::k)) cs w) b k cs e a' w':=by
  intro n
  induction n using Nat.strongRecOn with
  |_ n ih =>
   intro s φ ac w hn hI he hr hf
   obtain⟨e,a₁,w₁,⟨φ',a',H',h1,h2,h3,h4⟩,harr⟩:=round s hI B0 w0 φs Ls φ w ac hdm he hr hf b (.inLoop c::k) cs
   cases e with
   |normal =>
    obtain⟨s',hI',hlt,hkeep⟩:=h4
    obtain⟨φ2,k1,k2,k3⟩:=hkeep.go B0 w0 φ' w₁ a₁ h2 h3
    obtain⟨e₂,a₂,w₂,hq₂,harr₂⟩:=ih (μ s') (hn▸hlt) s' φ2 a₁ w₁ rfl hI' (ext_keep hdm h1 k3) k1 k2
    exact⟨e₂,a₂,w₂,hq₂,.of_steps (Steps.trans harr (.one step_inLoop)) harr₂⟩
   |exit id=>exact⟨_,a₁,w₁,⟨φ',a',H',h1,h2,h3,h4⟩,.pass (x:=.inLoop c) rfl (fun _ _=>.inl (by simp)) harr⟩
   |goto l=>exact⟨_,a₁,w₁,⟨φ',a',H',h1,h2,h3,h4⟩,.pass (x:=.inLoop c) rfl (fun _ _=>.inl (by simp)) harr⟩
   |ret=>exact⟨_,a₁,w₁,⟨φ',a',H',h1,h2,h3,h4⟩,.pass (x:=.inLoop c) rfl (fun _ _=>.inl (by simp)) harr⟩
   |panic ch=>exact⟨_,a₁,w₁,⟨φ',a',H',h1,h2,h3,h4⟩,.pass (x:=.inLoop c) rfl (fun _ _=>.inl (by simp)) harr⟩
   |outgrown=>exact⟨_,a₁,w₁,⟨φ',a',H',h1,h2,h3,h4⟩,.pass (x:=.inLoop c) rfl (fun _ _=>.inl (by simp)) harr⟩
 obtain⟨e,a',w',hq,harr⟩:=key _ s0 φ ac w rfl h0 he hr hf
 exact⟨e,a',w',hq,.of_steps (.one step_loop) harr⟩

theorem awp_region {id:Nat}(h:AOps P N ops Q ops.toList a H):AWp P N (.region id ops false) Q a H :=
 fun B0 w0 φs Ls φ w ac hdm he hr hf=>wp_region_list (h B0 w0 φs Ls φ w ac hdm he hr hf)

theorem aops_nil (h:Q .normal a H):AOps P N ops Q [] a H :=
 fun _ _ _ _ φ _ _ _ he hr hf=>wpList_nil ⟨φ,a,H,he,hr,hf,h⟩

theorem aops_plain (hg:o.guard=none)(h:AOp P N o ops rest Q a H):AOps P N ops Q (o::rest) a H:=by
 intro B0 w0 φs Ls φ w ac hdm he hr hf
 unfold wpList
 rw[if_pos (by simp[Region.wanted,hg])]
 exact .inl (h B0 w0 φs Ls φ w ac hdm he hr hf)

theorem yielded_of {φ:Nat→Loc}{L:Lens}{ac:Act}(hf:FRel φ L N a ac){j d:Nat}(hd:(ops[j]?).bind (·.dst)=some d){b:Bool}(hb:get a d=some (.bool b)) :
  yielded ops ac.tmps j=some b:=by
 obtain⟨v',h1,h2⟩:=hf.slot d _ hb
 have:=h2.scalar rfl
 subst this
 simp[yielded,hd,h1]

theorem undef_rel {φ:Nat→Loc}{L:Lens}:Val φ L undef undef:=Val.const rfl

def dstLt (o:Oper)(N:Fr):Bool:=match o.dst with
 |some d=>Nat.blt d N.sz
 |none=>true
theorem dstLt_lt {o:Oper}{N:Fr}(h:dstLt o N=true):∀d,o.dst=some d→d<N.sz:=by
 intro d hd
 unfold dstLt at h
 rw[hd]at h
 exact Nat.lt_of_lt_of_le (Nat.lt_succ_self d) (Nat.le_of_ble_eq_true h)

theorem aops_skip {j:Nat}{want:Bool}{d:Nat}{b:Bool}(hg:o.guard=some (j,want))(hd:(ops[j]?).bind (·.dst)=some d)(hb:get a d=some (.bool b))(e:b=!want)
  (hN:dstLt o N=true) (h:AOps P N ops Q rest (put a o.dst undef) H):AOps P N ops Q (o::rest) a H:=by
 intro B0 w0 φs Ls φ w ac hdm he hr hf
 unfold wpList
 rw[if_neg (by simp only[Region.wanted,hg];rw[yielded_of hf hd hb,e];cases want <;> simp)]
 exact h B0 w0 φs Ls φ w _ hdm he hr (hf.put (dstLt_lt hN) undef_rel)

theorem aops_skip_undef {j:Nat}{want:Bool}{d:Nat}(hg:o.guard=some (j,want))(hd:(ops[j]?).bind (·.dst)=some d)(hb:get a d=some undef)
  (hN:dstLt o N=true) (h:AOps P N ops Q rest (put a o.dst undef) H):AOps P N ops Q (o::rest) a H:=by
 intro B0 w0 φs Ls φ w ac hdm he hr hf
 unfold wpList
 obtain⟨v',h1,h2⟩:=hf.slot d _ hb
 have:=Val.det rfl h2
 subst this
 rw[if_neg (by simp[Region.wanted,hg,yielded,hd,h1,undef])]
 exact h B0 w0 φs Ls φ w _ hdm he hr (hf.put (dstLt_lt hN) undef_rel)

theorem aop_value {H':Heap}{v:Value}(hN:dstLt o N=true)
  (hop:∀B0 w0 φ w ac,Rel B0 w0 φ H w→FRel φ (lens H) N a ac →
   ∃φ' v' w',Ext φ (lens H) φ' (lens H')∧Rel B0 w0 φ' H' w'∧Val φ' (lens H') v v'∧(execOp ac.eval o).run P w=.ok (.value v') w')
  (k:AOps P N ops Q rest (put a o.dst v) H'):AOp P N o ops rest Q a H:=by
 intro B0 w0 φs Ls φ w ac hdm he hr hf
 obtain⟨φ',v',w',h1,h2,h3,h4⟩:=hop B0 w0 φ w ac hr hf
 unfold Oper.wp
 rw[h4]
 exact k B0 w0 φs Ls φ' w' _ hdm (he.trans h1) h2 ((hf.mono h1).put (dstLt_lt hN) h3)

structure APure (P:Program)(N:Fr)(o:Oper)(a:AF)(H:Heap)(v:Value):Prop where
 go:∀B0 w0 φ w ac,Rel B0 w0 φ H w→FRel φ (lens H) N a ac →
  ∃v',Val φ (lens H) v v'∧∀w1,Below w.heap.size w w1→(execOp ac.eval o).run P w1=.ok (.value v') w1

theorem aop_of {v:Value}(h:APure P N o a H v)(hN:dstLt o N=true)(k:AOps P N ops Q rest (put a o.dst v) H):AOp P N o ops rest Q a H :=
 aop_value hN (fun B0 w0 φ w ac hr hf=>let ⟨v',h1,h2⟩:=h.go B0 w0 φ w ac hr hf;⟨φ,v',w,.refl _ _,hr,h1,h2 w (Below.refl _ _)⟩) k

structure AEff (P:Program)(N:Fr)(o:Oper)(a:AF)(H:Heap)(v:Value)(H':Heap):Prop where
 go:∀B0 w0 φ w ac,Rel B0 w0 φ H w→FRel φ (lens H) N a ac →
  ∃φ' v' w',Ext φ (lens H) φ' (lens H')∧Rel B0 w0 φ' H' w'∧Val φ' (lens H') v v'∧((execOp ac.eval o).run P w=.ok (.value v') w'∨(v'=undef∧(execOp ac.eval o).run P w=.ok .skip w'))
theorem eff_value {H':Heap}{v:Value}
  (hop:∀B0 w0 φ w ac,Rel B0 w0 φ H w→FRel φ (lens H) N a ac →
   ∃φ' v' w',Ext φ (lens H) φ' (lens H')∧Rel B0 w0 φ' H' w'∧Val φ' (lens H') v v'∧(execOp ac.eval o).run P w=.ok (.value v') w'):AEff P N o a H v H' :=
 ⟨fun B0 w0 φ w ac hr hf=>let ⟨φ',v',w',h1,h2,h3,h4⟩:=hop B0 w0 φ w ac hr hf;⟨φ',v',w',h1,h2,h3,.inl h4⟩⟩
theorem eff_unit {H':Heap}
  (hop:∀B0 w0 φ w ac,Rel B0 w0 φ H w→FRel φ (lens H) N a ac →
   ∃φ' w',Ext φ (lens H) φ' (lens H')∧Rel B0 w0 φ' H' w'∧(execOp ac.eval o).run P w=.ok .skip w'):AEff P N o a H undef H' :=
 ⟨fun B0 w0 φ w ac hr hf=>let ⟨φ',w',h1,h2,h4⟩:=hop B0 w0 φ w ac hr hf;⟨φ',undef,w',h1,h2,undef_rel,.inr ⟨rfl,h4⟩⟩⟩
theorem aop_eff {H':Heap}{v:Value}(h:AEff P N o a H v H')(hN:dstLt o N=true)(k:AOps P N ops Q rest (put a o.dst v) H'):AOp P N o ops rest Q a H:=by
 intro B0 w0 φs Ls φ w ac hdm he hr hf
 obtain⟨φ',v',w',h1,h2,h3,h4⟩:=h.go B0 w0 φ w ac hr hf
 unfold Oper.wp
 rcases h4 with h4|⟨rfl,h4⟩
 ·rw[h4]
  exact k B0 w0 φs Ls φ' w' _ hdm (he.trans h1) h2 ((hf.mono h1).put (dstLt_lt hN) h3)
 ·rw[h4]
  exact k B0 w0 φs Ls φ' w' _ hdm (he.trans h1) h2 ((hf.mono h1).put (dstLt_lt hN) h3)

theorem a_move (x:Operand){v:Value}(ho:o.op=.move x)(hx:ev a x=some v):APure P N o a H v :=
 ⟨fun _ _ _ _ _ _ hf=>⟨_,zW hf hx,fun w _=>BigFrame.run_move x ho w⟩⟩

theorem a_assign (x:Operand){v:Value}(ho:o.op=.assign x)(hx:ev a x=some v):APure P N o a H v :=
 ⟨fun _ _ _ _ _ _ hf=>⟨_,zW hf hx,fun w _=>BigFrame.run_assign x ho w⟩⟩

end

section
variable {P:Program}

def RC (B0:Nat)(w0:World)(φs:Nat→Loc)(Ls:Lens)(R:Value→Heap→Prop):Ending→World→Prop :=
 fun e w=>∃φ r H v,Ext φs Ls φ (lens H)∧Rel B0 w0 φ H w∧e=.returned v∧Val φ (lens H) r v∧R r H

def Run (P:Program)(f:FuncId)(as0:List Value)(H:Heap)(R:Value→Heap→Prop):Prop :=
 ∀B0 w0 φs Ls φ w vs,Ext φs Ls φ (lens H)→Rel B0 w0 φ H w→VRel φ (lens H) as0 vs→Calls P f vs w (RC B0 w0 φs Ls R)

theorem Run.mono {f:FuncId}{as0:List Value}{H:Heap}{R R':Value→Heap→Prop}(h:Run P f as0 H R)(hr:∀r H,R r H→R' r H):Run P f as0 H R' :=
 fun B0 w0 φs Ls φ w vs he hrel hv=>(h B0 w0 φs Ls φ w vs he hrel hv).mono fun _ _ ⟨φ',r,H',v,h1,h2,h3,h4,h5⟩=>⟨φ',r,H',v,h1,h2,h3,h4,hr _ _ h5⟩

def enters (P:Program)(f:FuncId):Bool :=
 match P.funcs[f]? with
 |some fn=>fn.body.isSome && fn.name != "runtime.NumGoroutine"
 |none=>false

theorem run_callFunc_enters {f:FuncId}(h:enters P f=true)(args:Array Value)(w:World):(callFunc f args).run P w=.ok (.enter f args) w:=by
 unfold enters at h
 cases hf:P.funcs[f]? with
 |none=>rw[hf]at h;cases h
 |some fn =>
  rw[hf]at h
  simp only[Bool.and_eq_true,bne_iff_ne,ne_eq]at h
  have h1:fn.body.isNone=false:=by cases hb:fn.body <;> simp_all
  have h2:(fn.name == "runtime.NumGoroutine")=false:=by simpa using h.2
  simp only[callFunc,program,Sem.run_bind,Sem.run,Result.andThen_ok,hf,h2,h1,Bool.false_eq_true,if_false]
  rfl

def evs (a:AF):List Operand→Option (List Value)
 |[]=>some []
 |x::r=>match ev a x,evs a r with
  |some v,some vs=>some (v::vs)
  |_,_=>none

theorem evs_rel {φ:Nat→Loc}{L:Lens}{N:Fr}{a:AF}{ac:Act}(h:FRel φ L N a ac):∀{xs:List Operand} {vs:List Value},evs a xs=some vs →
  VRel φ L vs (xs.map ac.eval).toArray:=by
 intro xs
 induction xs with
 |nil=>intro vs hv;simp only[evs,Option.some.injEq]at hv;subst hv;exact⟨rfl,fun i v hi=>by simp at hi⟩
 |cons x r ih =>
  intro vs hv
  simp only[evs]at hv
  cases hx:ev a x with
  |none=>rw[hx]at hv;simp at hv
  |some u =>
   cases hr:evs a r with
   |none=>rw[hx,hr]at hv;simp at hv
   |some us =>
    rw[hx,hr]at hv
    simp only[Option.some.injEq]at hv
    subst hv
    have:=ih hr
    refine⟨by have:=this.size;simp at this ⊢;exact this,fun i v hi=>?_⟩
    cases i with
    |zero=>simp only[List.getElem?_cons_zero,Option.some.injEq]at hi;subst hi;exact⟨_,by simp,zW h hx⟩
    |succ i =>
     simp only[List.getElem?_cons_succ]at hi
     obtain⟨v',h1,h2⟩:=this.get i v hi
     exact⟨v',by simpa using h1,h2⟩

theorem VRel.of_arrays {φ:Nat→Loc}{L:Lens}{a b:Array Value}(h1:a.size=b.size)(h2:∀i (h:i<a.size) (h':i<b.size),Val φ L a[i] b[i]):VRel φ L a.toList b:=by
 refine⟨by simp[h1],fun i v hi=>?_⟩
 have hi':i<a.size:=by
  have:=(List.getElem?_eq_some_iff.1 hi).1
  simpa using this
 refine⟨b[i]'(by omega),by rw[Array.getElem?_eq_getElem (by omega)],?_⟩
 have:v=a[i]:=by
  have:=(List.getElem?_eq_some_iff.1 hi).2
  simpa using this.symm
 rw[this]
 exact h2 i hi' (by omega)

theorem VRel.append {φ:Nat→Loc}{L:Lens}{as0 bs:List Value}{vs us:Array Value}(h:VRel φ L as0 vs)(k:VRel φ L bs us):VRel φ L (as0++bs) (vs++us):=by
 refine⟨by simp[h.size,k.size],fun i v hi=>?_⟩
 rw[List.getElem?_append]at hi
 rw[Array.getElem?_append,h.size]
 split at hi
 ·rename_i hlt;rw[if_pos hlt];exact h.get i v hi
 ·rename_i hlt;rw[if_neg hlt];exact k.get _ v hi

variable {N:Fr} {ops:Array Oper} {Q:Post} {rest:List Oper} {o:Oper} {a:AF} {H:Heap}

theorem aop_enter {f:FuncId}{as0:List Value}{R:Value→Heap→Prop}(hN:dstLt o N=true)
  (hop:∀φ ac,FRel φ (lens H) N a ac→∃vs,VRel φ (lens H) as0 vs∧∀w,(execOp ac.eval o).run P w=.ok (.enter f vs) w)
  (hr:Run P f as0 H R) (k:∀r H',R r H'→AOps P N ops Q rest (put a o.dst r) H'):AOp P N o ops rest Q a H:=by
 intro B0 w0 φs Ls φ w ac hdm he hrel hf
 obtain⟨vs,h1,h2⟩:=hop φ ac hf
 unfold Oper.wp
 rw[h2 w]
 refine(hr B0 w0 φ (lens H) φ w vs (.refl _ _) hrel h1).mono ?_
 rintro e w' ⟨φ',r,H',v,g1,g2,rfl,g4,g5⟩
 exact k r H' g5 B0 w0 φs Ls φ' w' _ hdm (he.trans g1) g2 ((hf.mono g1).put (dstLt_lt hN) g4)

theorem a_call (x:Operand)(xs:List Operand)(ts:Array TypeId){f:FuncId}{first captured:Array Value}{as0:List Value}{R:Value→Heap→Prop}
  (ho:o.op=.call { callee:=.value x,args:=xs.toArray,argTypes:=ts }) (hx:ev a x=some (.func (.func f) first captured)) (hxs:evs a xs=some as0)
  (hf:enters P f=true) (hN:dstLt o N=true) (hr:Run P f (first.toList++as0++captured.toList) H R)
  (k:∀r H',R r H'→AOps P N ops Q rest (put a o.dst r) H'):AOp P N o ops rest Q a H:=by
 refine aop_enter hN ?_ hr k
 intro φ ac hfr
 have h1:=zW hfr hx
 have h2:=evs_rel hfr hxs
 generalize hu:ac.eval x=u at h1
 cases h1 with
 |func _ _ b _ d e1 e2 e3 e4 =>
  refine⟨_,((VRel.of_arrays e1 e2).append h2).append (VRel.of_arrays e3 e4),fun w=>?_⟩
  unfold execOp
  simp only[ho,resolve,List.map_toArray,hu,Deferred.ofValue,Sem.run_bind,Sem.run_pure,Result.andThen_ok,invoke]
  exact run_callFunc_enters hf _ w

def CloV (n:Nat)(v:Value):Prop :=
 ∀φ L φ2 L2 u,(∀A,A<n→L2 A=L A∧φ2 A=φ A)→Val φ L v u→Val φ2 L2 v u
def CloH (H:Heap):Prop:=∀(A:Nat) (g:Blk) (v:Value),H[A]?=some (some g)→v∈g.cells→CloV H.length v

theorem cloV_of {φ0:Nat→Loc}{L0:Lens}{v u0:Value}(h:Val φ0 L0 v u0){n:Nat}(hn:∀A m,L0 A=some m→A<n):CloV n v:=by
 induction h with
 |ptr A o q m c hL hv h0 =>
  intro φ L φ2 L2 u e hu
  cases hu with
  |ptr _ _ _ m' c' hL' hv' h' =>
   obtain⟨e1,e2⟩:=e A (hn A m hL)
   exact .ptr A o q m' c' (e1.trans hL') hv' (fun x=>by rw[e2];exact h' x)
 |slc A o q m len fl cap c hL hv hc hm h0 =>
  intro φ L φ2 L2 u e hu
  cases hu with
  |slc _ _ _ m' _ _ cap' c' hL' hv' hc' hm' h' =>
   obtain⟨e1,e2⟩:=e A (hn A m hL)
   exact .slc A o q m' len fl cap' c' (e1.trans hL') hv' hc' hm' (fun x=>by rw[e2];exact h' x)
 |full A o q m len c hL hv hm h0 =>
  intro φ L φ2 L2 u e hu
  cases hu with
  |full _ _ _ m' _ c' hL' hv' hm' h' =>
   obtain⟨e1,e2⟩:=e A (hn A m hL)
   exact .full A o q m' len c' (e1.trans hL') hv' hm' (fun x=>by rw[e2];exact h' x)
 |map A m r hL h0 =>
  intro φ L φ2 L2 u e hu
  cases hu with
  |map _ m' r' hL' h' =>
   obtain⟨e1,e2⟩:=e A (hn A m hL)
   exact .map A m' r' (e1.trans hL') (by rw[e2];exact h')
 |func f a b c d h1 _ h3 _ ih1 ih2 =>
  intro φ L φ2 L2 u e hu
  cases hu with
  |func _ _ b' _ d' k1 k2 k3 k4 =>
   exact .func f a b' c d' k1 (fun i p q=>ih1 i p (by omega) φ L φ2 L2 _ e (k2 i p q)) k3 (fun i p q=>ih2 i p (by omega) φ L φ2 L2 _ e (k4 i p q))
 |iface t v v' _ ih =>
  intro φ L φ2 L2 u e hu
  cases hu with
  |iface _ _ w h=>exact .iface t v w (ih φ L φ2 L2 w e h)
 |agg a b h1 _ ih =>
  intro φ L φ2 L2 u e hu
  cases hu with
  |agg _ b' k1 k2=>exact .agg a b' k1 (fun i p q=>ih i p (by omega) φ L φ2 L2 _ e (k2 i p q))
 |tuple a b h1 _ ih =>
  intro φ L φ2 L2 u e hu
  cases hu with
  |tuple _ b' k1 k2=>exact .tuple a b' k1 (fun i p q=>ih i p (by omega) φ L φ2 L2 _ e (k2 i p q))
 |_ =>
  intro φ L φ2 L2 u e hu
  cases hu <;> constructor <;> assumption

theorem Rel.clo {B0:Nat}{w0:World}{φ:Nat→Loc}{w:World}(r:Rel B0 w0 φ H w):CloH H:=by
 intro A g v hA hv
 obtain⟨o,c,h1,h2,h3,h5⟩:=(r.blk A g hA).any
 obtain⟨i,hi,rfl⟩:=List.getElem_of_mem hv
 obtain⟨v',_,g2⟩:=h5 i g.cells[i] (by simp[hi])
 exact cloV_of g2 (fun A m h=>lens_some h)

end
attribute [irreducible] AWp AOps AOp Run

abbrev S (l:List UInt8):Value:=.string ⟨⟨l⟩⟩
abbrev I (n:Int):Value:=.int .i64 n
abbrev B (b:Bool):Value:=.bool b
def bat (l:List UInt8)(i:Int):Int:=((l.getD i.toNat 0).toNat:Int)
theorem bat_lo (l:List UInt8)(i:Int):0≤bat l i:=by unfold bat;omega
theorem bat_hi (l:List UInt8)(i:Int):bat l i<256:=by unfold bat;have:=(l.getD i.toNat 0).toNat_lt;omega

theorem str_eq (s:ByteArray):∃l,s=⟨⟨l⟩⟩:=⟨s.data.toList,by cases s;rfl⟩

section
variable {P:Program} {N:Fr} {ops:Array Oper} {Q:Post} {rest:List Oper} {o:Oper} {a:AF} {H:Heap}

theorem exec_binOp {ρ:Operand→Value}{op:BinOp}{T U:TypeId}{x y:Operand}{r:Value}{w:World}(ho:o.op=.binOp op T x y U)
  (hg:(eqGuard op T x y (ρ x) (ρ y)).run P w=.ok () w) (hr:(binOp op T (ρ x) (ρ y)).run P w=.ok r w):(execOp ρ o).run P w=.ok (.value r) w:=by
 unfold execOp
 simp only[ho,Sem.run_bind,hg,Result.andThen_ok,hr,Sem.run_pure]

theorem guard_int {op:BinOp}{T:TypeId}{x y:Operand}{k k':IntKind}{m n:Int}{w:World}:(eqGuard op T x y (.int k m) (.int k' n)).run P w=.ok () w:=by
 unfold eqGuard;cases op <;> simp
theorem guard_str {op:BinOp}{T:TypeId}{x y:Operand}{m n:ByteArray}{w:World}:(eqGuard op T x y (.string m) (.string n)).run P w=.ok () w:=by
 unfold eqGuard;cases op <;> simp
theorem guard_bool {op:BinOp}{T:TypeId}{x y:Operand}{m n:Bool}{w:World}:(eqGuard op T x y (.bool m) (.bool n)).run P w=.ok () w:=by
 unfold eqGuard;cases op <;> simp

theorem a_bin2 (op:BinOp)(T U:TypeId)(x y:Operand){u v r:Value}(ho:o.op=.binOp op T x y U)(hx:ev a x=some u)(hy:ev a y=some v)
  (hu:scalar u=true) (hv:scalar v=true) (hg:∀w,(eqGuard op T x y u v).run P w=.ok () w) (hr:∀w,(binOp op T u v).run P w=.ok r w) (hc:yJ r=true):APure P N o a H r:=by
 refine⟨fun _ _ φ w ac _ hf=>?_⟩
 have h1:=(zW hf hx).scalar hu
 have h2:=(zW hf hy).scalar hv
 exact⟨r,Val.const hc,fun w _=>exec_binOp ho (by rw[h1,h2];exact hg w) (by rw[h1,h2];exact hr w)⟩

section
variable (T U:TypeId) (x y:Operand) {k:IntKind} {m n r:Int}

theorem a_add (ho:o.op=.binOp .add T x y U)(hx:ev a x=some (.int k m))(hy:ev a y=some (.int k n))(hr:k.wrap (m+n)=r):APure P N o a H (.int k r) :=
 a_bin2 .add T U x y ho hx hy rfl rfl (fun _=>guard_int) (fun _=>by simp[binOp,Op.intArith,hr]) rfl

theorem a_sub (ho:o.op=.binOp .sub T x y U)(hx:ev a x=some (.int k m))(hy:ev a y=some (.int k n))(hr:k.wrap (m-n)=r):APure P N o a H (.int k r) :=
 a_bin2 .sub T U x y ho hx hy rfl rfl (fun _=>guard_int) (fun _=>by simp[binOp,Op.intArith,hr]) rfl

theorem a_mul (ho:o.op=.binOp .mul T x y U)(hx:ev a x=some (.int k m))(hy:ev a y=some (.int k n))(hr:k.wrap (m*n)=r):APure P N o a H (.int k r) :=
 a_bin2 .mul T U x y ho hx hy rfl rfl (fun _=>guard_int) (fun _=>by simp[binOp,Op.intArith,hr]) rfl

theorem a_quo (ho:o.op=.binOp .quo T x y U)(hx:ev a x=some (.int k m))(hy:ev a y=some (.int k n))(hn:n≠0)(hr:k.wrap (m.tdiv n)=r):APure P N o a H (.int k r) :=
 a_bin2 .quo T U x y ho hx hy rfl rfl (fun _=>guard_int) (fun _=>by simp[binOp,Op.intDiv,hn,hr]) rfl

theorem a_rem (ho:o.op=.binOp .rem T x y U)(hx:ev a x=some (.int k m))(hy:ev a y=some (.int k n))(hn:n≠0)(hr:m.tmod n=r):APure P N o a H (.int k r) :=
 a_bin2 .rem T U x y ho hx hy rfl rfl (fun _=>guard_int) (fun _=>by simp[binOp,Op.intDiv,hn,hr]) rfl

theorem a_and (ho:o.op=.binOp .and T x y U)(hx:ev a x=some (.int k m))(hy:ev a y=some (.int k n))(hr:k.wrap (BitVec.ofInt k.bits m&&&BitVec.ofInt k.bits n).toNat=r):APure P N o a H (.int k r) :=
 a_bin2 .and T U x y ho hx hy rfl rfl (fun _=>guard_int) (fun _=>by subst hr;simp[binOp,Op.intBits]) rfl

theorem a_or (ho:o.op=.binOp .or T x y U)(hx:ev a x=some (.int k m))(hy:ev a y=some (.int k n))(hr:k.wrap (BitVec.ofInt k.bits m ||| BitVec.ofInt k.bits n).toNat=r):APure P N o a H (.int k r) :=
 a_bin2 .or T U x y ho hx hy rfl rfl (fun _=>guard_int) (fun _=>by subst hr;simp[binOp,Op.intBits]) rfl

theorem a_xor (ho:o.op=.binOp .xor T x y U)(hx:ev a x=some (.int k m))(hy:ev a y=some (.int k n))(hr:k.wrap (BitVec.ofInt k.bits m^^^BitVec.ofInt k.bits n).toNat=r):APure P N o a H (.int k r) :=
 a_bin2 .xor T U x y ho hx hy rfl rfl (fun _=>guard_int) (fun _=>by subst hr;simp[binOp,Op.intBits]) rfl

theorem a_shl {k':IntKind}(ho:o.op=.binOp .shl T x y U)(hx:ev a x=some (.int k m))(hy:ev a y=some (.int k' n))(hn:0≤n)(hr:k.wrap (m*2^(min n.toNat k.bits))=r):APure P N o a H (.int k r) :=
 a_bin2 .shl T U x y ho hx hy rfl rfl (fun _=>guard_int) (fun _=>by subst hr;simp only[binOp,Op.shift];rw[if_neg (by omega)];rfl) rfl

theorem a_shr {k':IntKind}(ho:o.op=.binOp .shr T x y U)(hx:ev a x=some (.int k m))(hy:ev a y=some (.int k' n))(hn:0≤n)(hr:m.fdiv (2^(min n.toNat k.bits))=r):APure P N o a H (.int k r) :=
 a_bin2 .shr T U x y ho hx hy rfl rfl (fun _=>guard_int) (fun _=>by subst hr;simp only[binOp,Op.shift];rw[if_neg (by omega)];rfl) rfl

theorem a_lss (ho:o.op=.binOp .lss T x y U)(hx:ev a x=some (.int k m))(hy:ev a y=some (.int k n)):APure P N o a H (.bool (decide (m<n))) :=
 a_bin2 .lss T U x y ho hx hy rfl rfl (fun _=>guard_int) (fun _=>by simp[binOp,Op.intCmp]) rfl
theorem a_leq (ho:o.op=.binOp .leq T x y U)(hx:ev a x=some (.int k m))(hy:ev a y=some (.int k n)):APure P N o a H (.bool (decide (m≤n))) :=
 a_bin2 .leq T U x y ho hx hy rfl rfl (fun _=>guard_int) (fun _=>by simp[binOp,Op.intCmp]) rfl
theorem a_gtr (ho:o.op=.binOp .gtr T x y U)(hx:ev a x=some (.int k m))(hy:ev a y=some (.int k n)):APure P N o a H (.bool (decide (n<m))) :=
 a_bin2 .gtr T U x y ho hx hy rfl rfl (fun _=>guard_int) (fun _=>by simp[binOp,Op.intCmp]) rfl
theorem a_geq (ho:o.op=.binOp .geq T x y U)(hx:ev a x=some (.int k m))(hy:ev a y=some (.int k n)):APure P N o a H (.bool (decide (n≤m))) :=
 a_bin2 .geq T U x y ho hx hy rfl rfl (fun _=>guard_int) (fun _=>by simp[binOp,Op.intCmp]) rfl
theorem a_eql (ho:o.op=.binOp .eql T x y U)(hx:ev a x=some (.int k m))(hy:ev a y=some (.int k n)):APure P N o a H (.bool (decide (m=n))) :=
 a_bin2 .eql T U x y ho hx hy rfl rfl (fun _=>guard_int) (fun _=>by simp only[binOp,Op.intCmp,ne_eq,not_true_eq_false,if_false];rfl) rfl
theorem a_neq (ho:o.op=.binOp .neq T x y U)(hx:ev a x=some (.int k m))(hy:ev a y=some (.int k n)):APure P N o a H (.bool (decide (m≠n))) :=
 a_bin2 .neq T U x y ho hx hy rfl rfl (fun _=>guard_int) (fun _=>by
  simp only[binOp,Op.intCmp,ne_eq,not_true_eq_false,if_false,Sem.run_pure]
  rw[show(m != n)=decide (¬m=n)from by rw[Bool.eq_iff_iff];simp]) rfl
end

theorem toList_mk (l:List UInt8):(⟨⟨l⟩⟩:ByteArray).toList=l:=by rw[ByteArray.toList_eq]

section
variable (T U:TypeId) (x y:Operand) {l m:List UInt8}
theorem a_sadd (ho:o.op=.binOp .add T x y U)(hx:ev a x=some (S l))(hy:ev a y=some (S m))(hl:l.length+m.length≤9223372036854775807):APure P N o a H (S (l++m)) :=
 a_bin2 .add T U x y ho hx hy rfl rfl (fun _=>guard_str) (fun _=>by
  simp only[binOp,Op.stringOp]
  rw[if_neg (by
   have:IntKind.i64.max=9223372036854775807:=by decide
   rw[this]
   show ¬(((l.length+m.length:Nat):Int) > _)
   omega)]
  simp only[Sem.run_pure]
  congr 2) rfl
theorem a_seql (ho:o.op=.binOp .eql T x y U)(hx:ev a x=some (S l))(hy:ev a y=some (S m)):APure P N o a H (.bool (decide (l=m))) :=
 a_bin2 .eql T U x y ho hx hy rfl rfl (fun _=>guard_str) (fun _=>by
  simp only[binOp,Op.stringOp,toList_mk,Sem.run_pure]
  rw[show(l == m)=decide (l=m)from by rw[Bool.eq_iff_iff];simp]) rfl
theorem a_sneq (ho:o.op=.binOp .neq T x y U)(hx:ev a x=some (S l))(hy:ev a y=some (S m)):APure P N o a H (.bool (decide (l≠m))) :=
 a_bin2 .neq T U x y ho hx hy rfl rfl (fun _=>guard_str) (fun _=>by
  simp only[binOp,Op.stringOp,toList_mk,Sem.run_pure]
  rw[show(!(l == m))=decide (l≠m)from by rw[Bool.eq_iff_iff];simp]) rfl
theorem a_slss (ho:o.op=.binOp .lss T x y U)(hx:ev a x=some (S l))(hy:ev a y=some (S m)):APure P N o a H (.bool (Op.bytesLess l m)) :=
 a_bin2 .lss T U x y ho hx hy rfl rfl (fun _=>guard_str) (fun _=>by simp only[binOp,Op.stringOp,toList_mk,Sem.run_pure]) rfl
theorem a_sgtr (ho:o.op=.binOp .gtr T x y U)(hx:ev a x=some (S l))(hy:ev a y=some (S m)):APure P N o a H (.bool (!(Op.bytesLess l m || (l == m)))) :=
 a_bin2 .gtr T U x y ho hx hy rfl rfl (fun _=>guard_str) (fun _=>by simp only[binOp,Op.stringOp,toList_mk,Sem.run_pure]) rfl
end

theorem run_equal_bool {T:TypeId}{m n:Bool}{w:World}(hT:P.underlying T=some .bool):(Op.equal T (.bool m) (.bool n)).run P w=.ok (m == n) w:=by
 show(Op.equalIn (9999+1) _ _ _).run P w=_
 rw[Op.equalIn]
 simp only[Sem.run_bind,run_underlying hT,Result.andThen_ok,Sem.run_pure]
theorem run_equal_ptr {T E:TypeId}{m n:Option Addr}{w:World}(hT:P.underlying T=some (.pointer E))(h:n=none):(Op.equal T (.pointer m) (.pointer n)).run P w=.ok m.isNone w:=by
 subst h
 show(Op.equalIn (9999+1) _ _ _).run P w=_
 rw[Op.equalIn]
 simp only[Sem.run_bind,run_underlying hT,Result.andThen_ok]
 cases m <;> rfl
theorem beql (a b:Bool):(a == b)=decide (a=b):=by cases a <;> cases b <;> rfl
theorem bneq (a b:Bool):(!(a == b))=decide (a≠b):=by cases a <;> cases b <;> rfl
theorem a_beql (T U:TypeId)(x y:Operand){m n:Bool}(ho:o.op=.binOp .eql T x y U)(hx:ev a x=some (.bool m))(hy:ev a y=some (.bool n))
  (hT:P.underlying T=some .bool):APure P N o a H (.bool (decide (m=n))) :=
 a_bin2 .eql T U x y ho hx hy rfl rfl (fun _=>guard_bool) (fun _=>by
  simp only[binOp,Sem.run_bind,run_equal_bool hT,Result.andThen_ok,Sem.run_pure,beql]) rfl
theorem a_bneq (T U:TypeId)(x y:Operand){m n:Bool}(ho:o.op=.binOp .neq T x y U)(hx:ev a x=some (.bool m))(hy:ev a y=some (.bool n))
  (hT:P.underlying T=some .bool):APure P N o a H (.bool (decide (m≠n))) :=
 a_bin2 .neq T U x y ho hx hy rfl rfl (fun _=>guard_bool) (fun _=>by
  simp only[binOp,Sem.run_bind,run_equal_bool hT,Result.andThen_ok,Sem.run_pure,bneq]) rfl

theorem a_pnil (T U:TypeId)(x y:Operand){E:TypeId}{ad:Option Addr}(ho:o.op=.binOp .eql T x y U)(hx:ev a x=some (.pointer ad))(hy:ev a y=some (.pointer none))
  (hT:P.underlying T=some (.pointer E)):APure P N o a H (.bool ad.isNone):=by
 refine⟨fun _ _ φ w ac _ hf=>?_⟩
 have h1:=zW hf hx
 have h2:=zW hf hy
 generalize hu:ac.eval x=u at h1
 generalize hv:ac.eval y=v at h2
 cases h2
 refine⟨.bool ad.isNone,.bool _,fun w _=>exec_binOp ho ?_ ?_⟩
 ·rw[hu,hv];cases h1 <;> (unfold eqGuard;simp)
 ·rw[hu,hv];cases h1 <;> simp only[binOp,Sem.run_bind,run_equal_ptr hT rfl,Result.andThen_ok,Sem.run_pure] <;> rfl
theorem a_pnotnil (T U:TypeId)(x y:Operand){E:TypeId}{ad:Option Addr}(ho:o.op=.binOp .neq T x y U)(hx:ev a x=some (.pointer ad))(hy:ev a y=some (.pointer none))
  (hT:P.underlying T=some (.pointer E)):APure P N o a H (.bool ad.isSome):=by
 refine⟨fun _ _ φ w ac _ hf=>?_⟩
 have h1:=zW hf hx
 have h2:=zW hf hy
 generalize hu:ac.eval x=u at h1
 generalize hv:ac.eval y=v at h2
 cases h2
 refine⟨.bool ad.isSome,.bool _,fun w _=>exec_binOp ho ?_ ?_⟩
 ·rw[hu,hv];cases h1 <;> (unfold eqGuard;simp)
 ·rw[hu,hv];cases h1 <;> simp only[binOp,Sem.run_bind,run_equal_ptr hT rfl,Result.andThen_ok,Sem.run_pure] <;> rfl

theorem a_not (T:TypeId)(x:Operand){b:Bool}(ho:o.op=.unOp .not T x)(hx:ev a x=some (.bool b)):APure P N o a H (.bool (!b)):=by
 refine⟨fun _ _ φ w ac _ hf=>?_⟩
 have h1:=(zW hf hx).scalar rfl
 exact⟨_,.bool _,fun w _=>by unfold execOp;simp only[ho,h1,Op.unary,Sem.run_bind,Sem.run_pure,Result.andThen_ok]⟩

theorem a_neg (T:TypeId)(x:Operand){k:IntKind}{n r:Int}(ho:o.op=.unOp .neg T x)(hx:ev a x=some (.int k n))(hr:k.wrap (0-n)=r):APure P N o a H (.int k r):=by
 refine⟨fun _ _ φ w ac _ hf=>?_⟩
 have h1:=(zW hf hx).scalar rfl
 exact⟨_,.int _ _,fun w _=>by unfold execOp;simp only[ho,h1,Op.unary,Op.intArith,Sem.run_bind,Sem.run_pure,Result.andThen_ok,hr]⟩

theorem a_pick_true (c x y:Operand){b:Bool}{v:Value}(ho:o.op=.pick c x y)(hc:ev a c=some (.bool b))(hb:b=true)(hx:ev a x=some v):APure P N o a H v:=by
 refine⟨fun _ _ φ w ac _ hf=>?_⟩
 have h1:=(zW hf hc).scalar rfl
 subst hb
 exact⟨_,zW hf hx,fun w _=>by unfold execOp;simp only[ho,h1,asBool,Sem.run_bind,Sem.run_pure,Result.andThen_ok,if_true]⟩
theorem a_pick_false (c x y:Operand){b:Bool}{v:Value}(ho:o.op=.pick c x y)(hc:ev a c=some (.bool b))(hb:b=false)(hy:ev a y=some v):APure P N o a H v:=by
 refine⟨fun _ _ φ w ac _ hf=>?_⟩
 have h1:=(zW hf hc).scalar rfl
 subst hb
 exact⟨_,zW hf hy,fun w _=>by unfold execOp;simp[ho,h1,asBool]⟩

theorem a_conv (T U:TypeId)(x:Operand){j k:IntKind}{n r:Int}{d:TypeDesc}(ho:o.op=.convert T U x)(hx:ev a x=some (.int j n))
  (hT:P.underlying T=some d) (hU:P.underlying U=some (.int k)) (hr:k.wrap n=r):APure P N o a H (.int k r):=by
 refine⟨fun _ _ φ w ac _ hf=>?_⟩
 have h1:=(zW hf hx).scalar rfl
 exact⟨_,.int _ _,fun w _=>by unfold execOp;simp[ho,h1,convert,run_underlying hT,run_underlying hU,Conv.intToInt,hr]⟩

theorem a_sidx (T:TypeId)(x y:Operand){l:List UInt8}{k:IntKind}{i:Int}(ho:o.op=.index T x y)(hx:ev a x=some (S l))(hy:ev a y=some (.int k i))
  (hT:P.underlying T=some .string) (hi:0≤i∧i<l.length):APure P N o a H (.int .u8 (bat l i)):=by
 refine⟨fun _ _ φ w ac _ hf=>?_⟩
 have h1:=(zW hf hx).scalar rfl
 have h2:=(zW hf hy).scalar rfl
 have h3:(⟨⟨l⟩⟩:ByteArray)[i.toNat]?=some (l.getD i.toNat 0):=by
  have hlt:i.toNat<l.length:=by omega
  have hs:i.toNat<(⟨⟨l⟩⟩:ByteArray).size:=hlt
  rw[getElem?_pos (⟨⟨l⟩⟩:ByteArray) i.toNat hs]
  congr 1
  show(⟨l⟩:Array UInt8)[i.toNat]=_
  simp[hlt]
 refine⟨_,.int _ _,fun w _=>?_⟩
 unfold execOp
 simp only[ho,h1,h2,Instr.index,asIntOf,Sem.run_bind,Sem.run_pure,Result.andThen_ok,run_underlying hT,if_pos hi.1,h3]
 rfl

theorem a_slen (T:TypeId)(x:Operand){l:List UInt8}(ho:o.op=.call { callee:=.builtin .len,args:=#[x],argTypes:=#[T] })(hx:ev a x=some (S l))
  (hT:P.underlying T=some .string):APure P N o a H (I l.length):=by
 refine⟨fun _ _ φ w ac _ hf=>?_⟩
 have h1:=(zW hf hx).scalar rfl
 refine⟨_,.int _ _,fun w _=>?_⟩
 unfold execOp
 simp[ho,resolve,invoke,builtin,h1,Builtin.len_,run_underlying hT,goInt]
 rfl

theorem a_len (T:TypeId)(x:Operand){E:TypeId}{ad:Option Addr}{n fl:Nat}(ho:o.op=.call { callee:=.builtin .len,args:=#[x],argTypes:=#[T] })(hx:ev a x=some (.slice ad n fl))
  (hT:P.underlying T=some (.slice E)):APure P N o a H (I n):=by
 refine⟨fun _ _ φ w ac _ hf=>?_⟩
 have h1:=zW hf hx
 generalize hu:ac.eval x=u at h1
 refine⟨_,.int _ _,fun w _=>?_⟩
 unfold execOp
 cases h1 <;> simp[ho,resolve,invoke,builtin,hu,Builtin.len_,run_underlying hT,goInt]

theorem a_min (T U:TypeId)(x y:Operand){k:IntKind}{m n:Int}(ho:o.op=.call { callee:=.builtin .min,args:=#[x,y],argTypes:=#[T,U] })(hx:ev a x=some (.int k m))(hy:ev a y=some (.int k n)):APure P N o a H (.int k (min m n)):=by
 refine⟨fun _ _ φ w ac _ hf=>?_⟩
 have h1:=(zW hf hx).scalar rfl
 have h2:=(zW hf hy).scalar rfl
 refine⟨_,.int _ _,fun w _=>?_⟩
 unfold execOp
 simp only[ho,resolve,invoke,builtin,List.map_toArray,List.map_cons,List.map_nil,h1,h2,Builtin.min_,List.foldlM_cons,List.foldlM_nil,Builtin.min2,Sem.run_bind,Sem.run_pure,Result.andThen_ok]
 rw[show(if n<m then n else m)=min m n from by omega]

theorem a_max (T U:TypeId)(x y:Operand){k:IntKind}{m n:Int}(ho:o.op=.call { callee:=.builtin .max,args:=#[x,y],argTypes:=#[T,U] })(hx:ev a x=some (.int k m))(hy:ev a y=some (.int k n)):APure P N o a H (.int k (max m n)):=by
 refine⟨fun _ _ φ w ac _ hf=>?_⟩
 have h1:=(zW hf hx).scalar rfl
 have h2:=(zW hf hy).scalar rfl
 refine⟨_,.int _ _,fun w _=>?_⟩
 unfold execOp
 simp only[ho,resolve,invoke,builtin,List.map_toArray,List.map_cons,List.map_nil,h1,h2,Builtin.max_,List.foldlM_cons,List.foldlM_nil,Builtin.max2,Sem.run_bind,Sem.run_pure,Result.andThen_ok]
 rw[show(if n > m then n else m)=max m n from by omega]

theorem ext_mk (l:List UInt8)(i j:Nat):(⟨⟨l⟩⟩:ByteArray).extract i j=⟨⟨(l.take j).drop i⟩⟩:=by
 apply ByteArray.ext
 rw[ByteArray.data_extract]
 apply Array.ext'
 simp[List.drop_take]

theorem a_sslice (T:TypeId)(x lo hi:Operand){l:List UInt8}{j k:IntKind}{i n:Int}(ho:o.op=.slice T x (some lo) (some hi) none)(hx:ev a x=some (S l))(hlo:ev a lo=some (.int j i))(hhi:ev a hi=some (.int k n))
  (hT:P.underlying T=some .string) (h1:0≤i∧i≤n∧n≤l.length):APure P N o a H (S ((l.take n.toNat).drop i.toNat)):=by
 refine⟨fun _ _ φ w ac _ hf=>?_⟩
 have e1:=(zW hf hx).scalar rfl
 have e2:=(zW hf hlo).scalar rfl
 have e3:=(zW hf hhi).scalar rfl
 have hs:(⟨⟨l⟩⟩:ByteArray).size=l.length:=rfl
 refine⟨_,.str _,fun w _=>?_⟩
 unfold execOp
 simp only[ho,Instr.sliceAt,Instr.slice,e1,e2,e3,Option.map_some,Option.map_none,Sem.run_bind,run_underlying hT,Result.andThen_ok,Option.isSome_none,Bool.false_eq_true,if_false,Instr.sliceBounds,Instr.sliceBound,asIntOf,Sem.run_pure,hs,
  Sem.run_ite,if_pos (show 0≤n∧n≤l.length from⟨by omega,h1.2.2⟩),if_pos (show 0≤i∧i≤(n.toNat:Int)from⟨h1.1,by omega⟩),ext_mk]

theorem a_sfrom (T:TypeId)(x lo:Operand){l:List UInt8}{j:IntKind}{i:Int}(ho:o.op=.slice T x (some lo) none none)(hx:ev a x=some (S l))(hlo:ev a lo=some (.int j i))
  (hT:P.underlying T=some .string) (h1:0≤i∧i≤l.length):APure P N o a H (S (l.drop i.toNat)):=by
 refine⟨fun _ _ φ w ac _ hf=>?_⟩
 have e1:=(zW hf hx).scalar rfl
 have e2:=(zW hf hlo).scalar rfl
 have hs:(⟨⟨l⟩⟩:ByteArray).size=l.length:=rfl
 refine⟨_,.str _,fun w _=>?_⟩
 unfold execOp
 simp only[ho,Instr.sliceAt,Instr.slice,e1,e2,Option.map_some,Option.map_none,Sem.run_bind,run_underlying hT,Result.andThen_ok,Option.isSome_none,Bool.false_eq_true,if_false,Instr.sliceBounds,Instr.sliceBound,asIntOf,Sem.run_pure,hs,
  Sem.run_ite,if_pos h1,ext_mk,List.take_length]

theorem a_sto (T:TypeId)(x hi:Operand){l:List UInt8}{k:IntKind}{n:Int}(ho:o.op=.slice T x none (some hi) none)(hx:ev a x=some (S l))(hhi:ev a hi=some (.int k n))
  (hT:P.underlying T=some .string) (h1:0≤n∧n≤l.length):APure P N o a H (S (l.take n.toNat)):=by
 refine⟨fun _ _ φ w ac _ hf=>?_⟩
 have e1:=(zW hf hx).scalar rfl
 have e3:=(zW hf hhi).scalar rfl
 have hs:(⟨⟨l⟩⟩:ByteArray).size=l.length:=rfl
 refine⟨_,.str _,fun w _=>?_⟩
 unfold execOp
 simp only[ho,Instr.sliceAt,Instr.slice,e1,e3,Option.map_some,Option.map_none,Sem.run_bind,run_underlying hT,Result.andThen_ok,Option.isSome_none,Bool.false_eq_true,if_false,Instr.sliceBounds,Instr.sliceBound,asIntOf,Sem.run_pure,hs,
  Sem.run_ite,if_pos h1,ext_mk,List.drop_zero]

theorem a_extract (x:Operand)(i:Nat){vs:Array Value}{v:Value}(ho:o.op=.extract x i)(hx:ev a x=some (.tuple vs))(hv:vs[i]?=some v):APure P N o a H v:=by
 refine⟨fun _ _ φ w ac _ hf=>?_⟩
 have h1:=zW hf hx
 generalize hu:ac.eval x=u at h1
 cases h1 with
 |tuple _ us e1 e2 =>
  obtain⟨u',g1,g2⟩:=(VRel.of_arrays e1 e2).get i v (by simpa using hv)
  refine⟨u',g2,fun w _=>?_⟩
  unfold execOp
  simp only[ho,hu,Instr.extract,g1,Sem.run_bind,Sem.run_pure,Result.andThen_ok]

theorem a_makeFunc (fn:Fn)(xs ys:List Operand){us vs:List Value}(ho:o.op=.makeFunc fn xs.toArray ys.toArray)(hx:evs a xs=some us)(hy:evs a ys=some vs):APure P N o a H (.func fn us.toArray vs.toArray):=by
 refine⟨fun _ _ φ w ac _ hf=>?_⟩
 have h1:=evs_rel hf hx
 have h2:=evs_rel hf hy
 refine⟨.func fn (xs.map ac.eval).toArray (ys.map ac.eval).toArray,?_,fun w _=>?_⟩
 ·refine .func _ _ _ _ _ ?_ ?_ ?_ ?_
  ·simpa using h1.size.symm
  ·intro i h h'
   obtain⟨v',g1,g2⟩:=h1.get i us.toArray[i] (by simp)
   have:v'=(xs.map ac.eval).toArray[i]:=by rw[Array.getElem?_eq_getElem h']at g1;exact(Option.some.inj g1).symm
   rw[←this];exact g2
  ·simpa using h2.size.symm
  ·intro i h h'
   obtain⟨v',g1,g2⟩:=h2.get i vs.toArray[i] (by simp)
   have:v'=(ys.map ac.eval).toArray[i]:=by rw[Array.getElem?_eq_getElem h']at g1;exact(Option.some.inj g1).symm
   rw[←this];exact g2
 ·unfold execOp
  simp only[ho,Instr.makeFunc,Sem.run_bind,Sem.run_pure,Result.andThen_ok,List.map_toArray]

theorem a_nilCheck (x:Operand){ad:Addr}(ho:o.op=.nilCheck x)(hx:ev a x=some (.pointer (some ad))):APure P N o a H (.pointer (some ad)):=by
 refine⟨fun _ _ φ w ac _ hf=>?_⟩
 have h1:=zW hf hx
 refine⟨ac.eval x,h1,?_⟩
 generalize hu:ac.eval x=u at h1
 unfold execOp
 cases h1
 simp[ho,hu]

theorem a_nilCheckF (x:Operand){f:FuncId}{us vs:Array Value}(ho:o.op=.nilCheck x)(hx:ev a x=some (.func (.func f) us vs)):APure P N o a H (.func (.func f) us vs):=by
 refine⟨fun _ _ φ w ac _ hf=>?_⟩
 have h1:=zW hf hx
 refine⟨ac.eval x,h1,?_⟩
 generalize hu:ac.eval x=u at h1
 unfold execOp
 cases h1
 simp[ho,hu]

theorem a_makeIface (T:TypeId)(x:Operand){v:Value}{d:TypeDesc}(ho:o.op=.makeInterface T x)(hx:ev a x=some v)(hT:P.underlying T=some d)(hd:(match d with|.interface _=>false|_=>true)=true):APure P N o a H (.iface T v):=by
 refine⟨fun _ _ φ w ac _ hf=>?_⟩
 refine⟨.iface T (ac.eval x),.iface _ _ _ (zW hf hx),fun w _=>?_⟩
 unfold execOp
 cases d <;> first|(simp at hd;done)|simp[ho,Instr.makeInterface,run_underlying hT]

end

abbrev gptr (A o n:Nat):Value:=.pointer (some ⟨A,o,some n⟩)
abbrev gsl (A o n len fl:Nat):Value:=.slice (some ⟨A,o,some n⟩) len fl
abbrev sempty :Value:=.slice (some ⟨0,0,none⟩) 0 0

def writesA (c:Array Value)(o:Nat):List Value→Array Value
 |[]=>c
 |v::r=>writesA (c.setIfInBounds o v) (o+1) r

theorem size_writesA :∀(vs:List Value) (c:Array Value) (o:Nat),(writesA c o vs).size=c.size
 |[],_,_=>rfl
 |v::r,c,o=>by rw[writesA,size_writesA r];simp

theorem get_writesA :∀(vs:List Value) (c:Array Value) (o i:Nat),o+vs.length≤c.size →
  (writesA c o vs)[i]?=if o≤i∧i<o+vs.length then vs[i-o]? else c[i]?
 |[],c,o,i,_=>by
  rw[writesA,if_neg (by simp only[List.length_nil];omega)]
 |v::r,c,o,i,h=>by
  simp only[List.length_cons]at h
  rw[writesA,get_writesA r _ _ _ (by simp;omega)]
  simp only[List.length_cons]
  by_cases h1:i=o
  ·subst h1
   rw[if_neg (by omega),if_pos (by omega),Nat.sub_self,List.getElem?_cons_zero]
   rw[Array.getElem?_setIfInBounds_self_of_lt (by omega)]
  ·by_cases h2:o+1≤i∧i<o+1+r.length
   ·rw[if_pos h2,if_pos (by omega),show i-o=(i-(o+1))+1 from by omega,List.getElem?_cons_succ]
   ·rw[if_neg h2,if_neg (by omega),Array.getElem?_setIfInBounds_ne (by omega)]

structure Wrote (w w':World)(b:Nat)(c:Array Value)(T:TypeId)(fz:Nat × Nat):Prop where
 os:w'.os=w.os
 tape:w'.tape=w.tape
 output:w'.output=w.output
 size:w'.heap.size=w.heap.size
 block:w'.heap[b]?=some (.cells c T fz)
 oth:∀k,k≠b→w'.heap[k]?=w.heap[k]?

theorem wrote_setCell {w:World}{b o:Nat}{v:Value}{c:Array Value}{T:TypeId}{fz:Nat × Nat}(h:w.heap[b]?=some (.cells c T fz)) :
  Wrote w (w.setCell ⟨b,o,none⟩ v) b (c.setIfInBounds o v) T fz:=by
 refine⟨rfl,rfl,rfl,by simp[World.setCell],?_,fun k hk=>?_⟩
 ·simp only[World.setCell]
  rw[Array.getElem?_modify,if_pos rfl,h]
  simp
 ·simp only[World.setCell]
  rw[Array.getElem?_modify,if_neg (by omega)]

theorem wrote_setCells :∀(vs:List Value) (w:World) (b o:Nat) (c:Array Value) (T:TypeId) (fz:Nat × Nat),w.heap[b]?=some (.cells c T fz) →
  Wrote w (w.setCells b o vs) b (writesA c o vs) T fz
 |[],w,b,o,c,T,fz,h=>⟨rfl,rfl,rfl,rfl,h,fun _ _=>rfl⟩
 |v::r,w,b,o,c,T,fz,h=>by
  have h1:=wrote_setCell (o:=o) (v:=v) h
  have h2:=wrote_setCells r _ b (o+1) _ T fz h1.block
  exact⟨h2.os.trans h1.os,h2.tape.trans h1.tape,h2.output.trans h1.output,h2.size.trans h1.size,h2.block,fun k hk=>(h2.oth k hk).trans (h1.oth k hk)⟩

theorem cell_of {w:World}{b:Nat}{c:Array Value}{T:TypeId}{fz:Nat × Nat}(h:w.heap[b]?=some (.cells c T fz))(i:Nat):w.cell? ⟨b,i,none⟩=c[i]?:=by
 simp[World.cell?,h]
theorem frozen_of {w:World}{b:Nat}{c:Array Value}{T:TypeId}{fz:Nat × Nat}(h:w.heap[b]?=some (.cells c T fz))(i:Nat):w.frozen? ⟨b,i,none⟩=(fz.1≤i && i<fz.2):=by
 simp[World.frozen?,h]

theorem addr_add (b o n:Nat):(⟨b,o,none⟩:Addr).add n=⟨b,o+n,none⟩:=by
 unfold Addr.add;split <;> simp_all

theorem run_storeCells_in {P:Program}{w:World}{b:Nat}{c:Array Value}{T:TypeId}{fz:Nat × Nat}{o:Nat}{vs:List Value}(h:w.heap[b]?=some (.cells c T fz))
  (hfit:o+vs.length≤c.size) (hfz:∀i,i<c.size→¬(fz.1≤i∧i<fz.2)) (h1:∀v∈vs,v.oneCell'=true) :
  (storeCells ⟨b,o,none⟩ vs).run P w=.ok () (w.setCells b o vs):=by
 have:=run_storeCells_cells (P:=P) b o vs 0 w (fun j hj=>by rw[cell_of h];simp;omega) (fun j hj=>by
  rw[frozen_of h]
  have:=hfz (o+0+j) (by omega)
  simp only[Bool.and_eq_false_iff,decide_eq_false_iff_not]
  omega) h1
 simpa using this

def one (v:Value):Bool:=match v with
 |.agg _|.tuple _=>false
 |_=>true
theorem one_rel {φ:Nat→Loc}{L:Lens}{v v':Value}(h:Val φ L v v')(ho:one v=true):v'.oneCell'=true∧v'.cells=#[v']∧v.cells=#[v]:=by
 cases h <;> first|(simp[one]at ho;done)|exact⟨rfl,rfl,rfl⟩

def aggT (P:Program)(T:TypeId):Option Bool:=match P.underlying T with
 |some (.struct _)|some (.array _ _)=>some true
 |some _=>some false
 |none=>none

theorem run_isAgg {P:Program}{T:TypeId}{b:Bool}(h:aggT P T=some b)(w:World):(isAgg T).run P w=.ok b w:=by
 unfold aggT at h
 cases hu:P.underlying T with
 |none=>rw[hu]at h;cases h
 |some d =>
  rw[hu]at h
  unfold isAgg
  simp only[Sem.run_bind,run_underlying hu,Result.andThen_ok]
  cases d <;> (simp at h;subst h;rfl)

def tinf (P:Program)(T:TypeId):Option (Option Value × Nat × Nat):=(P.info? T).map fun i=>(i.zero,i.size,i.bytes)

theorem tinf_some {P:Program}{T:TypeId}{z:Option Value}{s b:Nat}(h:tinf P T=some (z,s,b)):∃i,P.info? T=some i∧i.zero=z∧i.size=s∧i.bytes=b:=by
 unfold tinf at h
 cases hi:P.info? T with
 |none=>rw[hi]at h;cases h
 |some i =>
  rw[hi]at h
  simp only[Option.map_some,Option.some.injEq,Prod.mk.injEq]at h
  exact⟨i,rfl,h.1,h.2.1,h.2.2⟩

theorem run_sizeOf {P:Program}{T:TypeId}{z:Option Value}{s b:Nat}(h:tinf P T=some (z,s,b))(w:World):(sizeOf T).run P w=.ok s w:=by
 obtain⟨i,hi,_,h2,_⟩:=tinf_some h
 simp[sizeOf,typeInfo,hi,h2]
theorem run_zeroValue {P:Program}{T:TypeId}{z:Value}{s b:Nat}(h:tinf P T=some (some z,s,b))(w:World):(zeroValue T).run P w=.ok z w:=by
 obtain⟨i,hi,h1,_,_⟩:=tinf_some h
 simp[zeroValue,typeInfo,hi,h1]

section
variable {P:Program} {N:Fr} {ops:Array Oper} {Q:Post} {rest:List Oper} {o:Oper} {a:AF} {H:Heap}

theorem ptr_cells {B0:Nat}{w0:World}{φ:Nat→Loc}{w:World}(_r:Rel B0 w0 φ H w){A off n:Nat}{g:Blk}(hA:H[A]?=some (some g))(hn:g.cells.length=n)
  {u:Value} (hu:Val φ (lens H) (gptr A off n) u) :
  u=.pointer (some ⟨(φ A).b,(φ A).base+off,none⟩)∧(φ A).mp=false:=by
 cases hu with
 |ptr _ _ _ m c hL hv h =>
  rw[lens_of hA]at hL
  simp only[Option.some.injEq]at hL
  obtain⟨h1,h2⟩:=h (by omega)
  exact⟨by rw[h1],h2⟩

theorem cells_rel {B0:Nat}{w0:World}{φ:Nat→Loc}{w:World}(r:Rel B0 w0 φ H w){A:Nat}{g:Blk}(hA:H[A]?=some (some g))(hmp:(φ A).mp=false)(off:Nat){vs:List Value}
  (hc:∀(i:Nat) v,vs[i]?=some v→g.cells[off+i]?=some v) :
  ∃us:List Value,VRel φ (lens H) vs us.toArray∧∀j u,us[j]?=some u→w.cell? ((⟨(φ A).b,(φ A).base+off,none⟩:Addr).add j)=some u:=by
 obtain⟨c,T,fz,h1,h2,h3,h4,h5⟩:=(r.blk A g hA).ex hmp
 induction vs generalizing off with
 |nil=>exact⟨[],⟨rfl,fun i v h=>by simp at h⟩,fun j u h=>by simp at h⟩
 |cons v vs ih =>
  obtain⟨us,g1,g2⟩:=ih (off+1) (fun i x hx=>by rw[show off+1+i=off+(i+1)from by omega];exact hc (i+1) x (by simpa using hx))
  obtain⟨v',g3,g4⟩:=h5 off v (by have:=hc 0 v (by simp);simpa using this)
  refine⟨v'::us,⟨by have:=g1.size;simp at this ⊢;exact this,fun i x hx=>?_⟩,fun j u hu=>?_⟩
  ·cases i with
   |zero=>simp only[List.getElem?_cons_zero,Option.some.injEq]at hx;subst hx;exact⟨v',by simp,g4⟩
   |succ i =>
    obtain⟨x',k1,k2⟩:=g1.get i x (by simpa using hx)
    exact⟨x',by simpa using k1,k2⟩
  ·rw[addr_add,cell_of h1]
   cases j with
   |zero=>simp only[List.getElem?_cons_zero,Option.some.injEq]at hu;subst hu;simpa using g3
   |succ j =>
    have:=g2 j u (by simpa using hu)
    rw[addr_add,cell_of h1]at this
    rw[show(φ A).base+off+(j+1)=(φ A).base+(off+1)+j from by omega]
    exact this

theorem cells_later {B0:Nat}{w0:World}{φ:Nat→Loc}{w w1:World}(r:Rel B0 w0 φ H w){A:Nat}{g:Blk}(hA:H[A]?=some (some g))(off:Nat){us:List Value}(hb:Below w.heap.size w w1)
  (h:∀(j:Nat) u,us[j]?=some u→w.cell? ((⟨(φ A).b,off,none⟩:Addr).add j)=some u):∀(j:Nat) u,us[j]?=some u→w1.cell? ((⟨(φ A).b,off,none⟩:Addr).add j)=some u:=by
 intro j u hu
 have:=h j u hu
 rw[addr_add]at this ⊢
 rw[hb.cell (p:=⟨(φ A).b,off+j,none⟩) (r.lt hA)]
 exact this

theorem e_alloc (T:TypeId){z:Value}{s b:Nat}(ho:o.op=.alloc T)(hI:tinf P T=some (some z,s,b))(hz:yJ z=true)
  {A0:Nat} {H':Heap} (hpl:Place H A0 H' ⟨z.cells.toList,false⟩):AEff P N o a H (gptr A0 0 z.cells.size) H':=by
 refine eff_value (fun B0 w0 φ w ac r hf=>?_)
 have hv:VRel φ (lens H) z.cells.toList z.cells:=by
  refine⟨by simp,fun i v hi=>⟨v,by simpa using hi,?_⟩⟩
  have hzr:Val φ (lens H) z z:=Val.const hz
  have key:∀cs:Array Value,(∀i (h:i<cs.size) (h':i<cs.size),Val φ (lens H) cs[i] cs[i])→cs.toList[i]?=some v→Val φ (lens H) v v:=by
   intro cs h hi
   have hlt:i<cs.size:=by have:=(List.getElem?_eq_some_iff.1 hi).1;simpa using this
   have:v=cs[i]:=by have:=(List.getElem?_eq_some_iff.1 hi).2;simpa using this.symm
   rw[this];exact h i hlt hlt
  by_cases hone:one z=true
  ·rw[(one_rel hzr hone).2.2]at hi
   cases i with
   |zero=>simp at hi;subst hi;exact hzr
   |succ i=>simp at hi
  ·cases hzr with
   |agg _ _ h1 h2=>exact key _ h2 hi
   |tuple =>
    simp only[Value.cells]at hi
    cases i with
    |zero=>simp at hi;subst hi;exact Val.const hz
    |succ i=>simp at hi
   |_=>exact absurd rfl hone
 obtain⟨h1,h2⟩:=rel_new (w':={ w with heap:=w.heap.push (.cells z.cells T) }) r (ro:=false) (fz:=(0,0)) hpl hv rfl rfl rfl rfl (Nat.le_refl _) (fun _ _=>rfl) (fun i _ h=>by simp at h)
 refine⟨_,.pointer (some ⟨w.heap.size,0,none⟩),_,h1,h2,?_,?_⟩
 ·refine .ptr _ _ _ z.cells.size _ ?_ (Nat.le_refl _) (fun _=>by rw[yK];exact⟨rfl,rfl⟩)
  rw[hpl.lens];simp
 ·unfold execOp
  simp only[ho,Instr.alloc,Sem.run_bind,run_zeroValue hI,Result.andThen_ok,newVar,newRow,run_newObj,Sem.run_pure]

theorem e_box (T:TypeId)(x:Operand){v:Value}(ho:o.op=.box T x)(hx:ev a x=some v)
  {A0:Nat} {H':Heap} (hpl:Place H A0 H' ⟨v.cells.toList,false⟩):AEff P N o a H (gptr A0 0 v.cells.size) H':=by
 refine eff_value (fun B0 w0 φ w ac r hf=>?_)
 have hvr:=zW hf hx
 generalize hu:ac.eval x=u at hvr
 have hv:VRel φ (lens H) v.cells.toList u.cells:=by
  by_cases hone:one v=true
  ·obtain⟨_,e1,e2⟩:=one_rel hvr hone
   rw[e1,e2]
   refine⟨rfl,fun i x hi=>?_⟩
   cases i with
   |zero=>simp at hi;subst hi;exact⟨u,rfl,hvr⟩
   |succ i=>simp at hi
  ·cases hvr with
   |agg _ _ h1 h2=>exact VRel.of_arrays h1 h2
   |tuple c d h1 h2 =>
    refine⟨rfl,fun i x hi=>?_⟩
    simp only[Value.cells]at hi ⊢
    cases i with
    |zero=>simp at hi;subst hi;exact⟨_,rfl,.tuple _ _ h1 h2⟩
    |succ i=>simp at hi
   |_=>exact absurd rfl hone
 obtain⟨h1,h2⟩:=rel_new (w':={ w with heap:=w.heap.push (.cells u.cells T) }) r (ro:=false) (fz:=(0,0)) hpl hv rfl rfl rfl rfl (Nat.le_refl _) (fun _ _=>rfl) (fun i _ h=>by simp at h)
 refine⟨_,.pointer (some ⟨w.heap.size,0,none⟩),_,h1,h2,?_,?_⟩
 ·refine .ptr _ _ _ v.cells.size _ ?_ (Nat.le_refl _) (fun _=>by rw[yK];exact⟨rfl,rfl⟩)
  rw[hpl.lens];simp
 ·unfold execOp
  simp only[ho,Instr.box,Sem.run_bind,newVar,newRow,run_newObj,Result.andThen_ok,Sem.run_pure,hu]

theorem a_load (T:TypeId)(x:Operand){A off n:Nat}{g:Blk}{v:Value}(ho:o.op=.load T x)(hx:ev a x=some (gptr A off n))(hT:aggT P T=some false)
  (hA:H[A]?=some (some g)) (hn:g.cells.length=n) (hc:g.cells[off]?=some v):APure P N o a H v:=by
 refine⟨fun B0 w0 φ w ac r hf=>?_⟩
 obtain⟨hu,hmp⟩:=ptr_cells r hA hn (zW hf hx)
 obtain⟨us,g1,g2⟩:=cells_rel r hA hmp off (vs:=[v]) (fun i u hi=>by
  cases i with
  |zero=>simp at hi;subst hi;simpa using hc
  |succ i=>simp at hi)
 obtain⟨v',g3,g4⟩:=g1.get 0 v rfl
 refine⟨v',g4,fun w1 hb=>?_⟩
 have g5:=cells_later r hA _ hb g2 0 v' (by simpa using g3)
 rw[addr_add,Nat.add_zero]at g5
 unfold execOp
 simp only[ho,hu,Instr.loadAt,Instr.sureAddr,Sem.run_bind,Sem.run_pure,Result.andThen_ok,loadVar,run_isAgg hT,Bool.false_eq_true,if_false,run_load,g5]

theorem a_loads (T:TypeId)(x:Operand){A off n s b:Nat}{z:Option Value}{g:Blk}{vs:List Value}(ho:o.op=.load T x)(hx:ev a x=some (gptr A off n))(hT:aggT P T=some true)
  (hI:tinf P T=some (z,s,b)) (hA:H[A]?=some (some g)) (hn:g.cells.length=n) (hs:vs.length=s) (hc:∀(i:Nat) v,vs[i]?=some v→g.cells[off+i]?=some v):APure P N o a H (.agg vs.toArray):=by
 refine⟨fun B0 w0 φ w ac r hf=>?_⟩
 obtain⟨hu,hmp⟩:=ptr_cells r hA hn (zW hf hx)
 obtain⟨us,g1,g2⟩:=cells_rel r hA hmp off hc
 have hl:us.length=s:=by have:=g1.size;simp at this;omega
 refine⟨.agg us.toArray,.agg _ _ (by have:=g1.size;simp at this ⊢;omega) (fun i h h'=>?_),fun w1 hb=>?_⟩
 ·obtain⟨v',k1,k2⟩:=g1.get i vs.toArray[i] (by simp)
  have:v'=us.toArray[i]:=by rw[Array.getElem?_eq_getElem h']at k1;exact(Option.some.inj k1).symm
  rw[←this];exact k2
 ·have hload:=run_loadCells_list (P:=P) w1 _ us (cells_later r hA _ hb g2)
  rw[hl]at hload
  unfold execOp
  simp only[ho,hu,Instr.loadAt,Instr.sureAddr,Sem.run_bind,Sem.run_pure,Result.andThen_ok,loadVar,run_isAgg hT,if_true,run_sizeOf hI,hload]

def lset (l:List Value)(o:Nat)(vs:List Value):List Value:=l.take o++vs++l.drop (o+vs.length)
theorem len_lset {l vs:List Value}{o:Nat}(h:o+vs.length≤l.length):(lset l o vs).length=l.length:=by
 simp[lset];omega
theorem get_lset {l vs:List Value}{o:Nat}(h:o+vs.length≤l.length)(i:Nat):(lset l o vs)[i]?=if o≤i∧i<o+vs.length then vs[i-o]? else l[i]?:=by
 have ht:(l.take o).length=o:=by simp;omega
 unfold lset
 by_cases h1:i<o
 ·rw[if_neg (by omega),List.getElem?_append_left (by simp;omega),List.getElem?_append_left (by omega),List.getElem?_take,if_pos h1]
 ·by_cases h2:i<o+vs.length
  ·rw[if_pos (by omega),List.getElem?_append_left (by simp;omega),List.getElem?_append_right (by omega),ht]
  ·rw[if_neg (by omega),List.getElem?_append_right (by simp;omega),List.getElem?_drop]
   congr 1
   simp
   omega

theorem store_rel {B0:Nat}{w0:World}{φ:Nat→Loc}{w:World}(r:Rel B0 w0 φ H w){A off:Nat}{cells vs us:List Value}(hA:H[A]?=some (some ⟨cells,false⟩))(hmp:(φ A).mp=false)
  (hfit:off+vs.length≤cells.length) (hv:VRel φ (lens H) vs us.toArray) (h1:∀u∈us,u.oneCell'=true) :
  ∃φ' w',(storeCells ⟨(φ A).b,(φ A).base+off,none⟩ us).run P w=.ok () w'∧Ext φ (lens H) φ' (lens (H.set A (some ⟨lset cells off vs,false⟩)))∧Rel B0 w0 φ' (H.set A (some ⟨lset cells off vs,false⟩)) w':=by
 obtain⟨c,T,fz,k1,k2,k3,k4,k5⟩:=(r.blk A _ hA).ex hmp
 obtain⟨_,hbase⟩:=r.own A _ hA rfl
 have hul:us.length=vs.length:=by have:=hv.size;simpa using this
 simp only at k3 k5
 have hrun:=run_storeCells_in (P:=P) (o:=(φ A).base+off) (vs:=us) k1 (by omega) (k4 rfl) h1
 have hw:=wrote_setCells us w (φ A).b ((φ A).base+off) c T fz k1
 refine⟨upd φ A (φ A),_,hrun,?_⟩
 have hupd:upd φ A (φ A)=φ:=by funext B;unfold upd;split <;> simp_all
 refine rel_set r hA rfl hw.os hw.tape hw.output (by rw[hw.size];exact Nat.le_refl _) (fun k _ hk=>hw.oth k hk) (.inl rfl) hbase hmp hmp hw.block (by rw[size_writesA];exact k2)
  (by rw[size_writesA,len_lset hfit];omega) (by rw[size_writesA];exact k4 rfl) (.inl ⟨len_lset hfit,rfl⟩) ?_
 intro i v hi
 have hl:lens (H.set A (some ⟨lset cells off vs,false⟩))=lens H:=by
  funext B
  by_cases e:B=A
  ·subst e;rw[lens_set_eq (List.getElem?_eq_some_iff.1 hA).1,lens_of hA];simp[len_lset hfit]
  ·exact lens_set_ne e
 rw[hupd,hl]
 rw[get_writesA _ _ _ _ (by omega),hbase,Nat.zero_add]
 simp only at hi
 rw[get_lset hfit]at hi
 rw[hul]
 by_cases hin:off≤i∧i<off+vs.length
 ·rw[if_pos hin]at hi
  rw[if_pos hin]
  obtain⟨v',g1,g2⟩:=hv.get _ v hi
  exact⟨v',by simpa using g1,g2⟩
 ·rw[if_neg hin]at hi
  rw[if_neg hin]
  obtain⟨v',g1,g2⟩:=k5 i v hi
  rw[hbase,Nat.zero_add]at g1
  exact⟨v',g1,g2⟩

theorem e_store (T:TypeId)(x y:Operand){A off n b:Nat}{z:Option Value}{cells:List Value}{v:Value}(ho:o.op=.store T x y)(hx:ev a x=some (gptr A off n))(hy:ev a y=some v)
  (h1:one v=true) (hI:tinf P T=some (z,1,b)) (hA:H[A]?=some (some ⟨cells,false⟩)) (hn:cells.length=n) (hoff:Nat.blt off n=true)
  : AEff P N o a H undef (H.set A (some ⟨cells.set off v,false⟩)):=by
 have hoff:=Nat.le_of_ble_eq_true hoff
 have hset:lset cells off [v]=cells.set off v:=by
  simp only[lset,List.length_singleton]
  rw[List.set_eq_take_append_cons_drop,if_pos (by omega)]
  simp
 rw[←hset]
 refine eff_unit (fun B0 w0 φ w ac r hf=>?_)
 obtain⟨hu,hmp⟩:=ptr_cells r hA hn (zW hf hx)
 have hvr:=zW hf hy
 generalize hv:ac.eval y=u at hvr
 obtain⟨e1,e2,_⟩:=one_rel hvr h1
 obtain⟨φ',w',g1,g2,g3⟩:=store_rel (P:=P) (off:=off) (vs:=[v]) (us:=[u]) r hA hmp (by simp;omega) ⟨rfl,fun i x hi=>by
  cases i with
  |zero=>simp at hi;subst hi;exact⟨u,rfl,hvr⟩
  |succ i=>simp at hi⟩ (fun x hx=>by simp at hx;subst hx;exact e1)
 refine⟨φ',w',g2,g3,?_⟩
 unfold execOp
 simp only[ho,hu,hv,Instr.storeAt,Instr.sureAddr,Sem.run_bind,Sem.run_pure,Result.andThen_ok,storeVar,e2,run_sizeOf hI,List.size_toArray,List.length_singleton,ne_eq,not_true_eq_false,if_false,g1]

theorem e_stores (T:TypeId)(x y:Operand){A off n s b:Nat}{z:Option Value}{cells vs:List Value}(ho:o.op=.store T x y)(hx:ev a x=some (gptr A off n))(hy:ev a y=some (.agg vs.toArray))
  (h1:vs.all one=true) (hI:tinf P T=some (z,s,b)) (hs:vs.length=s) (hA:H[A]?=some (some ⟨cells,false⟩)) (hn:cells.length=n) (hoff:Nat.ble (off+s) n=true)
  : AEff P N o a H undef (H.set A (some ⟨lset cells off vs,false⟩)):=by
 have hoff:=Nat.le_of_ble_eq_true hoff
 refine eff_unit (fun B0 w0 φ w ac r hf=>?_)
 obtain⟨hu,hmp⟩:=ptr_cells r hA hn (zW hf hx)
 have hvr:=zW hf hy
 generalize hv:ac.eval y=u at hvr
 cases hvr with
 |agg _ us e1 e2 =>
  have hvv:VRel φ (lens H) vs us:=by have:=VRel.of_arrays e1 e2;simpa using this
  obtain⟨φ',w',g1,g2,g3⟩:=store_rel (P:=P) (off:=off) (vs:=vs) (us:=us.toList) r hA hmp (by omega) (by simpa using hvv) (fun x hx=>by
   obtain⟨i,hi,rfl⟩:=List.getElem_of_mem hx
   have hi':i<us.size:=by simpa using hi
   have hvl:i<vs.length:=by have:=hvv.size;omega
   obtain⟨v',k1,k2⟩:=hvv.get i vs[i] (by simp[hvl])
   rw[Array.getElem?_eq_getElem hi']at k1
   simp only[Option.some.injEq]at k1
   have:=(one_rel k2 ((List.all_eq_true.1 h1) vs[i] (List.getElem_mem hvl))).1
   rw[←k1]at this
   simpa using this)
  refine⟨φ',w',g2,g3,?_⟩
  have hsz:us.size=s:=by rw[hvv.size,hs]
  unfold execOp
  simp only[ho,hu,hv,Instr.storeAt,Instr.sureAddr,Sem.run_bind,Sem.run_pure,Result.andThen_ok,storeVar,Value.cells,run_sizeOf hI,hsz,ne_eq,not_true_eq_false,if_false,g1]

def fieldOf (P:Program)(T:TypeId)(f:Nat):Option (TypeId × Nat):=match P.underlying T with
 |some (.struct fs)=>(fs[f]?).map fun x=>(x.type,x.offset)
 |_=>none

theorem a_fieldAddr (T:TypeId)(x:Operand)(f:Nat){A off n F fo s b:Nat}{z:Option Value}(ho:o.op=.fieldAddr T x f)(hx:ev a x=some (gptr A off n))(hF:fieldOf P T f=some (F,fo))
  (hI:tinf P F=some (z,s,b)) (hs:s≠0):APure P N o a H (gptr A (off+fo) n):=by
 refine⟨fun B0 w0 φ w ac r hf=>?_⟩
 have hu:=zW hf hx
 generalize hv:ac.eval x=u at hu
 unfold fieldOf at hF
 cases hu with
 |ptr _ _ _ m c hL hle h =>
  refine⟨.pointer (some (c.add fo)),.ptr _ _ _ m _ hL hle (fun e=>⟨by rw[(h e).1,addr_add,Nat.add_assoc],(h e).2⟩),fun w _=>?_⟩
  cases hd:P.underlying T with
  |none=>rw[hd]at hF;cases hF
  |some d =>
   rw[hd]at hF
   cases d <;> simp only[reduceCtorEq]at hF
   rename_i fs
   cases hfs:fs[f]? with
   |none=>rw[hfs]at hF;cases hF
   |some fl =>
    rw[hfs]at hF
    simp only[Option.map_some,Option.some.injEq,Prod.mk.injEq]at hF
    obtain⟨rfl,rfl⟩:=hF
    unfold execOp
    simp only[ho,hv,Instr.fieldAt,Sem.run_bind,run_underlying hd,Result.andThen_ok,hfs,Instr.sureAddr,Sem.run_pure,fieldPlace,run_sizeOf hI,hs,if_false]

theorem a_idxAddr (T:TypeId)(x y:Operand){A off n len fl E s b:Nat}{z:Option Value}{k:IntKind}{i:Int}(ho:o.op=.indexAddr T x y)(hx:ev a x=some (gsl A off n len fl))(hy:ev a y=some (.int k i))
  (hT:P.underlying T=some (.slice E)) (hI:tinf P E=some (z,s,b)) (hi:0≤i∧i<len):APure P N o a H (gptr A (off+i.toNat*s) n):=by
 refine⟨fun B0 w0 φ w ac r hf=>?_⟩
 have hu:=zW hf hx
 have h2:=(zW hf hy).scalar rfl
 generalize hv:ac.eval x=u at hu
 cases hu with
 |slc _ _ _ m _ _ cap c hL hle hc hm h =>
  refine⟨.pointer (some (c.add (i.toNat*s))),.ptr _ _ _ m _ hL hle (fun e=>⟨by rw[(h e).1,addr_add,Nat.add_assoc],(h e).2.2⟩),fun w _=>?_⟩
  unfold execOp
  simp only[ho,hv,h2,Instr.indexAt,asIntOf,Sem.run_bind,Sem.run_pure,run_underlying hT,Result.andThen_ok]
  rw[if_pos hi]
  simp only[Sem.run_bind,run_sizeOf hI,Result.andThen_ok,Sem.run_pure]

theorem a_aidxAddr (T:TypeId)(x y:Operand){A off n len E s b:Nat}{z:Option Value}{k:IntKind}{i:Int}(ho:o.op=.indexAddr T x y)(hx:ev a x=some (gptr A off n))(hy:ev a y=some (.int k i))
  (hT:P.underlying T=some (.array len E)) (hI:tinf P E=some (z,s,b)) (hi:0≤i∧i<len):APure P N o a H (gptr A (off+i.toNat*s) n):=by
 refine⟨fun B0 w0 φ w ac r hf=>?_⟩
 have hu:=zW hf hx
 have h2:=(zW hf hy).scalar rfl
 generalize hv:ac.eval x=u at hu
 cases hu with
 |ptr _ _ _ m c hL hle h =>
  refine⟨.pointer (some (c.add (i.toNat*s))),.ptr _ _ _ m _ hL hle (fun e=>⟨by rw[(h e).1,addr_add,Nat.add_assoc],(h e).2⟩),fun w _=>?_⟩
  unfold execOp
  simp only[ho,hv,h2,Instr.indexAt,asIntOf,Sem.run_bind,Sem.run_pure,run_underlying hT,Result.andThen_ok,Instr.sureAddr]
  rw[if_pos hi]
  simp only[Sem.run_bind,run_sizeOf hI,Result.andThen_ok,Sem.run_pure]

end

section
variable {P:Program} {N:Fr} {ops:Array Oper} {Q:Post} {rest:List Oper} {o:Oper} {a:AF} {H:Heap}

theorem vrel_of_agg {φ:Nat→Loc}{L:Lens}{vs:List Value}{u:Value}(h:Val φ L (.agg vs.toArray) u):∃us,u=.agg us∧VRel φ L vs us:=by
 cases h with
 |agg _ us e1 e2=>exact⟨us,rfl,by have:=VRel.of_arrays e1 e2;simpa using this⟩
theorem agg_of_vrel {φ:Nat→Loc}{L:Lens}{vs:List Value}{us:Array Value}(h:VRel φ L vs us):Val φ L (.agg vs.toArray) (.agg us):=by
 refine .agg _ _ (by simp[h.size]) fun i hi hi'=>?_
 obtain⟨v',k1,k2⟩:=h.get i vs.toArray[i] (by simp)
 have:v'=us[i]:=by rw[Array.getElem?_eq_getElem hi']at k1;exact(Option.some.inj k1).symm
 rw[←this];exact k2

theorem a_field (T:TypeId)(x:Operand)(f:Nat){F fo:Nat}{vs:List Value}{v:Value}(ho:o.op=.field T x f)(hx:ev a x=some (.agg vs.toArray))(hF:fieldOf P T f=some (F,fo))(hT:aggT P F=some false)
  (hv:vs[fo]?=some v):APure P N o a H v:=by
 refine⟨fun B0 w0 φ w ac r hf=>?_⟩
 obtain⟨us,hu,hr⟩:=vrel_of_agg (zW hf hx)
 obtain⟨v',g1,g2⟩:=hr.get fo v hv
 refine⟨v',g2,fun w1 _=>?_⟩
 unfold fieldOf at hF
 cases hd:P.underlying T with
 |none=>rw[hd]at hF;cases hF
 |some d =>
  rw[hd]at hF
  cases d <;> simp only[reduceCtorEq]at hF
  rename_i fs
  cases hfs:fs[f]? with
  |none=>rw[hfs]at hF;cases hF
  |some fl =>
   rw[hfs]at hF
   simp only[Option.map_some,Option.some.injEq,Prod.mk.injEq]at hF
   obtain⟨rfl,rfl⟩:=hF
   unfold execOp
   simp only[ho,hu,Instr.field,Sem.run_bind,run_underlying hd,Result.andThen_ok,hfs,asAgg,Sem.run_pure,part,run_isAgg hT,Bool.false_eq_true,if_false,g1]

theorem a_aindex (T:TypeId)(x y:Operand){len E b:Nat}{z:Option Value}{vs:List Value}{v:Value}{k:IntKind}{i:Int}(ho:o.op=.index T x y)(hx:ev a x=some (.agg vs.toArray))(hy:ev a y=some (.int k i))
  (hT:P.underlying T=some (.array len E)) (hE:aggT P E=some false) (hI:tinf P E=some (z,1,b)) (hi:0≤i∧i<len) (hv:vs[i.toNat]?=some v):APure P N o a H v:=by
 refine⟨fun B0 w0 φ w ac r hf=>?_⟩
 obtain⟨us,hu,hr⟩:=vrel_of_agg (zW hf hx)
 have h2:=(zW hf hy).scalar rfl
 obtain⟨v',g1,g2⟩:=hr.get _ v hv
 refine⟨v',g2,fun w _=>?_⟩
 unfold execOp
 simp only[ho,hu,h2,Instr.index,asIntOf,Sem.run_bind,Sem.run_pure,Result.andThen_ok,run_underlying hT]
 rw[if_pos hi]
 simp only[Sem.run_bind,run_sizeOf hI,Result.andThen_ok,Nat.mul_one,part,run_isAgg hE,Bool.false_eq_true,if_false,g1,Sem.run_pure]

def gfill (places:Nat→Option (Nat × Nat))(cells:List Value):List (Nat × Value)→Option (List Value)
 |[]=>some cells
 |(i,v)::r=>match places i with
  |none=>none
  |some (off,size)=>bif decide (v.cells.size=size) && decide (off+v.cells.size≤cells.length) && constOk1 v then gfill places (lset cells off v.cells.toList) r else none
 where constOk1 (_:Value):Bool:=true

def evps (a:AF):List (Nat × Operand)→Option (List (Nat × Value))
 |[]=>some []
 |(i,x)::r=>match ev a x,evps a r with
  |some v,some vs=>some ((i,v)::vs)
  |_,_=>none

theorem cells_vrel {φ:Nat→Loc}{L:Lens}{v u:Value}(h:Val φ L v u):VRel φ L v.cells.toList u.cells:=by
 by_cases hone:one v=true
 ·obtain⟨_,e1,e2⟩:=one_rel h hone
  rw[e1,e2]
  refine⟨rfl,fun i x hi=>?_⟩
  cases i with
  |zero=>simp at hi;subst hi;exact⟨u,rfl,h⟩
  |succ i=>simp at hi
 ·cases h with
  |agg _ _ h1 h2=>exact VRel.of_arrays h1 h2
  |tuple c d h1 h2 =>
   refine⟨rfl,fun i x hi=>?_⟩
   simp only[Value.cells]at hi ⊢
   cases i with
   |zero=>simp at hi;subst hi;exact⟨_,rfl,.tuple _ _ h1 h2⟩
   |succ i=>simp at hi
  |_=>exact absurd rfl hone

theorem foldl_writes (vs:Array Value)(cs:Array Value)(off:Nat):vs.zipIdx.foldl (fun cs (c,j)=>cs.setIfInBounds (off+j) c) cs=writesA cs off vs.toList:=by
 rw[←Array.foldl_toList,Array.toList_zipIdx]
 generalize vs.toList=l
 have:∀(l:List Value) (k:Nat) (cs:Array Value),(l.zipIdx k).foldl (fun cs (x:Value × Nat)=>cs.setIfInBounds (off+x.2) x.1) cs=writesA cs (off+k) l:=by
  intro l
  induction l with
  |nil=>intro k cs;rfl
  |cons v r ih=>intro k cs;simp only[List.zipIdx_cons,List.foldl_cons,writesA];rw[ih];rfl
 exact this l 0 cs

theorem fill_rel {φ:Nat→Loc}{L:Lens}{N:Fr}{ac:Act}(hf:FRel φ L N a ac)(places:Nat→Option (Nat × Nat)):∀(ps:List (Nat × Operand)) (vs:List (Nat × Value)) (cells:List Value) (us:Array Value) (out:List Value),
  evps a ps=some vs→VRel φ L cells us→gfill places cells vs=some out →
  ∃os,Instr.fill places us (ps.map fun x=>(x.1,ac.eval x.2))=some os∧VRel φ L out os:=by
 intro ps
 induction ps with
 |nil =>
  intro vs cells us out h1 h2 h3
  simp only[evps,Option.some.injEq]at h1
  subst h1
  simp only[gfill,Option.some.injEq]at h3
  subst h3
  exact⟨us,rfl,h2⟩
 |cons p ps ih =>
  obtain⟨i,x⟩:=p
  intro vs cells us out h1 h2 h3
  simp only[evps]at h1
  cases hx:ev a x with
  |none=>rw[hx]at h1;simp at h1
  |some v =>
   cases hr:evps a ps with
   |none=>rw[hx,hr]at h1;simp at h1
   |some vr =>
    rw[hx,hr]at h1
    simp only[Option.some.injEq]at h1
    subst h1
    simp only[gfill]at h3
    cases hp:places i with
    |none=>rw[hp]at h3;simp at h3
    |some q =>
     obtain⟨off,size⟩:=q
     rw[hp]at h3
     simp only at h3
     cases hc:(decide (v.cells.size=size) && decide (off+v.cells.size≤cells.length) && gfill.constOk1 v)with
     |false=>rw[hc]at h3;simp at h3
     |true =>
      rw[hc]at h3
      simp only[cond_true]at h3
      simp only[Bool.and_eq_true]at hc
      have e1:v.cells.size=size:=of_decide_eq_true hc.1.1
      have e2:off+v.cells.size≤cells.length:=of_decide_eq_true hc.1.2
      have hv:=cells_vrel (zW hf hx)
      have hsz:(ac.eval x).cells.size=v.cells.size:=by have:=hv.size;simpa using this
      have hus:us.size=cells.length:=h2.size
      have hvr:VRel φ L (lset cells off v.cells.toList) (writesA us off (ac.eval x).cells.toList):=by
       refine⟨by rw[size_writesA,len_lset (by simpa using e2),hus],fun j y hj=>?_⟩
       rw[get_lset (by simpa using e2)]at hj
       rw[get_writesA _ _ _ _ (by simp;omega)]
       simp only[Array.length_toList,hsz]at hj ⊢
       by_cases hin:off≤j∧j<off+v.cells.size
       ·rw[if_pos hin]at hj ⊢
        obtain⟨y',k1,k2⟩:=hv.get _ y hj
        exact⟨y',by simpa using k1,k2⟩
       ·rw[if_neg hin]at hj ⊢
        exact h2.get j y hj
      obtain⟨os,g1,g2⟩:=ih vr _ _ out hr hvr h3
      refine⟨os,?_,g2⟩
      simp only[List.map_cons,Instr.fill,hp]
      rw[if_neg (by simp only[Bool.or_eq_true,decide_eq_true_eq,not_or];exact⟨fun h=>h (hsz.trans e1),by rw[hsz];omega⟩),foldl_writes]
      exact g1

theorem mapFst (ps:List (Nat × Operand))(ρ:Operand→Value):(ps.toArray.map fun(i,x)=>(i,ρ x))=(ps.map fun x=>(x.1,ρ x.2)).toArray:=by simp

def placesOf (P:Program)(T:TypeId):Option (List (Nat × Nat)):=match P.underlying T with
 |some (.struct fs)=>fs.toList.mapM fun f=>(P.info? f.type).map fun i=>(f.offset,i.size)
 |_=>none

theorem run_places {P:Program}{w:World}:∀(fs:List Field) (pl:List (Nat × Nat)),(fs.mapM fun f=>(P.info? f.type).map fun i=>(f.offset,i.size))=some pl →
  (fs.mapM fun f=>(do pure (f.offset,←sizeOf f.type):Sem (Nat × Nat))).run P w=.ok pl w
 |[],pl,h=>by simp at h;subst h;simp
 |f::fs,pl,h=>by
  rw[List.mapM_cons]at h ⊢
  cases hi:P.info? f.type with
  |none=>rw[hi]at h;simp at h
  |some i =>
   rw[hi]at h
   cases hm:(fs.mapM fun f=>(P.info? f.type).map fun i=>(f.offset,i.size))with
   |none=>rw[hm]at h;simp at h
   |some pr =>
    rw[hm]at h
    simp at h
    subst h
    have:=run_places (w:=w) fs pr hm
    have hsz:(sizeOf f.type).run P w=.ok i.size w:=by simp[sizeOf,typeInfo,hi]
    simp only[Sem.run_bind,hsz,Result.andThen_ok,Sem.run_pure,this]

theorem a_build (T:TypeId)(ps:List (Nat × Operand)){pl:List (Nat × Nat)}{zs:List Value}{s b:Nat}{vs:List (Nat × Value)}{out:List Value}(ho:o.op=.build T ps.toArray)(hv:evps a ps=some vs)
  (hp:placesOf P T=some pl) (hI:tinf P T=some (some (.agg zs.toArray),s,b)) (hz:yJ (.agg zs.toArray)=true) (hout:gfill (fun i:Nat=>pl[i]?) zs vs=some out):APure P N o a H (.agg out.toArray):=by
 refine⟨fun B0 w0 φ w ac r hf=>?_⟩
 obtain⟨zs',hz1,hz2⟩:=vrel_of_agg (Val.const (φ:=φ) (L:=lens H) hz)
 simp only[Value.agg.injEq]at hz1
 subst hz1
 obtain⟨os,g1,g2⟩:=fill_rel hf (fun i:Nat=>pl[i]?) ps vs zs _ out hv hz2 hout
 refine⟨.agg os,agg_of_vrel g2,fun w _=>?_⟩
 unfold placesOf at hp
 cases hd:P.underlying T with
 |none=>rw[hd]at hp;cases hp
 |some d =>
  rw[hd]at hp
  cases d <;> simp only[reduceCtorEq]at hp
  rename_i fs
  have hpl:=run_places (P:=P) (w:=w) fs.toList pl hp
  unfold execOp
  simp only[ho,Instr.build,Sem.run_bind,run_zeroValue hI,Result.andThen_ok,Value.cells,run_underlying hd]
  rw[Array.mapM_eq_mapM_toList]
  simp only[Sem.run_map,hpl,Result.andThen_ok,mapFst]
  have:(fun i:Nat=>(pl.toArray[i]?:Option (Nat × Nat)))=fun i:Nat=>pl[i]?:=by funext i;simp
  rw[this,g1]
  rfl

def zrow (z:Value)(m:Nat):List Value:=(List.range m).map fun i=>z.cells.toList.getD (i%z.cells.size) undef
theorem zrow_one {z:Value}(h:one z=true)(m:Nat):zrow z m=List.replicate m z:=by
 have:z.cells=#[z]:=by cases z <;> first|rfl|(simp[one]at h)
 unfold zrow
 rw[this]
 apply List.ext_getElem
 ·simp
 ·intro i h1 h2;simp[Nat.mod_one]
theorem zrow_vrel {φ:Nat→Loc}{L:Lens}{z:Value}(hz:yJ z=true)(m:Nat)(hs:0<z.cells.size) :
  VRel φ L (zrow z m) ((Array.range m).map (z.cells[·%z.cells.size]!)):=by
 have hv:=cells_vrel (φ:=φ) (L:=L) (Val.const hz)
 refine⟨by simp[zrow],fun i v hi=>?_⟩
 unfold zrow at hi
 rw[List.getElem?_map]at hi
 cases hr:(List.range m)[i]? with
 |none=>rw[hr]at hi;cases hi
 |some j =>
  have hlt:i<m:=by have:=(List.getElem?_eq_some_iff.1 hr).1;simpa using this
  have hj:j=i:=by have:=(List.getElem?_eq_some_iff.1 hr).2;simpa using this.symm
  subst hj
  rw[hr]at hi
  simp only[Option.map_some,Option.some.injEq]at hi
  have hmod:j%z.cells.size<z.cells.size:=Nat.mod_lt _ hs
  have hv2:z.cells.toList[j%z.cells.size]?=some v:=by
   rw[←hi,List.getD_eq_getElem?_getD,List.getElem?_eq_getElem (by simpa using hmod)];rfl
  obtain⟨v',g1,g2⟩:=hv.get _ v hv2
  refine⟨v',?_,g2⟩
  rw[Array.getElem?_map]
  simp only[Array.getElem?_range,hlt,if_true,Option.map_some,Option.some.injEq]
  rw[getElem!_pos z.cells (j%z.cells.size) hmod]
  rw[Array.getElem?_eq_getElem hmod]at g1
  exact Option.some.inj g1

theorem gfill_mono {f g:Nat→Option (Nat × Nat)}(h:∀i p,f i=some p→g i=some p):∀{vs:List (Nat × Value)} {zs out:List Value},gfill f zs vs=some out→gfill g zs vs=some out
 |[],zs,out,k=>k
 |(i,v)::r,zs,out,k=>by
  simp only[gfill]at k ⊢
  cases hf:f i with
  |none=>rw[hf]at k;cases k
  |some p =>
   rw[hf]at k
   rw[h i p hf]
   obtain⟨off,size⟩:=p
   simp only at k ⊢
   cases hc:(decide (v.cells.size=size) && decide (off+v.cells.size≤zs.length) && gfill.constOk1 v)with
   |false=>rw[hc]at k;cases k
   |true=>rw[hc]at k;exact gfill_mono h k
def arrPl (n s:Nat):List (Nat × Nat):=(List.range n).map fun i=>(i*s,s)
theorem a_buildArr (T:TypeId)(ps:List (Nat × Operand)){n E s s1 b b1:Nat}{z:Option Value}{zs:List Value}{vs:List (Nat × Value)}{out:List Value}(ho:o.op=.build T ps.toArray)(hv:evps a ps=some vs)
  (hT:P.underlying T=some (.array n E)) (hE:tinf P E=some (z,s,b1)) (hI:tinf P T=some (some (.agg zs.toArray),s1,b)) (hz:yJ (.agg zs.toArray)=true) (hout:gfill (fun i:Nat=>(arrPl n s)[i]?) zs vs=some out):APure P N o a H (.agg out.toArray):=by
 have hout:=gfill_mono (g:=fun i=>some (i*s,s)) (fun i p hp=>by
  unfold arrPl at hp
  rw[List.getElem?_map]at hp
  cases hr:(List.range n)[i]? with
  |none=>rw[hr]at hp;cases hp
  |some j =>
   rw[hr]at hp
   obtain⟨h1,h2⟩:=List.getElem?_eq_some_iff.1 hr
   rw[List.getElem_range]at h2
   subst h2;exact hp) hout
 refine⟨fun B0 w0 φ w ac r hf=>?_⟩
 obtain⟨zs',hz1,hz2⟩:=vrel_of_agg (Val.const (φ:=φ) (L:=lens H) hz)
 simp only[Value.agg.injEq]at hz1
 subst hz1
 obtain⟨os,g1,g2⟩:=fill_rel hf (fun i:Nat=>some (i*s,s)) ps vs zs _ out hv hz2 hout
 refine⟨.agg os,agg_of_vrel g2,fun w _=>?_⟩
 unfold execOp
 simp only[ho,Instr.build,Sem.run_bind,run_zeroValue hI,Result.andThen_ok,Value.cells,run_underlying hT,run_sizeOf hE,mapFst]
 rw[g1]
 rfl

theorem e_buildSlice (T:TypeId)(n:Nat)(ps:List (Nat × Operand)){E s b:Nat}{z:Value}{vs:List (Nat × Value)}{out:List Value}(ho:o.op=.buildSlice T n ps.toArray)(hv:evps a ps=some vs)
  (hT:P.underlying T=some (.slice E)) (hI:tinf P E=some (some z,s,b)) (hz:yJ z=true) (hzs:z.cells.size=s) (hs:0<s) (hle:n*s≤16777216)
  (hout:gfill (fun i=>some (i*s,s)) (zrow z (n*s)) vs=some out)
  {A0:Nat} {H':Heap} (hpl:Place H A0 H' ⟨out,false⟩):AEff P N o a H (gsl A0 0 (n*s) n s) H':=by
 refine eff_value (fun B0 w0 φ w ac r hf=>?_)
 obtain⟨os,g1,g2⟩:=fill_rel hf (fun i=>some (i*s,s)) ps vs _ _ out hv (zrow_vrel hz (n*s) (by omega)) hout
 have hlen:out.length=n*s:=by
  have:∀(vs:List (Nat × Value)) (cells out:List Value),gfill (fun i=>some (i*s,s)) cells vs=some out→out.length=cells.length:=by
   intro vs
   induction vs with
   |nil=>intro cells out h;simp only[gfill,Option.some.injEq]at h;rw[h]
   |cons p r ih =>
    intro cells out h
    obtain⟨i,v⟩:=p
    simp only[gfill]at h
    cases hc:(decide (v.cells.size=s) && decide (i*s+v.cells.size≤cells.length) && gfill.constOk1 v)with
    |false=>rw[hc]at h;simp at h
    |true =>
     rw[hc]at h
     simp only[cond_true]at h
     simp only[Bool.and_eq_true]at hc
     rw[ih _ _ h,len_lset (by simpa using of_decide_eq_true hc.1.2)]
  rw[this _ _ _ hout];simp[zrow]
 have hos:os.size=n*s:=by rw[g2.size,hlen]
 obtain⟨h1,h2⟩:=rel_new (w':={ w with heap:=w.heap.push (.cells os E) }) r (ro:=false) (fz:=(0,0)) hpl g2 rfl rfl rfl rfl (Nat.le_refl _) (fun _ _=>rfl) (fun i _ h=>by simp at h)
 have hnm:n≤maxLen:=by
  have:n≤n*s:=Nat.le_mul_of_pos_right n hs
  unfold maxLen;omega
 refine⟨_,.slice (some ⟨w.heap.size,0,none⟩) n n,_,h1,h2,?_,?_⟩
 ·refine .slc _ _ _ (n*s) _ _ _ _ ?_ (Nat.le_refl _) (Nat.le_refl _) hnm (fun _=>⟨by rw[yK],fun _=>by rw[yK];simp[hos],by rw[yK]⟩)
  rw[hpl.lens];simp[hlen]
 ·unfold execOp
  simp only[ho,Instr.buildSlice,Sem.run_bind,run_underlying hT,Result.andThen_ok,run_sizeOf hI]
  rw[if_neg (by omega)]
  by_cases h0:n*s=0
  ·rw[if_pos h0]
   have:n=0:=by rcases Nat.mul_eq_zero.1 h0 with h|h <;> omega
   subst this
   have e0:(Array.range (0*s)).map (fun x=>z.cells[x%z.cells.size]!)=#[]:=by simp
   have e1:(Array.range (0*s)).map (fun x=>(#[]:Array Value)[x%(#[]:Array Value).size]!)=#[]:=by simp
   rw[e0]at g1
   simp only[Sem.run_pure,Result.andThen_ok,mapFst,e1,g1,Sem.run_bind,newRow,run_newObj]
  ·rw[if_neg h0]
   simp only[Sem.run_bind,run_zeroValue hI,Result.andThen_ok,Sem.run_pure,mapFst,g1,newRow,run_newObj]

theorem madeCells_rel {φ:Nat→Loc}{L:Lens}{z:Value}(hz:yJ z=true)(m:Nat)(hs:0<z.cells.size):VRel φ L (zrow z m) (madeCells z.cells m):=zrow_vrel hz m hs

theorem e_makeSlice (T:TypeId)(x y:Operand){E s b:Nat}{z:Value}{j k:IntKind}{n c:Int}(ho:o.op=.makeSlice T x y)(hx:ev a x=some (.int j n))(hy:ev a y=some (.int k c))
  (hT:P.underlying T=some (.slice E)) (hI:tinf P E=some (some z,s,b)) (hz:yJ z=true) (hzs:z.cells.size=s) (hs:0<s) (hn:0≤n∧n≤c∧(b:Int)*c≤281474976710656∧c≤9223372036854775807)
  {A0:Nat} {H':Heap} (hpl:Place H A0 H' ⟨zrow z (n.toNat*s),false⟩):AEff P N o a H (gsl A0 0 (n.toNat*s) n.toNat s) H':=by
 refine eff_value (fun B0 w0 φ w ac r hf=>?_)
 have h1:=(zW hf hx).scalar rfl
 have h2:=(zW hf hy).scalar rfl
 obtain⟨i,hi,e1,e2,e3⟩:=tinf_some hI
 subst e2 e3
 have hrun:=run_make (P:=P) w T E i z hT hi e1 j k n c hn.1 hn.2.1 hn.2.2.1 hn.2.2.2
 have hle:n.toNat*i.size≤c.toNat*i.size:=Nat.mul_le_mul_right _ (by omega)
 have hv:VRel φ (lens H) (zrow z (n.toNat*i.size)) ((madeCells z.cells (c.toNat*i.size)).extract 0 (n.toNat*i.size)):=by
  have hm:=madeCells_rel (φ:=φ) (L:=lens H) hz (n.toNat*i.size) (by omega)
  have:(madeCells z.cells (c.toNat*i.size)).extract 0 (n.toNat*i.size)=madeCells z.cells (n.toNat*i.size):=by
   apply Array.ext
   ·simp only[Array.size_extract,size_madeCells];omega
   ·intro q h1 h2;simp[madeCells]
  rw[this];exact hm
 obtain⟨g1,g2⟩:=rel_new (w':=w.alloc (.cells (madeCells z.cells (c.toNat*i.size)) E)) r (ro:=false) (fz:=(0,0)) (c:=madeCells z.cells (c.toNat*i.size)) hpl hv rfl rfl rfl rfl
  (by simp only[Array.size_extract,size_madeCells];omega) (fun q hq=>by
   simp only[Array.size_extract,size_madeCells]at hq
   rw[Array.getElem?_extract,if_pos (by rw[size_madeCells];omega),Nat.zero_add]) (fun i _ h=>by simp at h)
 refine⟨_,.slice (some ⟨w.heap.size,0,none⟩) n.toNat c.toNat,_,g1,g2,?_,?_⟩
 ·refine .slc _ _ _ (n.toNat*i.size) _ _ _ _ ?_ (Nat.le_refl _) (by omega) (by unfold maxLen;omega) (fun _=>⟨by rw[yK],fun _=>by rw[yK];simp[madeCells],by rw[yK]⟩)
  rw[hpl.lens];simp[zrow]
 ·unfold execOp
  simp only[ho,h1,h2,Sem.run_bind,hrun,Result.andThen_ok,Sem.run_pure]

end

theorem run_append_room' {P:Program}(w:World)(t ty e:TypeId)(i:TypeInfo)(ht:P.underlying t=some (.slice e))(hi:P.info? e=some i)
  (b sLen sCap:Nat) {c:Array Value} {T:TypeId} {fz:Nat × Nat} (hg:w.heap[b]?=some (.cells c T fz)) (hfz:∀i,i<c.size→¬(fz.1≤i∧i<fz.2))
  (a:Addr) (m k:Nat) (news:List Value) (hl:news.length=m*i.size) (hnews:∀j u,news[j]?=some u→w.cell? (a.add j)=some u) (h1:∀u∈news,u.oneCell'=true)
  (hroom:sLen+m≤sCap) (hfit:sLen*i.size+news.length≤c.size) :
  (Builtin.append_ #[t,t] ty #[.slice (some ⟨b,0,none⟩) sLen sCap,.slice (some a) m k]).run P w =
   .ok (.slice (some ⟨b,0,none⟩) (sLen+m) sCap) (w.setCells b (sLen*i.size) news):=by
 have hf:=run_firstCells_some (P:=P) w i.size m a m k news hl hnews
 have hst:=run_storeCells_in (P:=P) hg hfit hfz h1
 simp[Builtin.append_,run_underlying ht,sizeOf,typeInfo,hi,Builtin.lenOf,hroom,hf,Addr.add_lit,hst]

section
variable {P:Program} {N:Fr} {ops:Array Oper} {Q:Post} {rest:List Oper} {o:Oper} {a:AF} {H:Heap}

theorem exec_append {ρ:Operand→Value}{t u:TypeId}{x y:Operand}{v:Value}{w w':World}(ho:o.op=.call { callee:=.builtin .append,args:=#[x,y],argTypes:=#[t,u] })
  (hr:(Builtin.append_ #[t,u] o.type #[ρ x,ρ y]).run P w=.ok v w'):(execOp ρ o).run P w=.ok (.value v) w':=by
 unfold execOp
 simp only[ho,resolve,invoke,builtin,Sem.run_bind,Sem.run_pure,Result.andThen_ok,List.map_toArray,List.map_cons,List.map_nil,hr]

theorem slc_cells {B0:Nat}{w0:World}{φ:Nat→Loc}{w:World}(_r:Rel B0 w0 φ H w){A off n len fl:Nat}{g:Blk}(hA:H[A]?=some (some g))(hn:g.cells.length=n)
  {u:Value} (hu:Val φ (lens H) (gsl A off n len fl) u) :
  ∃cap,u=.slice (some ⟨(φ A).b,(φ A).base+off,none⟩) len cap∧len≤cap∧cap≤maxLen∧(fl≠0→(φ A).base+off+cap*fl≤(φ A).size)∧(φ A).mp=false:=by
 cases hu with
 |slc _ _ _ m _ _ cap c hL hv hc hm h =>
  rw[lens_of hA]at hL
  simp only[Option.some.injEq]at hL
  obtain⟨h1,h2⟩:=h (by omega)
  exact⟨cap,by rw[h1],hc,hm,h2⟩

theorem vrel_one {φ:Nat→Loc}{L:Lens}{vs us:List Value}(h:VRel φ L vs us.toArray)(h1:vs.all one=true):∀u∈us,u.oneCell'=true:=by
 intro u hu
 obtain⟨i,hi,rfl⟩:=List.getElem_of_mem hu
 have hvl:i<vs.length:=by have:=h.size;simp at this;omega
 obtain⟨v',k1,k2⟩:=h.get i vs[i] (by simp[hvl])
 have:=(one_rel k2 ((List.all_eq_true.1 h1) vs[i] (List.getElem_mem hvl))).1
 rw[show v'=us[i] from by simp[hi]at k1;exact k1.symm]at this
 exact this

theorem e_append (T:TypeId)(x y:Operand){A n len A2 off2 n2 m fl2 E s b:Nat}{z:Value}{cells news:List Value}{g2:Blk}
  (ho:o.op=.call { callee:=.builtin .append,args:=#[x,y],argTypes:=#[T,T] }) (hx:ev a x=some (gsl A 0 n len s)) (hy:ev a y=some (gsl A2 off2 n2 m fl2))
  (hT:P.underlying T=some (.slice E)) (hI:tinf P E=some (some z,s,b)) (hzs:z.cells.size=s) (hs:0<s)
  (hA:H[A]?=some (some ⟨cells,false⟩)) (hn:cells.length=n) (hfull:len*s=n) (hA2:H[A2]?=some (some g2)) (hn2:g2.cells.length=n2)
  (hl:news.length=m*s) (hc:∀(i:Nat) v,news[i]?=some v→g2.cells[off2+i]?=some v) (h1:news.all one=true)
  (hb:(len+m)*b≤140737488355328) (h63:len+m≤maxLen)
  : AEff P N o a H (gsl A 0 (n+m*s) (len+m) s) (H.set A (some ⟨cells++news,false⟩)):=by
 refine eff_value (fun B0 w0 φ w ac r hf=>?_)
 obtain⟨cap,hu,hlc,hcm,hsz,hmp⟩:=slc_cells r hA hn (zW hf hx)
 obtain⟨cap2,hu2,_,_,_,hmp2⟩:=slc_cells r hA2 hn2 (zW hf hy)
 obtain⟨us,hus,hucell⟩:=cells_rel r hA2 hmp2 off2 hc
 obtain⟨olds,hold,hocell⟩:=cells_rel r hA hmp 0 (vs:=cells) (fun i v h=>by simpa using h)
 obtain⟨c,T',fz,k1,k2,k3,k4,k5⟩:=(r.blk A _ hA).ex hmp
 obtain⟨_,hbase⟩:=r.own A _ hA rfl
 obtain⟨i,hi,e1,e2,e3⟩:=tinf_some hI
 subst e2 e3
 simp only at k3 k5
 rw[hbase]at hu k3 hocell
 simp only[Nat.add_zero]at hu hocell
 have hsz':=hsz (by omega)
 rw[hbase]at hsz'
 simp only[Nat.zero_add]at hsz'
 have hul:us.length=m*i.size:=by have:=hus.size;simp at this;omega
 have hol:olds.length=len*i.size:=by have:=hold.size;simp at this;omega
 have hone:=vrel_one hus h1
 have hAlt:=(List.getElem?_eq_some_iff.1 hA).1
 by_cases hroom:len+m≤cap
 ·have hfit:len*i.size+us.length≤c.size:=by
   rw[hul,k2,←Nat.add_mul];exact Nat.le_trans (Nat.mul_le_mul_right _ hroom) hsz'
  have hrun:=run_append_room' (P:=P) w T o.type E i hT hi (φ A).b len cap k1 (k4 rfl) _ m cap2 us hul hucell hone hroom hfit
  have hw:=wrote_setCells us w (φ A).b (len*i.size) c T' fz k1
  have key:=rel_set (w':=w.setCells (φ A).b (len*i.size) us) (g':=⟨cells++news,false⟩) (l':=φ A) r hA rfl hw.os hw.tape hw.output (by rw[hw.size];exact Nat.le_refl _) (fun k _ hk=>hw.oth k hk) (.inl rfl) hbase hmp hmp hw.block (by rw[size_writesA];exact k2)
   (by rw[size_writesA];simp only[List.length_append];omega) (by rw[size_writesA];exact k4 rfl) (by
    by_cases hm0:m=0
    ·subst hm0;exact .inl ⟨by simp at hl;simp[hl],rfl⟩
    ·refine .inr ?_
     simp only[List.length_append]
     have:0<m*i.size:=Nat.mul_pos (by omega) hs
     omega) (fun q v hq=>?_)
  ·refine⟨_,.slice (some ⟨(φ A).b,0,none⟩) (len+m) cap,_,key.1,key.2,?_,exec_append ho (by rw[hu,hu2];exact hrun)⟩
   refine .slc _ _ _ (n+m*i.size) _ _ _ _ ?_ (Nat.le_refl _) hroom hcm (fun _=>⟨by rw[yK,hbase],fun _=>by rw[yK,hbase];omega,by rw[yK];exact hmp⟩)
   rw[lens_set_eq hAlt];simp[hn,hl]
  ·have hext:Ext φ (lens H) (upd φ A (φ A)) (lens (H.set A (some ⟨cells++news,false⟩))):=by
    intro A' n' hn'
    by_cases e:A'=A
    ·subst e
     rw[lens_of hA]at hn'
     simp only[Option.some.injEq]at hn'
     refine⟨_,lens_set_eq hAlt,?_⟩
     simp only[List.length_append]
     by_cases hz0:news.length=0
     ·exact .inl ⟨by omega,by rw[yK]⟩
     ·exact .inr ⟨by omega,fun h=>by rw[hmp]at h;cases h⟩
    ·exact⟨n',by rw[lens_set_ne e];exact hn',.inl ⟨rfl,upd_ne e⟩⟩
   rw[get_writesA _ _ _ _ hfit]
   simp only at hq
   by_cases hql:q<cells.length
   ·rw[List.getElem?_append_left hql]at hq
    rw[if_neg (by omega)]
    obtain⟨v',g3,g4⟩:=k5 q v hq
    rw[hbase,Nat.zero_add]at g3
    exact⟨v',g3,g4.mono hext⟩
   ·rw[List.getElem?_append_right (by omega)]at hq
    obtain⟨v',g3,g4⟩:=hus.get _ v hq
    have hlt:=(Array.getElem?_eq_some_iff.1 g3).1
    simp only[List.size_toArray]at hlt
    refine⟨v',?_,g4.mono hext⟩
    rw[if_pos (by omega),hfull,←hn]
    simpa using g3
 ·have hrun:=run_append_grow (P:=P) w T o.type E i z hT hi e1 ⟨(φ A).b,0,none⟩ len cap olds hol (fun j v h=>hocell j v h) _ m cap2 us hul hucell (by omega)
   (by unfold maxLen at h63;omega) (growslice_fits (by omega) hb)
  have hge:len+m≤grownCap w (len+m) cap E:=grownCap_ge w _ _ _
  have hcs:(olds.toArray++us.toArray++Builtin.zeroCells z.cells (grownCap w (len+m) cap E-(len+m))).size=grownCap w (len+m) cap E*i.size:=by
   simp only[Array.size_append,List.size_toArray,size_zeroCells,hzs,hol,hul,←Nat.add_mul]
   congr 1;omega
  have hle:cells.length+news.length≤grownCap w (len+m) cap E*i.size:=by
   rw[hl,hn,←hfull,←Nat.add_mul];exact Nat.mul_le_mul_right _ hge
  have key:=rel_set (w':=w.drew.alloc (.cells (olds.toArray++us.toArray++Builtin.zeroCells z.cells (grownCap w (len+m) cap E-(len+m))) E)) (g':=⟨cells++news,false⟩)
   (l':=⟨w.heap.size,0,grownCap w (len+m) cap E*i.size,false⟩) (T:=E) (fz:=(0,0)) r hA rfl rfl rfl rfl (by simp) (fun k hk _=>by exact heap_alloc_old w.drew (.cells (olds.toArray++us.toArray++Builtin.zeroCells z.cells (grownCap w (len+m) cap E-(len+m))) E) hk) (.inr (Nat.le_refl _)) rfl rfl hmp
   (heap_alloc_new w.drew _) hcs (by simp only[List.length_append];rw[hcs];exact hle) (fun i _ h=>by simp at h) (by
    refine .inr ?_
    simp only[List.length_append]
    have:0<m*i.size:=Nat.mul_pos (by omega) hs
    omega) (fun q v hq=>?_)
  ·refine⟨_,.slice (some ⟨w.heap.size,0,none⟩) (len+m) (grownCap w (len+m) cap E),_,key.1,key.2,?_,exec_append ho (by rw[hu,hu2];exact hrun)⟩
   refine .slc _ _ _ (n+m*i.size) _ _ _ _ ?_ (Nat.le_refl _) hge (grownCap_le_maxLen w _ _ _ h63) (fun _=>⟨by rw[yK],fun _=>by rw[yK];simp,by rw[yK]⟩)
   rw[lens_set_eq hAlt];simp[hn,hl]
  ·have hext:Ext φ (lens H) (upd φ A ⟨w.heap.size,0,grownCap w (len+m) cap E*i.size,false⟩) (lens (H.set A (some ⟨cells++news,false⟩))):=by
    intro A' n' hn'
    by_cases e:A'=A
    ·subst e
     rw[lens_of hA]at hn'
     simp only[Option.some.injEq]at hn'
     refine⟨_,lens_set_eq hAlt,.inr ⟨?_,fun h=>by rw[hmp]at h;cases h⟩⟩
     simp only[List.length_append]
     have:0<m*i.size:=Nat.mul_pos (by omega) hs
     omega
    ·exact⟨n',by rw[lens_set_ne e];exact hn',.inl ⟨rfl,upd_ne e⟩⟩
   simp only at hq
   have hql:q<cells.length+news.length:=by have:=(List.getElem?_eq_some_iff.1 hq).1;simpa using this
   rw[Array.getElem?_append_left (by simp;omega)]
   rcases Nat.lt_or_ge q cells.length with h'|h'
   ·rw[List.getElem?_append_left h']at hq
    obtain⟨v',g3,g4⟩:=hold.get q v hq
    refine⟨v',?_,g4.mono hext⟩
    rw[Array.getElem?_append_left (by have:=hold.size;omega)];exact g3
   ·rw[List.getElem?_append_right h']at hq
    obtain⟨v',g3,g4⟩:=hus.get _ v hq
    refine⟨v',?_,g4.mono hext⟩
    rw[Array.getElem?_append_right (by have:=hold.size;omega)]
    have:=hold.size
    rw[this];exact g3

theorem e_append_nil (T:TypeId)(x y:Operand){A2 off2 n2 m fl2 E s b:Nat}{z:Value}{news:List Value}{g2:Blk}
  (ho:o.op=.call { callee:=.builtin .append,args:=#[x,y],argTypes:=#[T,T] }) (hx:ev a x=some (.slice none 0 0)) (hy:ev a y=some (gsl A2 off2 n2 m fl2))
  (hT:P.underlying T=some (.slice E)) (hI:tinf P E=some (some z,s,b)) (hzs:z.cells.size=s) (hs:0<s) (hA2:H[A2]?=some (some g2)) (hn2:g2.cells.length=n2)
  (hl:news.length=m*s) (hc:∀(i:Nat) v,news[i]?=some v→g2.cells[off2+i]?=some v)
  (hm:0<m) (hb:m*b≤281474976710656) (h63:m≤maxLen)
  {A0:Nat} {H':Heap} (hpl:Place H A0 H' ⟨news,false⟩):AEff P N o a H (gsl A0 0 (m*s) m s) H':=by
 refine eff_value (fun B0 w0 φ w ac r hf=>?_)
 obtain⟨cap2,hu2,_,_,_,hmp2⟩:=slc_cells r hA2 hn2 (zW hf hy)
 have hu:ac.eval x=.slice none 0 0:=Val.det rfl (zW hf hx)
 obtain⟨us,hus,hucell⟩:=cells_rel r hA2 hmp2 off2 hc
 obtain⟨i,hi,e1,e2,e3⟩:=tinf_some hI
 subst e2 e3
 have hul:us.length=m*i.size:=by have:=hus.size;simp at this;omega
 have hrun:=run_append_nil (P:=P) w T o.type E i z hT hi e1 _ m cap2 us hul hucell hm (by unfold maxLen at h63;omega) hb
 have hge:m≤grownCap w m 0 E:=grownCap_ge w _ _ _
 have hcs:(us.toArray++Builtin.zeroCells z.cells (grownCap w m 0 E-m)).size=grownCap w m 0 E*i.size:=by
  simp only[Array.size_append,List.size_toArray,size_zeroCells,hzs,hul,←Nat.add_mul]
  congr 1;omega
 obtain⟨g1,g2⟩:=rel_new (w':=w.drew.alloc (.cells (us.toArray++Builtin.zeroCells z.cells (grownCap w m 0 E-m)) E)) r (ro:=false) (fz:=(0,0)) hpl hus rfl rfl rfl rfl
  (by rw[hcs,List.size_toArray,hul];exact Nat.mul_le_mul_right _ hge) (fun q hq=>by rw[Array.getElem?_append_left hq]) (fun i _ h=>by simp at h)
 refine⟨_,.slice (some ⟨w.heap.size,0,none⟩) m (grownCap w m 0 E),_,g1,g2,?_,exec_append ho (by rw[hu,hu2];exact hrun)⟩
 refine .slc _ _ _ (m*i.size) _ _ _ _ ?_ (Nat.le_refl _) hge (grownCap_le_maxLen w _ _ _ h63) (fun _=>⟨by rw[yK],fun _=>by rw[yK];simp[hcs],by rw[yK]⟩)
 rw[hpl.lens];simp[hl]

theorem a_cut (T:TypeId)(x lo hi:Operand){A off n len fl E s b:Nat}{z:Option Value}{j k:IntKind}{i h:Int}(ho:o.op=.slice T x (some lo) (some hi) none)(hx:ev a x=some (gsl A off n len fl))
  (hlo:ev a lo=some (.int j i)) (hhi:ev a hi=some (.int k h)) (hT:P.underlying T=some (.slice E)) (hI:tinf P E=some (z,s,b)) (h1:0≤i∧i≤h∧h≤len) (h2:i<h∨i=0):APure P N o a H (gsl A (off+i.toNat*s) n (h-i).toNat 0):=by
 refine⟨fun B0 w0 φ w ac r hf=>?_⟩
 have hu:=zW hf hx
 have e2:=(zW hf hlo).scalar rfl
 have e3:=(zW hf hhi).scalar rfl
 generalize hv:ac.eval x=u at hu
 cases hu with
 |slc _ _ _ m _ _ cap c hL hle hc hm hh =>
  refine⟨.slice (some (c.add (i.toNat*s))) (h.toNat-i.toNat) (cap-i.toNat),?_,fun w _=>?_⟩
  ·rw[show h.toNat-i.toNat=(h-i).toNat from by omega]
   exact .slc _ _ _ m _ _ _ _ hL hle (by omega) (by omega) (fun e=>⟨by rw[(hh e).1,addr_add,Nat.add_assoc],fun q=>absurd rfl q,(hh e).2.2⟩)
  ·unfold execOp
   simp only[ho,hv,e2,e3,Instr.sliceAt,Instr.slice,Option.map_some,Option.map_none,Sem.run_bind,run_underlying hT,Result.andThen_ok,Instr.sliceBounds,Instr.sliceBound,asIntOf,Sem.run_pure,
    Sem.run_ite,if_pos (show 0≤h∧h≤(cap:Int)from⟨by omega,by omega⟩),if_pos (show 0≤i∧i≤(h.toNat:Int)from⟨h1.1,by omega⟩),run_sizeOf hI]
   congr 3
   split
   ·rename_i he
    have hi0:i.toNat=0:=by omega
    rw[hi0,Nat.zero_mul];simp[Addr.add]
   ·rfl

theorem a_cutfrom (T:TypeId)(x lo:Operand){A off n len fl E s b:Nat}{z:Option Value}{j:IntKind}{i:Int}(ho:o.op=.slice T x (some lo) none none)(hx:ev a x=some (gsl A off n len fl))
  (hlo:ev a lo=some (.int j i)) (hT:P.underlying T=some (.slice E)) (hI:tinf P E=some (z,s,b)) (h1:0≤i∧i≤len) (h2:i<len∨i=0):APure P N o a H (gsl A (off+i.toNat*s) n (len-i.toNat) 0):=by
 refine⟨fun B0 w0 φ w ac r hf=>?_⟩
 have hu:=zW hf hx
 have e2:=(zW hf hlo).scalar rfl
 generalize hv:ac.eval x=u at hu
 cases hu with
 |slc _ _ _ m _ _ cap c hL hle hc hm hh =>
  refine⟨.slice (some (c.add (i.toNat*s))) (len-i.toNat) (cap-i.toNat),?_,fun w _=>?_⟩
  ·exact .slc _ _ _ m _ _ _ _ hL hle (by omega) (by omega) (fun e=>⟨by rw[(hh e).1,addr_add,Nat.add_assoc],fun q=>absurd rfl q,(hh e).2.2⟩)
  ·unfold execOp
   simp only[ho,hv,e2,Instr.sliceAt,Instr.slice,Option.map_some,Option.map_none,Sem.run_bind,run_underlying hT,Result.andThen_ok,Instr.sliceBounds,Instr.sliceBound,asIntOf,Sem.run_pure,
    Sem.run_ite,if_pos (show 0≤i∧i≤(len:Int)from⟨h1.1,by omega⟩),run_sizeOf hI]
   congr 3
   split
   ·rename_i he
    have hi0:i.toNat=0:=by omega
    rw[hi0,Nat.zero_mul];simp[Addr.add]
   ·rfl

theorem a_cutto (T:TypeId)(x hi:Operand){A off n len fl E s b:Nat}{z:Option Value}{k:IntKind}{h:Int}(ho:o.op=.slice T x none (some hi) none)(hx:ev a x=some (gsl A off n len fl))
  (hhi:ev a hi=some (.int k h)) (hT:P.underlying T=some (.slice E)) (hI:tinf P E=some (z,s,b)) (h1:0≤h∧h≤len):APure P N o a H (gsl A off n h.toNat 0):=by
 refine⟨fun B0 w0 φ w ac r hf=>?_⟩
 have hu:=zW hf hx
 have e3:=(zW hf hhi).scalar rfl
 generalize hv:ac.eval x=u at hu
 cases hu with
 |slc _ _ _ m _ _ cap c hL hle hc hm hh =>
  refine⟨.slice (some c) h.toNat cap,.slc _ _ _ m _ _ _ _ hL hle (by omega) (by omega) (fun e=>⟨(hh e).1,fun q=>absurd rfl q,(hh e).2.2⟩),fun w _=>?_⟩
  unfold execOp
  simp only[ho,hv,e3,Instr.sliceAt,Instr.slice,Option.map_some,Option.map_none,Sem.run_bind,run_underlying hT,Result.andThen_ok,Instr.sliceBounds,Instr.sliceBound,asIntOf,Sem.run_pure,
   Sem.run_ite,if_pos (show 0≤h∧h≤(cap:Int)from⟨by omega,by omega⟩),run_sizeOf hI,Nat.zero_mul]
  simp[Addr.add]

theorem a_cutend (T:TypeId)(x lo:Operand){A off n len fl E s b:Nat}{z:Option Value}{j:IntKind}{i:Int}(ho:o.op=.slice T x (some lo) none none)(hx:ev a x=some (gsl A off n len fl))
  (hlo:ev a lo=some (.int j i)) (hT:P.underlying T=some (.slice E)) (hI:tinf P E=some (z,s,b)) (h1:i=len):APure P N o a H sempty:=by
 refine⟨fun B0 w0 φ w ac r hf=>?_⟩
 have hu:=zW hf hx
 have e2:=(zW hf hlo).scalar rfl
 generalize hv:ac.eval x=u at hu
 cases hu with
 |slc _ _ _ m _ _ cap c hL hle hc hm hh =>
  refine⟨.slice (some (if cap=i.toNat then c else c.add (i.toNat*s))) 0 (cap-i.toNat),.sdead _ _ (by omega),fun w _=>?_⟩
  unfold execOp
  simp only[ho,hv,e2,Instr.sliceAt,Instr.slice,Option.map_some,Option.map_none,Sem.run_bind,run_underlying hT,Result.andThen_ok,Instr.sliceBounds,Instr.sliceBound,asIntOf,Sem.run_pure,
   Sem.run_ite,if_pos (show 0≤i∧i≤(len:Int)from⟨by omega,by omega⟩),run_sizeOf hI]
  congr 3
  ·split <;> rfl
  ·omega

theorem a_arrall (T:TypeId)(x:Operand){A off n len E s b:Nat}{z:Option Value}(ho:o.op=.slice T x none none none)(hx:ev a x=some (gptr A off n))
  (hT:P.underlying T=some (.array len E)) (hI:tinf P E=some (z,s,b)) (hm:len≤maxLen):APure P N o a H (gsl A off n len 0):=by
 refine⟨fun B0 w0 φ w ac r hf=>?_⟩
 have hu:=zW hf hx
 generalize hv:ac.eval x=u at hu
 cases hu with
 |ptr _ _ _ q c hL hle hh =>
  refine⟨.slice (some c) len len,.slc _ _ _ q _ _ _ _ hL hle (Nat.le_refl _) hm (fun e=>⟨(hh e).1,fun q=>absurd rfl q,(hh e).2⟩),fun w _=>?_⟩
  unfold execOp
  simp only[ho,hv,Instr.sliceAt,Option.map_none,Sem.run_bind,run_underlying hT,Result.andThen_ok,Instr.sureAddr,Instr.sliceBounds,Sem.run_pure,run_sizeOf hI,Nat.zero_mul]
  simp[Addr.add]

theorem a_arrto (T:TypeId)(x y:Operand){A off n len E s b:Nat}{z:Option Value}{k:IntKind}{h:Int}(ho:o.op=.slice T x none (some y) none)(hx:ev a x=some (gptr A off n))(hy:ev a y=some (.int k h))
  (hT:P.underlying T=some (.array len E)) (hI:tinf P E=some (z,s,b)) (h1:0≤h∧h≤len) (hm:len≤maxLen):APure P N o a H (gsl A off n h.toNat 0):=by
 refine⟨fun B0 w0 φ w ac r hf=>?_⟩
 have hu:=zW hf hx
 have e3:=(zW hf hy).scalar rfl
 generalize hv:ac.eval x=u at hu
 cases hu with
 |ptr _ _ _ q c hL hle hh =>
  refine⟨.slice (some c) h.toNat len,.slc _ _ _ q _ _ _ _ hL hle (by omega) hm (fun e=>⟨(hh e).1,fun q=>absurd rfl q,(hh e).2⟩),fun w _=>?_⟩
  unfold execOp
  simp only[ho,hv,e3,Instr.sliceAt,Option.map_none,Option.map_some,Sem.run_bind,run_underlying hT,Result.andThen_ok,Instr.sureAddr,Instr.sliceBounds,Instr.sliceBound,asIntOf,Sem.run_pure,
   Sem.run_ite,if_pos h1,run_sizeOf hI,Nat.zero_mul]
  simp[Addr.add]

abbrev byteV (b:UInt8):Value:=.int .u8 b.toNat
abbrev bytesV (l:List UInt8):List Value:=l.map byteV

theorem foldl_bytes (l:List UInt8)(r:ByteArray):(l.map fun b=>(b.toNat:Int)).foldl (fun r n=>r.push (UInt8.ofNat n.toNat)) r=⟨⟨r.data.toList++l⟩⟩:=by
 induction l generalizing r with
 |nil=>cases r;simp
 |cons b l ih =>
  simp only[List.map_cons,List.foldl_cons]
  rw[ih]
  congr 2
  show(r.data.push _).toList++l=_
  simp

theorem a_toString (T U:TypeId)(x:Operand){A off n len fl E:Nat}{g:Blk}{l:List UInt8}(ho:o.op=.convert T U x)(hx:ev a x=some (gsl A off n len fl))
  (hT:P.underlying T=some (.slice E)) (hE:P.underlying E=some (.int .u8)) (hU:P.underlying U=some .string) (hA:H[A]?=some (some g)) (hn:g.cells.length=n)
  (hl:l.length=len) (hc:∀(i:Nat) v,(bytesV l)[i]?=some v→g.cells[off+i]?=some v):APure P N o a H (S l):=by
 refine⟨fun B0 w0 φ w ac r hf=>?_⟩
 obtain⟨cap,hu,hlc,hcm,hsz,hmp⟩:=slc_cells r hA hn (zW hf hx)
 obtain⟨us,hus,hucell⟩:=cells_rel r hA hmp off hc
 have hus':us=bytesV l:=by
  apply List.ext_getElem?
  intro i
  cases hb:(bytesV l)[i]? with
  |none=>have:=hus.size;simp at this hb;simp;omega
  |some v =>
   obtain⟨v',g1,g2⟩:=hus.get i v hb
   have hv:scalar v=true:=by
    have:=(List.getElem?_eq_some_iff.1 hb).2
    simp at this
    rw[←this];rfl
   rw[g2.scalar hv]at g1
   simpa using g1
 subst hus'
 refine⟨S l,.str _,fun w1 hb=>?_⟩
 have hload:=run_loadCells_list (P:=P) w1 _ _ (cells_later r hA _ hb hucell)
 rw[List.length_map,hl]at hload
 have hrun:=run_bytesToString (P:=P) w1 _ len cap (l.map fun b=>(b.toNat:Int)) (by rw[hload,List.map_map];rfl)
 rw[foldl_bytes]at hrun
 unfold execOp
 simp only[ho,hu,convert,Sem.run_bind,run_underlying hT,run_underlying hU,run_underlying hE,Result.andThen_ok,hrun,Sem.run_pure]
 rfl

theorem a_toString_nil (T U:TypeId)(x:Operand){E:Nat}(ho:o.op=.convert T U x)(hx:ev a x=some (.slice none 0 0))
  (hT:P.underlying T=some (.slice E)) (hE:P.underlying E=some (.int .u8)) (hU:P.underlying U=some .string):APure P N o a H (S []):=by
 refine⟨fun B0 w0 φ w ac r hf=>?_⟩
 have hu:ac.eval x=.slice none 0 0:=Val.det rfl (zW hf hx)
 refine⟨S [],.str _,fun w _=>?_⟩
 unfold execOp
 simp only[ho,hu,convert,Sem.run_bind,run_underlying hT,run_underlying hU,run_underlying hE,Result.andThen_ok,Conv.bytesToString,Sem.run_pure]
 rfl

theorem e_toBytes (T U:TypeId)(x:Operand){E:Nat}{l:List UInt8}(ho:o.op=.convert T U x)(hx:ev a x=some (S l))
  (hT:P.underlying T=some .string) (hU:P.underlying U=some (.slice E)) (hE:P.underlying E=some (.int .u8)) (h63:l.length≤maxLen)
  {A0:Nat} {H':Heap} (hpl:Place H A0 H' ⟨bytesV l,false⟩):AEff P N o a H (gsl A0 0 l.length l.length 1) H':=by
 refine eff_value (fun B0 w0 φ w ac r hf=>?_)
 have hu:=(zW hf hx).scalar rfl
 have hrun:=run_bytes_of_string (P:=P) w T U E ⟨⟨l⟩⟩ hT hU hE
 have hs:(⟨⟨l⟩⟩:ByteArray).size=l.length:=rfl
 rw[hs]at hrun
 have hge:l.length≤grownCap w l.length 0 E:=grownCap_ge w _ _ _
 have hrow:bytesRow ⟨⟨l⟩⟩ (grownCap w l.length 0 E)=(bytesV l).toArray++Array.replicate (grownCap w l.length 0 E-l.length) (.int .u8 0):=by
  unfold bytesRow
  rw[hs]
  congr 1
  simp
 have hsz:(bytesRow ⟨⟨l⟩⟩ (grownCap w l.length 0 E)).size=grownCap w l.length 0 E:=by rw[hrow];simp;omega
 have hv:VRel φ (lens H) (bytesV l) (bytesV l).toArray:=⟨by simp,fun i v hi=>⟨v,by simpa using hi,by
  have:=(List.getElem?_eq_some_iff.1 hi).2
  simp at this
  rw[←this];exact .int _ _⟩⟩
 obtain⟨g1,g2⟩:=rel_new (w':=w.drew.alloc (.cells (bytesRow ⟨⟨l⟩⟩ (grownCap w l.length 0 E)) E ((bytesRow ⟨⟨l⟩⟩ (grownCap w l.length 0 E)).size,(bytesRow ⟨⟨l⟩⟩ (grownCap w l.length 0 E)).size+1))) r (ro:=false) hpl hv rfl rfl rfl rfl
  (by rw[hsz];simpa using hge) (fun q hq=>by rw[hrow,Array.getElem?_append_left hq]) (fun q hq h=>by simp only at h;omega)
 refine⟨_,.slice (some ⟨w.heap.size,0,none⟩) l.length (grownCap w l.length 0 E),_,g1,g2,?_,?_⟩
 ·refine .slc _ _ _ l.length _ _ _ _ ?_ (Nat.le_refl _) hge (grownCap_le_maxLen w _ _ _ h63) (fun _=>⟨by rw[yK],fun _=>by rw[yK];simp[hsz],by rw[yK]⟩)
  rw[hpl.lens];simp
 ·unfold execOp
  simp only[ho,hu,Sem.run_bind,hrun,Result.andThen_ok,Sem.run_pure]

end

theorem Rel.later {B0:Nat}{w0:World}{φ:Nat→Loc}{H:Heap}{w w1:World}(r:Rel B0 w0 φ H w)(hb:Below w.heap.size w w1):Rel B0 w0 φ H w1:=by
 refine⟨r.below.trans (hb.mono (Nat.le_trans r.b0 r.below.size)),r.b0,fun A g hA=>?_,r.own,r.inj,r.gw⟩
 obtain⟨o,c,h1,h2⟩:=(r.blk A g hA).any
 exact⟨o,c,by rw[hb.block _ (r.lt hA)];exact h1,h2⟩

def Blk.lock (g:Blk):Blk:=⟨g.cells,true⟩
def lock (H:Heap):Heap:=H.map (Option.map Blk.lock)
theorem lens_lock (H:Heap):lens (lock H)=lens H:=by
 funext A
 simp only[lens,lock,List.getElem?_map]
 cases H[A]? with
 |none=>rfl
 |some x=>cases x <;> rfl
theorem get_lock {H:Heap}{A:Nat}{g:Blk}(h:H[A]?=some (some g)):(lock H)[A]?=some (some g.lock):=by simp[lock,h]

theorem Rel.locked {B0:Nat}{w0:World}{φ:Nat→Loc}{H:Heap}{w:World}(r:Rel B0 w0 φ H w):Rel w.heap.size w φ (lock H) w:=by
 have key:∀(A:Nat) (g:Blk),(lock H)[A]?=some (some g)→g.ro=true∧∃g',H[A]?=some (some g')∧g.cells=g'.cells:=by
  intro A g hA
  simp only[lock,List.getElem?_map]at hA
  cases h:H[A]? with
  |none=>rw[h]at hA;cases hA
  |some x =>
   cases x with
   |none=>rw[h]at hA;cases hA
   |some g' =>
    rw[h]at hA
    simp only[Option.map_some,Option.some.injEq]at hA
    subst hA
    exact⟨rfl,g',rfl,rfl⟩
 refine⟨Below.refl _ _,Nat.le_refl _,fun A g hA=>?_,fun A g hA hro=>?_,fun A A' g _ hA hro=>?_,r.gw.on r.below (Nat.le_trans r.b0 r.below.size)⟩
 ·obtain⟨hro,g',h1,h2⟩:=key A g hA
  obtain⟨o,c,k1,k2,k3,k5⟩:=(r.blk A g' h1).any
  refine⟨o,c,k1,?_,by rw[h2];exact k3,by rw[h2,lens_lock];exact k5⟩
  cases k2 with
  |cells hm hs hf=>exact .cells hm hs fun h=>by rw[hro]at h;cases h
  |map hm hb hl=>exact .map hm hb (by rw[h2];exact hl)
 ·rw[(key A g hA).1]at hro;cases hro
 ·rw[(key A g hA).1]at hro;cases hro

section
variable {P:Program} {N:Fr} {ops:Array Oper} {rest:List Oper} {o:Oper} {a:AF} {H:Heap}

variable {Q:AF→Prop}

end

section
variable {P:Program} {N:Fr} {o:Oper} {a:AF} {H:Heap}

end

end Go.Gh
end
