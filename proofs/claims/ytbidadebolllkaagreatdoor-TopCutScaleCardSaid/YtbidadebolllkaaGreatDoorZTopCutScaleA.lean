/- Part 1 of the proof of the law TopCutScale: texts merged. No condition. -/
import Derived.WalkKit
import Derived.Lib.AppendIntMem
import Derived.Lib.LaidTab
import Derived.Test.YtbidadebolllkaaGreatDoorProg
import Derived.BigQuiet
import Derived.Deep.QuietTactic
import Derived.TacticsIn
set_option linter.unusedSimpArgs false
set_option linter.unusedVariables false
section
set_option maxRecDepth 4000
namespace Go.Gh
open Go.RowKit

def GW (B:Nat)(w:World):Prop:=Lib.TabBelow Go.Proofs.Tryz.prog B w "internal/strconv.uint64pow10" .u64 Lib.pow10Tab
theorem GW.on {B0:Nat}{w0 w:World}(h:GW B0 w0)(hb:Below B0 w0 w)(hle:B0<=w.heap.size):GW w.heap.size w:=λw' hb'=>(Lib.TabBelow.on h hb) w' (hb'.mono hle)
def qY :Code->List (Array Tmp × Code × Code)
 |.seq a b=>qY a++qY b
 |.cond _ a b=>qY a++qY b
 |.block _ c=>qY c
 |.loop c=>qY c
 |.scope c=>qY c
 |.rangeFunc _ ps a c=>[(ps,a,c)]
 |_=>[]
noncomputable def vO (d:Nat):Array Tmp × Code × Code × Nat:=match Go.Proofs.Tryz.prog.funcs[d]? with
 |some fn=>match fn.body with
  |some c=>match qY c with
   |(ps,a,b)::_=>(ps,a,b,fn.ntmps)
   |[]=>(#[],.skip,.skip,0)
  |none=>(#[],.skip,.skip,0)
 |none=>(#[],.skip,.skip,0)

structure Loc where
 b:Nat
 base:Nat
 size:Nat
 mp:Bool

structure Mk where
 b:Bool
 ty:Option TypeId
instance :Coe Bool Mk:=⟨λb=>⟨b,none⟩⟩
structure Blk where
 cells:List Value
 ro:Mk

structure Fi where
 f:Nat->Loc
 mks:List Nat
instance :CoeFun Fi (λ_=>Nat->Loc):=⟨Fi.f⟩

abbrev zI :=List (Option Blk)
abbrev zP :=Nat->Option Nat
def lens (H:zI):zP:=λA=>((H[A]?).join).map (·.cells.length)

inductive Val (φ:Fi)(L:zP):Value->Value->Prop
 |bool (b:Bool):Val φ L (.bool b) (.bool b)
 |int (k:IntKind) (n:Int):Val φ L (.int k n) (.int k n)
 |str (s:ByteArray):Val φ L (.string s) (.string s)
 |pnil:Val φ L (.pointer none) (.pointer none)
 |ptr (A o v n:Nat) (c:Addr) (hL:L A=some n) (hv:v<=n) (h:v=n->c=⟨(φ A).b,(φ A).base+o,none⟩/\(φ A).mp=false) :
   Val φ L (.pointer (some ⟨A,o,some v⟩)) (.pointer (some c))
 |snil:Val φ L (.slice none 0 0) (.slice none 0 0)
 |slc (A o v n len fl cap:Nat) (c:Addr) (hL:L A=some n) (hv:v<=n) (hc:len<=cap) (hm:cap<=maxLen)
   (h:v=n->c=⟨(φ A).b,(φ A).base+o,none⟩/\(fl≠0->(φ A).base+o+cap*fl<=(φ A).size)/\(φ A).mp=false) :
   Val φ L (.slice (some ⟨A,o,some v⟩) len fl) (.slice (some c) len cap)
 |sdead (c:Addr) (cap:Nat) (hm:cap<=maxLen):Val φ L (.slice (some ⟨0,0,none⟩) 0 0) (.slice (some c) 0 cap)
 |full (A o v n len:Nat) (c:Addr) (hL:L A=some n) (hv:v<=n) (hm:len<=maxLen) (h:v=n->c=⟨(φ A).b,(φ A).base+o,none⟩/\(φ A).mp=false) :
   Val φ L (.slice (some ⟨A,o,none⟩) len (v+1)) (.slice (some c) len len)
 |map (A n r:Nat) (hL:L A=some n) (h:((φ A).mp=true/\(φ A).size=0)/\r=(φ A).b):Val φ L (.map (some A)) (.map (some r))
 |yld (A n r:Nat) (hL:L A=some n) (h:((φ A).mp=true/\(φ A).size=1)/\r=(φ A).b):Val φ L (.chan (some A)) (.func (.yield r) #[] #[])
 |itr (A n r:Nat) (hL:L A=some n) (h:((φ A).mp=true/\((φ A).size=2\/(φ A).size=3))/\r=(φ A).b):Val φ L (.complex .f64 A 0) (.pointer (some ⟨r,0,none⟩))
 |bag (A n r:Nat) (hL:L A=some n) (h:((φ A).mp=true/\(φ A).size=4)/\r=(φ A).b):Val φ L (.complex .f32 A 0) (.map (some r))
 |mnil:Val φ L (.map none) (.map none)
 |func (f:Fn) (a b c d:Array Value) (h1:a.size=b.size) (h2:∀i (h:i<a.size) (h':i<b.size),Val φ L a[i] b[i])
   (h3:c.size=d.size) (h4:∀i (h:i<c.size) (h':i<d.size),Val φ L c[i] d[i]):Val φ L (.func f a c) (.func f b d)
 |fnil:Val φ L .nilFunc .nilFunc
 |inil:Val φ L .nilIface .nilIface
 |iface (t:TypeId) (v v':Value) (h:Val φ L v v'):Val φ L (.iface t v) (.iface t v')
 |agg (a b:Array Value) (h1:a.size=b.size) (h2:∀i (h:i<a.size) (h':i<b.size),Val φ L a[i] b[i]):Val φ L (.agg a) (.agg b)
 |tuple (a b:Array Value) (h1:a.size=b.size) (h2:∀i (h:i<a.size) (h':i<b.size),Val φ L a[i] b[i]):Val φ L (.tuple a) (.tuple b)

def uK (φ:Fi)(L:zP)(φ':Fi)(L':zP):Prop :=
 ∀A n,L A=some n->∃n',L' A=some n'/\((n'=n/\φ' A=φ A)\/(n<n'/\((φ A).mp=true->φ' A=φ A)))
structure Ext (φ:Fi)(L:zP)(φ':Fi)(L':zP):Prop where
 at_:uK φ L φ' L'
 mks:∀D∈φ.mks,D∈φ'.mks

theorem Ext.refl (φ:Fi)(L:zP):Ext φ L φ L:=⟨λ_ n h=>⟨n,h,.inl ⟨rfl,rfl⟩⟩,λ_ h=>h⟩
theorem uK.refl (φ:Fi)(L:zP):uK φ L φ L:=λ_ n h=>⟨n,h,.inl ⟨rfl,rfl⟩⟩

theorem uK.trans {φ φ' φ'':Fi}{L L' L'':zP}(h:uK φ L φ' L')(k:uK φ' L' φ'' L''):uK φ L φ'' L'':=by
 intro A n hn;obtain⟨n',h1,h2⟩:=h A n hn;obtain⟨n'',h3,h4⟩:=k A n' h1;refine⟨n'',h3,?_⟩;rcases h2 with⟨rfl,e⟩|⟨h2,e⟩
 ·rcases h4 with⟨rfl,e'⟩|⟨h4,e'⟩
  ·exact .inl ⟨rfl,e'.trans e⟩
  ·exact .inr ⟨h4,λhm=>(e' (by rw[e];exact hm)).trans e⟩
 ·rcases h4 with⟨rfl,e'⟩|⟨h4,e'⟩
  ·exact .inr ⟨h2,λhm=>e'.trans (e hm)⟩
  ·exact .inr ⟨by omega,λhm=>(e' (by rw[e hm];exact hm)).trans (e hm)⟩
theorem Ext.trans {φ φ' φ'':Fi}{L L' L'':zP}(h:Ext φ L φ' L')(k:Ext φ' L' φ'' L''):Ext φ L φ'' L'':=⟨h.at_.trans k.at_,λD hD=>k.mks D (h.mks D hD)⟩

theorem Val.monoF {φ φ':Fi}{L L':zP}(e:uK φ L φ' L'){v v':Value}(h:Val φ L v v'):Val φ' L' v v':=by
 induction h with
 |bool b=>exact .bool b
 |int k n=>exact .int k n
 |str s=>exact .str s
 |pnil=>exact .pnil
 |ptr A o v n c hL hv h =>
  obtain⟨n',h1,h2⟩:=e A n hL;rcases h2 with⟨rfl,e'⟩|⟨h2,_⟩
  ·exact .ptr A o v n' c h1 hv (λq=>by rw[e'];exact h q)
  ·exact .ptr A o v n' c h1 (by omega) (λq=>by omega)
 |snil=>exact .snil
 |slc A o v n len fl cap c hL hv hc hm h =>
  obtain⟨n',h1,h2⟩:=e A n hL;rcases h2 with⟨rfl,e'⟩|⟨h2,_⟩
  ·exact .slc A o v n' len fl cap c h1 hv hc hm (λq=>by rw[e'];exact h q)
  ·exact .slc A o v n' len fl cap c h1 (by omega) hc hm (λq=>by omega)
 |full A o v n len c hL hv hm h =>
  obtain⟨n',h1,h2⟩:=e A n hL;rcases h2 with⟨rfl,e'⟩|⟨h2,_⟩
  ·exact .full A o v n' len c h1 hv hm (λq=>by rw[e'];exact h q)
  ·exact .full A o v n' len c h1 (by omega) hm (λq=>by omega)
 |map A n r hL h =>
  obtain⟨n',h1,h2⟩:=e A n hL;rcases h2 with⟨rfl,e'⟩|⟨h2,e'⟩
  ·exact .map A n' r h1 (by rw[e'];exact h)
  ·exact .map A n' r h1 (by rw[e' h.1.1];exact h)
 |yld A n r hL h =>
  obtain⟨n',h1,h2⟩:=e A n hL;rcases h2 with⟨rfl,e'⟩|⟨h2,e'⟩
  ·exact .yld A n' r h1 (by rw[e'];exact h)
  ·exact .yld A n' r h1 (by rw[e' h.1.1];exact h)
 |itr A n r hL h =>
  obtain⟨n',h1,h2⟩:=e A n hL;rcases h2 with⟨rfl,e'⟩|⟨h2,e'⟩
  ·exact .itr A n' r h1 (by rw[e'];exact h)
  ·exact .itr A n' r h1 (by rw[e' h.1.1];exact h)
 |bag A n r hL h =>
  obtain⟨n',h1,h2⟩:=e A n hL;rcases h2 with⟨rfl,e'⟩|⟨h2,e'⟩
  ·exact .bag A n' r h1 (by rw[e'];exact h)
  ·exact .bag A n' r h1 (by rw[e' h.1.1];exact h)
 |sdead c cap hm=>exact .sdead c cap hm
 |mnil=>exact .mnil
 |func f a b c d h1 _ h3 _ ih1 ih2=>exact .func f a b c d h1 ih1 h3 ih2
 |fnil=>exact .fnil
 |inil=>exact .inil
 |iface t v v' _ ih=>exact .iface t v v' ih
 |agg a b h1 _ ih=>exact .agg a b h1 ih
 |tuple a b h1 _ ih=>exact .tuple a b h1 ih
theorem Val.mono {φ φ':Fi}{L L':zP}(e:Ext φ L φ' L'){v v':Value}(h:Val φ L v v'):Val φ' L' v v':=h.monoF e.at_

def yB :Value->Bool
 |.bool _|.int _ _|.string _|.pointer none|.slice none 0 0|.map none|.nilFunc|.nilIface=>true
 |.iface _ (.int _ _)|.iface _ (.string _)=>true
 |.agg cs=>cs.toList.all fun
  |.bool _|.int _ _|.string _|.pointer none|.slice none 0 0|.map none|.nilFunc|.nilIface=>true
  |_=>false
 |.tuple cs=>cs.toList.all fun
  |.bool _|.int _ _|.string _|.pointer none|.slice none 0 0|.map none|.nilFunc|.nilIface=>true
  |_=>false
 |_=>false

theorem Val.const1 {φ:Fi}{L:zP}{v:Value}
  (h:(match v with
   |.bool _|.int _ _|.string _|.pointer none|.slice none 0 0|.map none|.nilFunc|.nilIface=>true
   |_=>false)=true):Val φ L v v:=by
 split at h <;> first|cases h|skip
 ·exact .bool _
 ·exact .int _ _
 ·exact .str _
 ·exact .pnil
 ·exact .snil
 ·exact .mnil
 ·exact .fnil
 ·exact .inil

theorem Val.const {φ:Fi}{L:zP}{v:Value}(h:yB v=true):Val φ L v v:=by
 unfold yB at h;split at h
 ·exact .bool _
 ·exact .int _ _
 ·exact .str _
 ·exact .pnil
 ·exact .snil
 ·exact .mnil
 ·exact .fnil
 ·exact .inil
 ·exact .iface _ _ _ (.int _ _)
 ·exact .iface _ _ _ (.str _)
 ·rename_i cs
  refine .agg cs cs rfl λi h1 h2=>Val.const1 ?_;exact(List.all_eq_true.1 h) cs[i] (Array.mem_toList_iff.2 (Array.getElem_mem h1))
 ·rename_i cs
  refine .tuple cs cs rfl λi h1 h2=>Val.const1 ?_;exact(List.all_eq_true.1 h) cs[i] (Array.mem_toList_iff.2 (Array.getElem_mem h1))
 ·cases h

def scalar :Value->Bool
 |.bool _|.int _ _|.string _=>true
 |_=>false
theorem Val.scalar {φ:Fi}{L:zP}{v v':Value}(h:Val φ L v v')(hs:scalar v=true):v'=v:=by
 cases h <;> first|rfl|cases hs

theorem Val.det {φ:Fi}{L:zP}{v v':Value}(hs:yB v=true)(h:Val φ L v v'):v'=v:=by
 have one:∀{u u':Value},Val φ L u u'->(match u with
   |.bool _|.int _ _|.string _|.pointer none|.slice none 0 0|.map none|.nilFunc|.nilIface=>true
   |_=>false)=true->u'=u:=by
  intro u u' h hu;cases h <;> first|rfl|(simp at hu)
 have arr:∀{a b:Array Value},a.size=b.size->(∀i (h:i<a.size) (h':i<b.size),Val φ L a[i] b[i])->(a.toList.all fun
  |.bool _|.int _ _|.string _|.pointer none|.slice none 0 0|.map none|.nilFunc|.nilIface=>true
  |_=>false)=true->b=a:=by
  intro a b h1 h2 h3;refine Array.ext h1.symm λi hi hi'=>?_;exact one (h2 i hi' hi) ((List.all_eq_true.1 h3) a[i] (Array.mem_toList_iff.2 (Array.getElem_mem hi')))
 cases h with
 |agg a b h1 h2=>rw[arr h1 h2 hs]
 |tuple a b h1 h2=>rw[arr h1 h2 hs]
 |iface t w w' h =>
  cases h <;> first|rfl|(simp[yB]at hs)
 |_=>first|rfl|(simp[yB]at hs)

def vZ (es:List MapEntry):List Value:=es.flatMap λe=>[e.key,e.val]
theorem bF :∀(es:List MapEntry),(vZ es).length=2*es.length
 |[]=>rfl
 |e::es=>by have:=bF es;simp only[vZ,List.flatMap_cons,List.length_append,List.length_cons,List.length_nil]at this ⊢;omega
def qR :Option Code->Value
 |none=>.int .i64 0
 |some .ret=>.int .i64 1
 |some (.exit id)=>.int .i64 (2+id)
 |some _=>.bool false
def stV :LoopState->Value
 |.ready=>.int .i64 0
 |.busy=>.int .i64 1
 |.done=>.int .i64 2
 |.exhausted=>.int .i64 3
def sE (r:Loop)(d:Nat)(ts:List Nat):List Value:=stV r.state::.int .i64 d::qR r.pending::ts.flatMap λ(t:Nat)=>[.int .i64 (t:Int),r.tmps.getD t undef]
def tL (es:Array MapEntry)(clock:Nat):Prop:=clock=es.size/\∀(i:Nat) e,es[i]?=some e->e.born=i
inductive uB (l:Loc)(g:Blk):Obj->Array Value->Prop
 |cells {c T fz} (hm:l.mp=false) (hs:c.size=l.size) (hf:g.ro.b=false->∀i,i<c.size->¬(fz.1<=i/\i<fz.2)) (ht:∀t,g.ro.ty=some t->T=t):uB l g (.cells c T fz) c
 |map {es clock} (hm:l.mp=true) (hb:l.base=0) (hl:g.cells.length=2*es.size) (hz:l.size=0) (hn:tL es clock):uB l g (.map es clock) (vZ es.toList).toArray
 |loop {r} {d:Nat} {ts:List Nat} (hm:l.mp=true) (hb:l.base=0) (hz:l.size=1) (hd:vO d=(r.params,r.assign,r.body,r.tmps.size)) (ht:∀t∈ts,t<r.tmps.size):uB l g (.loop r) (sE r d ts).toArray
 |siter {s pos} (hm:l.mp=true) (hb:l.base=0) (hz:l.size=2):uB l g (.stringIter s pos) #[.string s,.int .i64 pos]
 |miter {m since seen last} (hm:l.mp=true) (hb:l.base=0) (hz:l.size=3):uB l g (.mapIter m since seen last) #[.map m,.int .i64 since,.agg (seen.map λ(x:Nat)=>.int .i64 (x:Int)),.int .i64 last]
 |bag {es es' clock} (hm:l.mp=true) (hb:l.base=0) (hz:l.size=4) (hl:g.cells.length=2*es'.length) (hp:es'.Perm es.toList) (hd:es'.Pairwise λx y=>x.key≠y.key) (hk:∀e∈es',∃s,e.key=.string s):uB l g (.map es clock) (vZ es').toArray
structure nB (φ:Fi)(L:zP)(g:Blk)(l:Loc)(w:World):Prop where
 any:∃o c,w.heap[l.b]?=some o/\uB l g o c/\l.base+g.cells.length<=c.size/\∀i v,g.cells[i]?=some v->∃v',c[l.base+i]?=some v'/\Val φ L v v'
theorem nB.ex {φ:Fi}{L:zP}{g:Blk}{l:Loc}{w:World}(h:nB φ L g l w)(hm:l.mp=false) :
  ∃c T fz,w.heap[l.b]?=some (.cells c T fz)/\c.size=l.size/\l.base+g.cells.length<=c.size/\(g.ro.b=false->∀i,i<c.size->¬(fz.1<=i/\i<fz.2)) /\
  ∀i v,g.cells[i]?=some v->∃v',c[l.base+i]?=some v'/\Val φ L v v':=by
 obtain⟨o,c,h1,h2,h3,h4⟩:=h.any;cases h2 with
 |cells _ hs hf _=>exact⟨_,_,_,h1,hs,h3,hf,h4⟩
 |map hm'=>rw[hm]at hm';cases hm'
 |loop hm'=>rw[hm]at hm';cases hm'
 |siter hm'=>rw[hm]at hm';cases hm'
 |miter hm'=>rw[hm]at hm';cases hm'
 |bag hm'=>rw[hm]at hm';cases hm'

theorem nB.exT {φ:Fi}{L:zP}{g:Blk}{l:Loc}{w:World}(h:nB φ L g l w)(hm:l.mp=false) :
  ∃c T fz,w.heap[l.b]?=some (.cells c T fz)/\c.size=l.size/\l.base+g.cells.length<=c.size/\(g.ro.b=false->∀i,i<c.size->¬(fz.1<=i/\i<fz.2)) /\
  (∀i v,g.cells[i]?=some v->∃v',c[l.base+i]?=some v'/\Val φ L v v')/\∀t,g.ro.ty=some t->T=t:=by
 obtain⟨o,c,h1,h2,h3,h4⟩:=h.any;cases h2 with
 |cells _ hs hf ht=>exact⟨_,_,_,h1,hs,h3,hf,h4,ht⟩
 |map hm'=>rw[hm]at hm';cases hm'
 |loop hm'=>rw[hm]at hm';cases hm'
 |siter hm'=>rw[hm]at hm';cases hm'
 |miter hm'=>rw[hm]at hm';cases hm'
 |bag hm'=>rw[hm]at hm';cases hm'

structure Rel (B0:Nat)(w0:World)(φ:Fi)(H:zI)(w:World):Prop where
 below:Below B0 w0 w
 b0:B0<=w0.heap.size
 blk:∀A g,H[A]?=some (some g)->nB φ (lens H) g (φ A) w
 own:∀A g,H[A]?=some (some g)->g.ro.b=false->B0<=(φ A).b/\(φ A).base=0
 inj:∀A A' g g',H[A]?=some (some g)->g.ro.b=false->H[A']?=some (some g')->(φ A').b=(φ A).b->A'=A
 gw:GW B0 w0
 mks:∀D∈φ.mks,w.heap[D]?=some (.deferred (some []))/\B0<=D

theorem uB.ndef {l:Loc}{g:Blk}{x}{c:Array Value}:¬uB l g (.deferred x) c:=λh=>by cases h
theorem Rel.mkne {B0:Nat}{w0:World}{φ:Fi}{H:zI}{w:World}(r:Rel B0 w0 φ H w){D:Nat}(hD:D∈φ.mks){A:Nat}{g:Blk}(h:H[A]?=some (some g)):(φ A).b≠D:=by
 rintro rfl;obtain⟨o,c,h1,h2,_⟩:=(r.blk A g h).any;rw[(r.mks _ hD).1]at h1;cases h1;exact uB.ndef h2
theorem Rel.lt {B0:Nat}{w0:World}{φ:Fi}{H:zI}{w:World}(r:Rel B0 w0 φ H w){A:Nat}{g:Blk}(h:H[A]?=some (some g)):(φ A).b<w.heap.size:=by
 obtain⟨o,c,h1,_⟩:=(r.blk A g h).any;exact(Array.getElem?_eq_some_iff.1 h1).1

def upd (φ:Fi)(A:Nat)(l:Loc):Fi:=⟨λB=>if B=A then l else φ B,φ.mks⟩
theorem mZ {φ:Fi}{A:Nat}:upd φ A (φ A)=φ:=by
 cases φ with
 |mk f m =>
  unfold upd
  congr 1
  funext B
  split
  ·rename_i h;rw[h]
  ·rfl
theorem yU {φ:Fi}{A:Nat}{l:Loc}:upd φ A l A=l:=by simp[upd]
theorem wX {φ:Fi}{A B:Nat}{l:Loc}(h:B≠A):upd φ A l B=φ B:=by simp[upd,h]

structure yM (φ:Fi)(L:zP)(as0:List Value)(vs:Array Value):Prop where
 size:vs.size=as0.length
 get:∀(i:Nat) (v:Value),as0[i]?=some v->∃v',vs[i]?=some v'/\Val φ L v v'

theorem yM.mono {φ φ':Fi}{L L':zP}(e:Ext φ L φ' L'){as0:List Value}{vs:Array Value}(h:yM φ L as0 vs):yM φ' L' as0 vs :=
 ⟨h.size,λi v hi=>let ⟨v',h1,h2⟩:=h.get i v hi;⟨v',h1,h2.mono e⟩⟩

theorem gT {H:zI}{A n:Nat}(h:lens H A=some n):∃g,H[A]?=some (some g)/\g.cells.length=n:=by
 unfold lens at h;cases hA:H[A]? with
 |none=>rw[hA]at h;cases h
 |some x =>
  cases x with
  |none=>rw[hA]at h;cases h
  |some g=>rw[hA]at h;simp only[Option.join_some,Option.map_some,Option.some.injEq]at h;exact⟨g,rfl,h⟩
theorem dM {H:zI}{A n:Nat}(h:lens H A=some n):A<H.length:=by
 obtain⟨g,h,_⟩:=gT h;exact(List.getElem?_eq_some_iff.1 h).1

theorem wH {H:zI}{A:Nat}{g:Blk}(h:H[A]?=some (some g)):lens H A=some g.cells.length:=by simp[lens,h]

theorem oQ {H:zI}{g:Blk}{A B:Nat}(h:B≠A):lens (H.set A (some g)) B=lens H B:=by
 simp only[lens];rw[List.getElem?_set_ne (by omega)]
theorem tU {H:zI}{g:Blk}{A:Nat}(h:A<H.length):lens (H.set A (some g)) A=some g.cells.length:=by
 simp[lens,h]

structure Place (H:zI)(A:Nat)(H':zI)(b:Blk):Prop where
 at_:H'[A]?=some (some b)
 ne:∀B,B≠A->H'[B]?=H[B]?
 free:∀g,H[A]?≠some (some g)
theorem Place.app (H:zI)(b:Blk):Place H H.length (H++[some b]) b:=by
 refine⟨by simp,λB hB=>?_,λg h=>?_⟩
 ·rcases Nat.lt_or_ge B H.length with h|h
  ·rw[List.getElem?_append_left h]
  ·rw[List.getElem?_eq_none (by simp;omega),List.getElem?_eq_none h]
 ·rw[List.getElem?_eq_none (Nat.le_refl _)]at h;cases h
theorem Place.hole {H:zI}{A:Nat}(h:H[A]?=some none)(b:Blk):Place H A (H.set A (some b)) b:=by
 have hA:=(List.getElem?_eq_some_iff.1 h).1;exact⟨by simp[hA],λB hB=>List.getElem?_set_ne (by omega),λg k=>by rw[h]at k;cases k⟩
theorem Place.lens {H H':zI}{A:Nat}{b:Blk}(p:Place H A H' b):lens H' A=some b.cells.length:=wH p.at_
theorem Place.lens_ne {H H':zI}{A B:Nat}{b:Blk}(p:Place H A H' b)(h:B≠A):Gh.lens H' B=Gh.lens H B:=by
 simp only[Gh.lens,p.ne B h]
theorem lM {B0:Nat}{w0:World}{φ:Fi}{H:zI}{w w':World}(r:Rel B0 w0 φ H w){g0:Blk}{o:Obj}{l0:Loc}{A0:Nat}{H':zI}
  (hpl:Place H A0 H' g0) (hlb:l0.b=w.heap.size) (hl0:l0.base=0) (hw:w'.heap=w.heap.push o) (hos:w'.os=w.os) (htp:w'.tape=w.tape) (hou:w'.output=w.output)
  (hbr:Ext φ (lens H) (upd φ A0 l0) (lens H')->nB (upd φ A0 l0) (lens H') g0 l0 w') :
  Ext φ (lens H) (upd φ A0 l0) (lens H')/\Rel B0 w0 (upd φ A0 l0) H' w':=by
 have hne:∀{A n},lens H A=some n->A≠A0:=by
  intro A n hA e;subst e;obtain⟨g,h,_⟩:=gT hA;exact hpl.free g h
 have hext:Ext φ (lens H) (upd φ A0 l0) (lens H'):=by
  refine⟨λA n hA=>?_,λ_ h=>h⟩;have h:=hne hA;exact⟨n,by rw[hpl.lens_ne h];exact hA,.inl ⟨rfl,wX h⟩⟩
 have hb:w0.heap.size<=w.heap.size:=r.below.size;refine⟨hext,⟨?_,r.b0,?_,?_,?_,r.gw,λD hD=>⟨?_,(r.mks D hD).2⟩⟩⟩
 rotate_right
 ·have h:=(r.mks D hD).1
  have hlt:=(Array.getElem?_eq_some_iff.1 h).1;rw[hw,Array.getElem?_push,if_neg (by omega)];exact h
 ·refine r.below.trans ⟨hos,htp,hou,by rw[hw];simp,λk hk=>?_⟩
  rw[hw,Array.getElem?_push,if_neg (by have:=r.b0;omega)]
 ·intro A g hA
  by_cases e:A=A0
  ·subst e
   rw[hpl.at_]at hA;simp only[Option.some.injEq]at hA;subst hA;rw[yU];exact hbr hext
  ·rw[hpl.ne A e]at hA
   obtain⟨o1,c1,h1,h2,h3,h5⟩:=(r.blk A g hA).any;have hlt':=(Array.getElem?_eq_some_iff.1 h1).1;rw[wX e];refine⟨o1,c1,?_,h2,h3,λi v hi=>?_⟩
   ·rw[hw,Array.getElem?_push,if_neg (by omega)];exact h1
   ·obtain⟨v',g1,g2⟩:=h5 i v hi
    exact⟨v',g1,g2.mono hext⟩
 ·intro A g hA hro
  by_cases e:A=A0
  ·subst e
   rw[yU];exact⟨by have:=r.b0;omega,hl0⟩
  ·rw[hpl.ne A e]at hA
   rw[wX e];exact r.own A g hA hro
 ·intro A A' g g' hA hro hA' he
  by_cases e1:A=A0
  ·subst e1
   by_cases e2:A'=A
   ·exact e2
   ·rw[yU,wX e2]at he
    rw[hpl.ne A' e2]at hA';have:=r.lt hA';omega
  ·rw[hpl.ne A e1]at hA
   by_cases e2:A'=A0
   ·subst e2
    rw[yU,wX e1]at he;have:=r.lt hA;omega
   ·rw[wX e1,wX e2]at he
    rw[hpl.ne A' e2]at hA';exact r.inj A A' g g' hA hro hA' he

theorem pY {B0:Nat}{w0:World}{φ:Fi}{H:zI}{w w':World}(r:Rel B0 w0 φ H w){cells:List Value}{us c:Array Value}{T:TypeId}{fz:Nat × Nat}{ro:Mk}{A0:Nat}{H':zI}
  (hpl:Place H A0 H' ⟨cells,ro⟩) (hv:yM φ (lens H) cells us) (hw:w'.heap=w.heap.push (.cells c T fz)) (hos:w'.os=w.os) (htp:w'.tape=w.tape) (hou:w'.output=w.output)
  (hc:us.size<=c.size) (hcu:∀i:Nat,i<us.size->c[i]?=us[i]?) (hfz:∀i,i<c.size->¬(fz.1<=i/\i<fz.2)) (hty:∀t,ro.ty=some t->T=t:=by nofun) :
  Ext φ (lens H) (upd φ A0 ⟨w.heap.size,0,c.size,false⟩) (lens H')/\Rel B0 w0 (upd φ A0 ⟨w.heap.size,0,c.size,false⟩) H' w' :=
 lM r hpl rfl rfl hw hos htp hou λhext=>by
  refine⟨.cells c T fz,c,?_,.cells rfl rfl (λ_=>hfz) hty,?_,λi v hi=>?_⟩
  ·rw[hw];simp
  ·simp only;have:=hv.size;omega
  ·obtain⟨v',g1,g2⟩:=hv.get i v hi
   refine⟨v',?_,g2.mono hext⟩;simp only[Nat.zero_add];rw[hcu i (Array.getElem?_eq_some_iff.1 g1).1];exact g1

theorem nP {B0:Nat}{w0:World}{φ:Fi}{H:zI}{w w':World}(r:Rel B0 w0 φ H w){A:Nat}{g g':Blk}{l':Loc}
  (hA:H[A]?=some (some g)) (hro:g.ro.b=false) (hos:w'.os=w.os) (htp:w'.tape=w.tape) (hou:w'.output=w.output) (hsz:w.heap.size<=w'.heap.size)
  (hoth:∀k,k<w.heap.size->k≠(φ A).b->w'.heap[k]?=w.heap[k]?) (hl:l'.b=(φ A).b\/w.heap.size<=l'.b) (hbase:l'.base=0)
  (hgrow:(g'.cells.length=g.cells.length/\l'=φ A)\/(g.cells.length<g'.cells.length/\((φ A).mp=true->l'=φ A)))
  (hbr:Ext φ (lens H) (upd φ A l') (lens (H.set A (some g')))->nB (upd φ A l') (lens (H.set A (some g'))) g' l' w') :
  Ext φ (lens H) (upd φ A l') (lens (H.set A (some g')))/\Rel B0 w0 (upd φ A l') (H.set A (some g')) w':=by
 have hAlt:=(List.getElem?_eq_some_iff.1 hA).1;obtain⟨hB0,_⟩:=r.own A g hA hro;have hext:Ext φ (lens H) (upd φ A l') (lens (H.set A (some g'))):=by
  refine⟨λA' n hn=>?_,λ_ h=>h⟩;by_cases e:A'=A
  ·subst e
   rw[wH hA]at hn;simp only[Option.some.injEq]at hn;refine⟨g'.cells.length,tU hAlt,?_⟩;rw[yU,<-hn];exact hgrow
  ·exact⟨n,by rw[oQ e];exact hn,.inl ⟨rfl,wX e⟩⟩
 refine⟨hext,⟨?_,r.b0,?_,?_,?_,r.gw,λD hD=>⟨?_,(r.mks D hD).2⟩⟩⟩
 rotate_right
 ·have h:=(r.mks D hD).1
  rw[hoth D (Array.getElem?_eq_some_iff.1 h).1 (λe=>r.mkne hD hA e.symm)];exact h
 ·refine r.below.trans ⟨hos,htp,hou,hsz,λk hk=>hoth k ?_ (by omega)⟩
  have:=r.b0;have:=r.below.size;omega
 ·intro A' g1 hA'
  by_cases e:A'=A
  ·subst e
   rw[List.getElem?_set_self hAlt]at hA';simp only[Option.some.injEq]at hA';subst hA';rw[yU];exact hbr hext
  ·rw[List.getElem?_set_ne (by omega)]at hA'
   rw[wX e];obtain⟨o1,c1,h1,h2,h3,h5⟩:=(r.blk A' g1 hA').any;have hlt':=(Array.getElem?_eq_some_iff.1 h1).1;refine⟨o1,c1,?_,h2,h3,λi v hi=>?_⟩
   ·rw[hoth _ hlt' (λe'=>e (r.inj A A' g g1 hA hro hA' e'))];exact h1
   ·obtain⟨v',g2,g3⟩:=h5 i v hi
    exact⟨v',g2,g3.mono hext⟩
 ·intro A' g1 hA' hr1
  by_cases e:A'=A
  ·subst e
   rw[yU];refine⟨?_,hbase⟩;rcases hl with hl|hl
   ·omega
   ·have:=r.b0;have:=r.below.size;omega
  ·rw[List.getElem?_set_ne (by omega)]at hA'
   rw[wX e];exact r.own A' g1 hA' hr1
 ·intro A1 A2 g1 g2 h1 hr1 h2 he
  by_cases e1:A1=A
  ·subst e1
   by_cases e2:A2=A1
   ·exact e2
   ·rw[List.getElem?_set_ne (by omega)]at h2
    rw[yU,wX e2]at he;rcases hl with hl|hl
    ·exact r.inj A1 A2 g g2 hA hro h2 (he.trans hl)
    ·have:=r.lt h2;omega
  ·rw[List.getElem?_set_ne (by omega)]at h1
   by_cases e2:A2=A
   ·subst e2
    rw[yU,wX e1]at he;rcases hl with hl|hl
    ·exact r.inj A1 A2 g1 g h1 hr1 hA (hl.symm.trans he)
    ·have:=r.lt h1;omega
   ·rw[List.getElem?_set_ne (by omega)]at h2
    rw[wX e1,wX e2]at he;exact r.inj A1 A2 g1 g2 h1 hr1 h2 he

theorem dU {B0:Nat}{w0:World}{φ:Fi}{H:zI}{w w':World}(r:Rel B0 w0 φ H w){A:Nat}{g g':Blk}{l':Loc}{c:Array Value}{T:TypeId}{fz:Nat × Nat}
  (hA:H[A]?=some (some g)) (hro:g.ro.b=false) (hos:w'.os=w.os) (htp:w'.tape=w.tape) (hou:w'.output=w.output) (hsz:w.heap.size<=w'.heap.size)
  (hoth:∀k,k<w.heap.size->k≠(φ A).b->w'.heap[k]?=w.heap[k]?) (hl:l'.b=(φ A).b\/w.heap.size<=l'.b) (hbase:l'.base=0) (hmp:l'.mp=false) (hmp0:(φ A).mp=false)
  (hw:w'.heap[l'.b]?=some (.cells c T fz)) (hc:c.size=l'.size) (hlen:g'.cells.length<=c.size) (hfz:∀i,i<c.size->¬(fz.1<=i/\i<fz.2))
  (hgrow:(g'.cells.length=g.cells.length/\l'=φ A)\/g.cells.length<g'.cells.length)
  (hcells:∀(i:Nat) (v:Value),g'.cells[i]?=some v->∃v',c[i]?=some v'/\Val (upd φ A l') (lens (H.set A (some g'))) v v') (hty:∀t,g'.ro.ty=some t->T=t:=by nofun) :
  Ext φ (lens H) (upd φ A l') (lens (H.set A (some g')))/\Rel B0 w0 (upd φ A l') (H.set A (some g')) w' :=
 nP r hA hro hos htp hou hsz hoth hl hbase (hgrow.imp id λh=>⟨h,λh'=>by rw[hmp0]at h';cases h'⟩) λ_=>by
  refine⟨_,c,hw,.cells hmp hc (λ_=>hfz) hty,by omega,λi v hi=>?_⟩;rw[hbase,Nat.zero_add];exact hcells i v hi

abbrev AF :=List (Nat × Value)

def get :AF->Nat->Option Value
 |[],_=>none
 |(k,v)::r,t=>bif Nat.beq k t then some v else get r t

structure N0 where
 n:Nat
 ro:Option Nat
structure Fr where
 sz:Nat
 n0:N0

structure xA (φ:Fi)(L:zP)(N:Fr)(a:AF)(ac:Act):Prop where
 size:ac.tmps.size=N.sz
 slot:∀t v,get a t=some v->∃v',ac.tmps[t]?=some v'/\Val φ L v v'

theorem xA.mono {φ φ':Fi}{L L':zP}{N:Fr}{a:AF}{ac:Act}(e:Ext φ L φ' L')(h:xA φ L N a ac):xA φ' L' N a ac :=
 ⟨h.size,λt v ht=>let ⟨v',h1,h2⟩:=h.slot t v ht;⟨v',h1,h2.mono e⟩⟩

def ev (a:AF):Operand->Option Value
 |.tmp t=>get a t
 |.const v=>bif yB v then some v else none
 |.global _=>none
 |.func f=>some (.func (.func f) #[] #[])

theorem zN {φ:Fi}{L:zP}{N:Fr}{a:AF}{ac:Act}(h:xA φ L N a ac){x:Operand}{v:Value}(hx:ev a x=some v) :
  Val φ L v (ac.eval x):=by
 cases x with
 |tmp t =>
  obtain⟨v',h1,h2⟩:=h.slot t v hx;have:ac.eval (.tmp t)=v':=by simp[Act.eval,Array.getD_eq_getD_getElem?,h1]
  rw[this];exact h2
 |const u =>
  cases hu:yB u with
  |true =>
   simp only[ev,hu,cond_true,Option.some.injEq]at hx;subst hx;exact Val.const hu
  |false=>simp[ev,hu]at hx
 |global g=>cases hx
 |func f =>
  simp only[ev,Option.some.injEq]at hx;subst hx;exact .func _ _ _ _ _ rfl (λi h=>by simp at h) rfl (λi h=>by simp at h)

def put (a:AF)(dst:Option Tmp)(v:Value):AF :=
 match dst with
 |some d=>(d,v)::a
 |none=>a

theorem mF {a:AF}{d:Nat}{v:Value}{t:Nat}{u:Value}(h:get ((d,v)::a) t=some u):(t=d/\u=v)\/(t≠d/\get a t=some u):=by
 unfold get at h;by_cases hd:d=t
 ·subst hd
  rw[show Nat.beq d d=true from Nat.beq_refl d]at h;simp only[cond_true,Option.some.injEq]at h;exact .inl ⟨rfl,h.symm⟩
 ·have:Nat.beq d t=false:=by
   cases hb:Nat.beq d t with
   |true=>exact absurd (Nat.eq_of_beq_eq_true hb) hd
   |false=>rfl
  rw[this]at h;exact .inr ⟨λe=>hd e.symm,h⟩

theorem xA.put {φ:Fi}{L:zP}{N:Fr}{a:AF}{ac:Act}(h:xA φ L N a ac){dst:Option Tmp}{v v':Value}
  (hd:∀d,dst=some d->d<N.sz) (hv:Val φ L v v'):xA φ L N (put a dst v) (ac.put dst v'):=by
 cases dst with
 |none=>exact h
 |some d =>
  refine⟨by simp[Act.put,h.size],λt u ht=>?_⟩;rcases mF ht with⟨rfl,rfl⟩|⟨hne,ht⟩
  ·exact⟨v',by simp[Act.put,h.size,hd t rfl],hv⟩
  ·obtain⟨u',h1,h2⟩:=h.slot t u ht
   refine⟨u',?_,h2⟩;simp only[Act.put];rw[Array.getElem?_setIfInBounds_ne (by omega)];exact h1

structure EA (φs:Fi)(Ls:zP)(φ:Fi)(L:zP)(ds:List Deferred):Prop where
 ext:Ext φs Ls φ L
 dk:∃M:List Nat,ds=M.map (λD=>{ target:=.collected D,args:=#[] })/\M.Nodup/\∀D∈M,D∈φ.mks/\D ∉ φs.mks
theorem EA.start {φs:Fi}{Ls:zP}{φ:Fi}{L:zP}(h:Ext φs Ls φ L):EA φs Ls φ L []:=⟨h,[],rfl,List.nodup_nil,λ_ h=>by cases h⟩
theorem EA.trans {φs:Fi}{Ls:zP}{φ φ':Fi}{L L':zP}{ds:List Deferred}(h:EA φs Ls φ L ds)(k:Ext φ L φ' L'):EA φs Ls φ' L' ds :=
 ⟨h.ext.trans k,let ⟨M,h1,h2,h3⟩:=h.dk;⟨M,h1,h2,λD hD=>⟨k.mks D (h3 D hD).1,(h3 D hD).2⟩⟩⟩
theorem EA.put {φs:Fi}{Ls:zP}{φ:Fi}{L:zP}{ac:Act}(h:EA φs Ls φ L ac.defers){dst:Option Tmp}{v:Value}:EA φs Ls φ L (ac.put dst v).defers:=by
 cases dst <;> exact h

def Sub :AF->AF->Prop
 |[],_=>True
 |(t,v)::r,a=>get a t=some v/\Sub r a

theorem Sub.get {b a:AF}(h:Sub b a):∀{t v},get b t=some v->get a t=some v:=by
 induction b with
 |nil=>intro t v hv;cases hv
 |cons x r ih =>
  obtain⟨k,u⟩:=x;intro t v hv;rcases mF hv with⟨rfl,rfl⟩|⟨_,hv⟩
  ·exact h.1
  ·exact ih h.2 hv

theorem xA.sub {φ:Fi}{L:zP}{N:Fr}{a b:AF}{ac:Act}(h:xA φ L N a ac)(s:Sub b a):xA φ L N b ac :=
 ⟨h.size,λt v hv=>h.slot t v (s.get hv)⟩

end Go.Gh
end
section
set_option maxRecDepth 4000
namespace Go.Proofs.YtbidadebolllkaaGreatDoor
open Go.Gh Go.RowKit

def dva :List UInt8->Nat->Nat
 |[],n=>n
 |b::r,n=>dva r (10*n+(b.toNat-48))
abbrev dv (l:List UInt8):Nat:=dva l 0
def isD (l:List UInt8):Prop:=∀b∈l,48<=b.toNat/\b.toNat<=57
theorem zDj {b:UInt8}{l:List UInt8}:isD (b::l)↔(48<=b.toNat/\b.toNat<=57)/\isD l:=by
 unfold isD;simp
theorem zPr {a b:List UInt8}:isD (a++b)↔isD a/\isD b:=by
 unfold isD;constructor
 ·exact λh=>⟨λx hx=>h x (List.mem_append_left _ hx),λx hx=>h x (List.mem_append_right _ hx)⟩
 ·rintro⟨h1,h2⟩ x hx
  rcases List.mem_append.1 hx with h|h
  ·exact h1 x h
  ·exact h2 x h
theorem zEo :∀(l:List UInt8) (n:Nat),dva l n=n*10^l.length+dv l
 |[],n=>by show n=n*1+0;omega
 |b::r,n=>by
  show dva r (10*n+(b.toNat-48))=n*10^(r.length+1)+dva r (10*0+(b.toNat-48));rw[zEo r,zEo r (10*0+_),Nat.pow_succ,Nat.add_mul,Nat.mul_zero,Nat.zero_add,<-Nat.add_assoc]
  congr 2
  rw[Nat.mul_comm 10 n,Nat.mul_assoc,Nat.mul_comm 10]
theorem pQ (b:UInt8)(r:List UInt8):dv (b::r)=(b.toNat-48)*10^r.length+dv r:=by
 show dva r (10*0+(b.toNat-48))=_;rw[zEo,Nat.mul_zero,Nat.zero_add]
theorem zHa (a b:List UInt8):dv (a++b)=dv a*10^b.length+dv b:=by
 induction a with
 |nil=>show dv b=0*_+_;rw[Nat.zero_mul,Nat.zero_add]
 |cons x r ih =>
  rw[List.cons_append,pQ,pQ,ih,List.length_append,Nat.pow_add,Nat.add_mul,Nat.mul_assoc,Nat.add_assoc]
def nzL (l:List UInt8):Prop:=∀b,l.getLast?=some b->49<=b.toNat
def nzH (l:List UInt8):Prop:=∀b,l.head?=some b->49<=b.toNat
theorem yLo {b:UInt8}{r:List UInt8}(h:nzL (b::r)):nzL r:=by
 intro x hx;apply h;cases r with
 |nil=>cases hx
 |cons c t=>rw[List.getLast?_cons_cons];exact hx
abbrev Nm :Type:=Bool × List UInt8 × Int
structure okT (a:Nm):Prop where
 d:isD a.2.1
 h:nzH a.2.1
 l:nzL a.2.1
 z:a.2.1=[]->a=(false,[],0)
def vE (E:Int)(a:Nm):Int:=(if a.1=true then -1 else 1)*((dv a.2.1*10^(a.2.2-E).toNat:Nat):Int)
def fst (a:Nm):Int:=a.2.2+a.2.1.length-1
def sc3 (x y:Int):Int:=if x<y then -1 else if y<x then 1 else 0

def zl :List UInt8->List UInt8
 |[]=>[]
 |b::r=>if b.toNat=48 then zl r else b::r
def zr :List UInt8->List UInt8
 |[]=>[]
 |b::r=>if zr r=[]/\b.toNat=48 then [] else b::zr r
theorem zGm :∀l:List UInt8,isD l->dv (zl l)=dv l/\isD (zl l)/\nzH (zl l)/\(zl l).length<=l.length
 |[],h=>⟨rfl,h,λ_ g=>(by cases g),Nat.le_refl _⟩
 |b::r,h=>by
  obtain⟨h1,h2⟩:=zDj.1 h;obtain⟨a1,a2,a3,a4⟩:=zGm r h2;unfold zl;split
  ·rename_i g
   rw[pQ,g,Nat.sub_self,Nat.zero_mul,Nat.zero_add];exact⟨a1,a2,a3,Nat.le_succ_of_le a4⟩
  ·rename_i g
   refine⟨rfl,h,λx hx=>?_,Nat.le_refl _⟩;have:b=x:=Option.some.inj hx;subst this;omega
theorem zRe :∀l:List UInt8,isD l->∃n,zr l++List.replicate n 48=l/\dv l=dv (zr l)*10^n/\isD (zr l)/\nzL (zr l)
 |[],h=>⟨0,rfl,rfl,h,λ_ g=>(by cases g)⟩
 |b::r,h=>by
  obtain⟨h1,h2⟩:=zDj.1 h;obtain⟨n,a1,a2,a3,a4⟩:=zRe r h2;unfold zr;split
  ·rename_i g
   obtain⟨g1,g2⟩:=g;rw[g1]at a1 a2;refine⟨n+1,?_,?_,λ_ k=>(by cases k),λ_ k=>(by cases k)⟩
   ·have hb:b=48:=UInt8.toNat_inj.1 g2
    rw[hb,<-a1];rfl
   ·rw[pQ,g2,a2,show dv []=0 from rfl];simp
  ·rename_i g
   refine⟨n,by rw[List.cons_append,a1],?_,zDj.2 ⟨h1,a3⟩,?_⟩
   ·have hl:=congrArg List.length a1
    rw[List.length_append,List.length_replicate]at hl;rw[pQ,pQ,a2,Nat.add_mul,Nat.mul_assoc,<-Nat.pow_add,hl]
   ·intro x hx
    cases hz:zr r with
    |nil =>
     rw[hz]at hx;have:b=x:=Option.some.inj hx;subst this;have:¬b.toNat=48:=λk=>g ⟨hz,k⟩;omega
    |cons c t =>
     rw[hz,List.getLast?_cons_cons]at hx;rw[hz]at a4;exact a4 x hx
theorem yLg {l:List UInt8}(h:nzH l):nzH (zr l):=by
 cases l with
 |nil=>exact h
 |cons b r =>
  have:=h b rfl;intro x hx;unfold zr at hx;split at hx
  ·cases hx
  ·have:b=x:=Option.some.inj hx
   subst this;omega
def trD (a:Nm):Nm:=if zr (zl a.2.1)=[] then(false,[],0)else(a.1,zr (zl a.2.1),a.2.2+(zl a.2.1).length-(zr (zl a.2.1)).length)
theorem yFt {a:Nm}(h:isD a.2.1):okT (trD a)/\(∀E,E<=a.2.2->E<=0->E<=(trD a).2.2/\vE E (trD a)=vE E a):=by
 obtain⟨s,l,e⟩:=a;obtain⟨z1,z2,z3,z4⟩:=zGm l h;obtain⟨n,y1,y2,y3,y4⟩:=zRe (zl l) z2;unfold trD;dsimp only;split
 ·rename_i g
  refine⟨⟨λ_ k=>(by cases k),λ_ k=>(by cases k),λ_ k=>(by cases k),λ_=>rfl⟩,λE h1 h2=>⟨h2,?_⟩⟩;have:dv l=0:=by rw[<-z1,y2,g];exact Nat.zero_mul _
  unfold vE;dsimp only;rw[this,show dv []=0 from rfl,Nat.zero_mul,Nat.zero_mul];simp
 ·rename_i g
  have hl:=congrArg List.length y1;rw[List.length_append,List.length_replicate]at hl;have he:e+((zl l).length:Int)-((zr (zl l)).length:Int)=e+n:=by omega
  rw[he];refine⟨⟨y3,yLg z3,y4,λk=>absurd k g⟩,λE h1 h2=>⟨by dsimp only at h1 ⊢;omega,?_⟩⟩;unfold vE;dsimp only at h1 ⊢;rw[<-z1,y2,Nat.mul_assoc,<-Nat.pow_add,show(e+(n:Int)-E).toNat=n+(e-E).toNat by omega]
theorem zUg {l:List UInt8}(h:nzH l):zl l=l:=by
 cases l with
 |nil=>rfl
 |cons b r =>
  have:=h b rfl;exact if_neg (by omega)
theorem zBx :∀{l:List UInt8},nzL l->zr l=l
 |[],_=>rfl
 |b::r,h=>by
  have ih:=zBx (yLo h);unfold zr;rw[ih,if_neg];rintro⟨rfl,g⟩;have:=h b rfl;omega
theorem yHq {a:Nm}(h:okT a):trD a=a:=by
 unfold trD;rw[zUg h.h,zBx h.l];split
 ·rename_i g
  exact(h.z g).symm
 ·obtain⟨s,l,e⟩:=a
  dsimp only;rw[show e+(l.length:Int)-(l.length:Int)=e by omega]
end Go.Proofs.YtbidadebolllkaaGreatDoor
end
section
set_option maxRecDepth 4000
namespace Go.Gh
open Go.RowKit

abbrev xR :=Exit->AF->zI->Prop

def fc (N:Fr):Fence:=⟨λ_=>True,none,false,N.n0.ro⟩
theorem yKe {P:Program}{ρ:Operand->Value}{o:Oper}{c:Call}(ho:o.op=.defer c){w w':World}{x:Next}(h:(execOp ρ o).run P w=.ok x w'):∃d,x=.defer d:=by
 unfold execOp at h;rw[ho]at h;simp only[Sem.run_bind]at h;generalize Sem.run P _ w=r at h;cases r with
 |ok v w2=>simp only[Result.andThen_ok,Sem.run_pure,Result.ok.injEq]at h;exact⟨_,h.1.symm⟩
 |halt=>cases h
theorem vS {P:Program}{ro:Option Nat}{ρ:Operand->Value}{o:Oper}{w w':World}{x:Next}(h:(execOp ρ o).run P w=.ok x w')(hx:∀d,x≠.defer d):(Oper.semAt ro ρ o).run P w=.ok x w':=by
 rw[Oper.semAt_eq ro ρ o (λc hc=>by obtain⟨d,hd⟩:=yKe hc h;exact hx d hd)];exact h
section
variable {P:Program} {b:Frame} {a:Act} {k:List Item} {cs:List Frame} {w:World} {Q:Exit->Act->World->Prop} {F:Fence} {n:Nat}
theorem yPo {c:Code}:step P (lone (b.atR a (.code (.scope c)::k)) cs w)=.next (lone (b.atR a (.code c::.inScope c::k)) cs w) :=
 step_lone_go (by simp[stepG,stepG.exec,Frame.atR])
theorem yHo {c:Code}:step P (lone (b.atR a (.inScope c::k)) cs w)=.next (lone (b.atR a k) cs w) :=
 step_lone_go (by simp[stepG,stepG.exec,Frame.atR])
theorem yNh {c:Code}(h:c.wpIn F n P (Exit.noGoto Q) a w):(Code.scope c).wpIn F n P Q a w:=by
 intro b k cs hro hb hr;have s1:StepsIn (Machine.fenced P F) P (lone (b.atR a (.code (.scope c)::k)) cs w) (lone (b.atR a (.code c::.inScope c::k)) cs w):=.one (fenced_calm hb hr rfl) yPo;obtain⟨e,a₁,w₁,hq,harr⟩:=h b (.inScope c::k) cs hro hb hr;cases e with
 |normal=>exact⟨.normal,a₁,w₁,hq,StepsIn.trans s1 (StepsIn.trans harr (.one (fenced_calm hb hr rfl) yHo))⟩
 |exit id=>exact⟨.exit id,a₁,w₁,hq,λk' hk=>StepsIn.trans s1 (harr.1 k' (by simp[exitTo,hk])),λhr1 hk=>let ⟨k₁,h1,h2⟩:=harr.2 hr1 (by simp[exitTo,hk]);⟨k₁,h1,StepsIn.trans s1 h2⟩⟩
 |goto l=>exact hq.elim
 |ret=>exact⟨_,a₁,w₁,hq,.of_steps s1 harr⟩
 |panic ch=>exact⟨_,a₁,w₁,hq,.of_steps s1 harr⟩
 |outgrown=>exact⟨_,a₁,w₁,hq,.of_steps s1 harr⟩
end

def QC (B0:Nat)(w0:World)(N:Fr)(φs:Fi)(Ls:zP)(Q:xR):Exit->Act->World->Prop :=
 λe ac w=>∃φ a H,EA φs Ls φ (lens H) ac.defers/\Rel B0 w0 φ H w/\xA φ (lens H) N a ac/\Q e a H

def Dom (Ls:zP)(n:Nat):Prop:=∀A m,Ls A=some m->A<n

def AWp (P:Program)(N:Fr)(c:Code)(Q:xR)(a:AF)(H:zI):Prop :=
 ∀B0 w0 φs Ls φ w ac,Dom Ls N.n0.n->EA φs Ls φ (lens H) ac.defers->Rel B0 w0 φ H w->xA φ (lens H) N a ac->c.wpIn (fc N) 0 P (QC B0 w0 N φs Ls Q) ac w

def wC (P:Program)(N:Fr)(ops:Array Oper)(Q:xR)(l:List Oper)(a:AF)(H:zI):Prop :=
 ∀B0 w0 φs Ls φ w ac,Dom Ls N.n0.n->EA φs Ls φ (lens H) ac.defers->Rel B0 w0 φ H w->xA φ (lens H) N a ac->wpListIn (fc N) 0 P ops (QC B0 w0 N φs Ls Q) l ac w

def AOp (P:Program)(N:Fr)(o:Oper)(ops:Array Oper)(rest:List Oper)(Q:xR)(a:AF)(H:zI):Prop :=
 ∀B0 w0 φs Ls φ w ac,Dom Ls N.n0.n->EA φs Ls φ (lens H) ac.defers->Rel B0 w0 φ H w->xA φ (lens H) N a ac ->
  o.wpIn (fc N) 0 P ac w (wpListIn (fc N) 0 P ops (QC B0 w0 N φs Ls Q) rest) (QC B0 w0 N φs Ls Q)

section
variable {P:Program} {N:Fr} {ops:Array Oper} {Q:xR} {l rest:List Oper} {o:Oper} {a:AF} {H:zI}

theorem AWp.mono {c:Code}{Q':xR}(h:AWp P N c Q a H)(hq:∀e a H,Q e a H->Q' e a H):AWp P N c Q' a H :=
 λB0 w0 φs Ls φ w ac hdm he hr hf=>wpIn_mono (h B0 w0 φs Ls φ w ac hdm he hr hf) λ_ _ _ ⟨φ',a',H',h1,h2,h3,h4⟩=>⟨φ',a',H',h1,h2,h3,hq _ _ _ h4⟩

theorem AWp.sub {c:Code}{b:AF}(h:AWp P N c Q b H)(s:Sub b a):AWp P N c Q a H :=
 λB0 w0 φs Ls φ w ac hdm he hr hf=>h B0 w0 φs Ls φ w ac hdm he hr (hf.sub s)

theorem wC.sub {b:AF}(h:wC P N ops Q l b H)(s:Sub b a):wC P N ops Q l a H :=
 λB0 w0 φs Ls φ w ac hdm he hr hf=>h B0 w0 φs Ls φ w ac hdm he hr (hf.sub s)

def zGy (K:AF->zI->Prop)(Q:xR):xR
 |.normal,a,H=>K a H
 |e,a,H=>Q e a H

def mL (id:Nat)(Q:xR):xR
 |.exit id',a,H=>if id'=id then Q .normal a H else Q (.exit id') a H
 |e,a,H=>Q e a H

def yNw (Q:xR):xR
 |.goto _,_,_=>False
 |e,a,H=>Q e a H

theorem zHt (h:Q .normal a H):AWp P N .skip Q a H :=
 λ_ _ _ _ φ _ _ _ he hr hf=>wpIn_skip ⟨φ,a,H,he,hr,hf,h⟩

theorem bN (h:Q .ret a H):AWp P N .ret Q a H :=
 λ_ _ _ _ φ _ _ _ he hr hf=>wpIn_ret ⟨φ,a,H,he,hr,hf,h⟩

theorem zQn {id:Nat}(h:Q (.exit id) a H):AWp P N (.exit id) Q a H :=
 λ_ _ _ _ φ _ _ _ he hr hf=>wpIn_exit ⟨φ,a,H,he,hr,hf,h⟩

theorem yEz {id:Nat}(h:Q .normal a H):AWp P N (.label id) Q a H :=
 λ_ _ _ _ φ _ _ _ he hr hf=>wpIn_label ⟨φ,a,H,he,hr,hf,h⟩

theorem oB {x y:Code}(h:AWp P N x (zGy (λa H=>AWp P N y Q a H) Q) a H):AWp P N (.seq x y) Q a H:=by
 intro B0 w0 φs Ls φ w ac hdm he hr hf;refine wpIn_seq (wpIn_mono (h B0 w0 φs Ls φ w ac hdm he hr hf) ?_);rintro e ac' w' ⟨φ',a',H',h1,h2,h3,h4⟩;cases e with
 |normal=>exact h4 B0 w0 φs Ls φ' w' ac' hdm h1 h2 h3
 |_=>exact⟨φ',a',H',h1,h2,h3,h4⟩

theorem eA {c:Operand}{x y:Code}{t:Bool}(hc:ev a c=some (.bool t))(h1:t=true->AWp P N x Q a H)(h2:t=false->AWp P N y Q a H) :
  AWp P N (.cond c x y) Q a H:=by
 intro B0 w0 φs Ls φ w ac hdm he hr hf;have hb:=(zN hf hc).scalar rfl;cases t with
 |true=>exact wpIn_cond_true hb (h1 rfl B0 w0 φs Ls φ w ac hdm he hr hf)
 |false=>exact wpIn_cond_false hb (h2 rfl B0 w0 φs Ls φ w ac hdm he hr hf)

theorem zVk {c:Operand}{x y:Code}{t:Bool}(hc:ev a c=some (.bool t))(ht:t=true)(h1:AWp P N x Q a H):AWp P N (.cond c x y) Q a H :=
 eA hc (λ_=>h1) (λh=>by rw[ht]at h;cases h)
theorem zJy {c:Operand}{x y:Code}{t:Bool}(hc:ev a c=some (.bool t))(ht:t=false)(h1:AWp P N y Q a H):AWp P N (.cond c x y) Q a H :=
 eA hc (λh=>by rw[ht]at h;cases h) (λ_=>h1)
theorem zXy {c:Operand}{x y:Code}{p:Prop}[Decidable p](hc:ev a c=some (.bool (decide p)))(h1:p->AWp P N x Q a H)(h2:¬p->AWp P N y Q a H) :
  AWp P N (.cond c x y) Q a H :=
 eA hc (λh=>h1 (of_decide_eq_true h)) (λh=>h2 (of_decide_eq_false h))

theorem zFa {id:Nat}{c:Code}(h:AWp P N c (mL id Q) a H):AWp P N (.block id c) Q a H:=by
 intro B0 w0 φs Ls φ w ac hdm he hr hf;refine wpIn_block (wpIn_mono (h B0 w0 φs Ls φ w ac hdm he hr hf) ?_);rintro e ac' w' ⟨φ',a',H',h1,h2,h3,h4⟩;cases e with
 |exit id' =>
  by_cases hid:id'=id
  ·subst hid
   simp only[mL,if_true]at h4;simp only[Exit.inBlock,if_true];exact⟨φ',a',H',h1,h2,h3,h4⟩
  ·simp only[mL,hid,if_false]at h4
   simp only[Exit.inBlock,hid,if_false];exact⟨φ',a',H',h1,h2,h3,h4⟩
 |_=>exact⟨φ',a',H',h1,h2,h3,h4⟩

theorem yIr {c:Code}(h:AWp P N c (yNw Q) a H):AWp P N (.scope c) Q a H:=by
 intro B0 w0 φs Ls φ w ac hdm he hr hf;refine yNh (wpIn_mono (h B0 w0 φs Ls φ w ac hdm he hr hf) ?_);rintro e ac' w' ⟨φ',a',H',h1,h2,h3,h4⟩;cases e with
 |goto l=>exact h4.elim
 |_=>exact⟨φ',a',H',h1,h2,h3,h4⟩

structure oX (N:Fr)(a:AF)(H:zI)(a2:AF)(H2:zI):Prop where
 go:∀B0 w0 φ w ac,Rel B0 w0 φ H w->xA φ (lens H) N a ac ->
  ∃φ2,Rel B0 w0 φ2 H2 w/\xA φ2 (lens H2) N a2 ac/\(∀A,A<N.n0.n->φ2 A=φ A/\lens H2 A=lens H A)/\φ2.mks=φ.mks

theorem zQp {a2:AF}(s:Sub a2 a):oX N a H a2 H :=
 ⟨λ_ _ φ _ _ hr hf=>⟨φ,hr,hf.sub s,λ_ _=>⟨rfl,rfl⟩,rfl⟩⟩
theorem gD :oX N a H a H:=⟨λ_ _ φ _ _ hr hf=>⟨φ,hr,hf,λ_ _=>⟨rfl,rfl⟩,rfl⟩⟩

theorem zJd {φs φ φ2:Fi}{Ls:zP}{H2:zI}{n:Nat}(hdm:Dom Ls n)(he:Ext φs Ls φ (lens H))(h:∀A,A<n->φ2 A=φ A/\lens H2 A=lens H A)(hk:φ2.mks=φ.mks):Ext φs Ls φ2 (lens H2):=by
 refine⟨λA m hA=>?_,λD hD=>by rw[hk];exact he.mks D hD⟩;obtain⟨m',h1,h2⟩:=he.at_ A m hA;obtain⟨e1,e2⟩:=h A (hdm A m hA);exact⟨m',e2.trans h1,h2.imp (λ⟨x,y⟩=>⟨x,e1.trans y⟩) (λ⟨x,y⟩=>⟨x,λhm=>e1.trans (y hm)⟩)⟩

theorem zPo {φs φ φ2:Fi}{Ls:zP}{H2:zI}{n:Nat}{ds:List Deferred}(hdm:Dom Ls n)(he:EA φs Ls φ (lens H) ds)(h:∀A,A<n->φ2 A=φ A/\lens H2 A=lens H A)(hk:φ2.mks=φ.mks):EA φs Ls φ2 (lens H2) ds :=
 ⟨zJd hdm he.ext h hk,let ⟨M,h1,h2,h3⟩:=he.dk;⟨M,h1,h2,λD hD=>⟨by rw[hk];exact(h3 D hD).1,(h3 D hD).2⟩⟩⟩
theorem yGv {c:Code}{a2:AF}{H2:zI}(k:oX N a H a2 H2)(h:AWp P N c Q a2 H2):AWp P N c Q a H:=by
 intro B0 w0 φs Ls φ w ac hdm he hr hf;obtain⟨φ2,h1,h2,h3,h4⟩:=k.go B0 w0 φ w ac hr hf;exact h B0 w0 φs Ls φ2 w ac hdm (zPo hdm he h3 h4) h1 h2

theorem zRw {S:Type}{c:Code}(A:S->AF)(G:S->zI)(I:S->Prop)(μ:S->Nat)(s0:S)(h0:I s0)(hk:oX N a H (A s0) (G s0))
  (round:∀s,I s->AWp P N c (zGy (λa' H'=>∃s',I s'/\μ s'<μ s/\oX N a' H' (A s') (G s')) Q) (A s) (G s)):AWp P N (.loop c) Q a H:=by
 refine yGv hk ?_;intro B0 w0 φs Ls φ w ac hdm he hr hf b k cs hro hb hrm;have key:∀n s φ ac w,μ s=n->I s->EA φs Ls φ (lens (G s)) ac.defers->Rel B0 w0 φ (G s) w->xA φ (lens (G s)) N (A s) ac ->
   ∃e a' w',QC B0 w0 N φs Ls Q e a' w'/\ArrivesIn (Machine.fenced P (fc N)) P (lone (b.atR ac (.code c::.inLoop c::k)) cs w) b k cs e a' w':=by
  intro n
  induction n using Nat.strongRecOn with
  |_ n ih =>
   intro s φ ac w hn hI he hr hf;obtain⟨e,a₁,w₁,⟨φ',a',H',h1,h2,h3,h4⟩,harr⟩:=round s hI B0 w0 φs Ls φ w ac hdm he hr hf b (.inLoop c::k) cs hro hb hrm;cases e with
   |normal =>
    obtain⟨s',hI',hlt,hkeep⟩:=h4;obtain⟨φ2,k1,k2,k3,k4⟩:=hkeep.go B0 w0 φ' w₁ a₁ h2 h3;obtain⟨e₂,a₂,w₂,hq₂,harr₂⟩:=ih (μ s') (hn▸hlt) s' φ2 a₁ w₁ rfl hI' (zPo hdm h1 k3 k4) k1 k2;exact⟨e₂,a₂,w₂,hq₂,.of_steps (StepsIn.trans harr (.one (fenced_calm hb hrm rfl) stepR_inLoop)) harr₂⟩
   |exit id=>exact⟨_,a₁,w₁,⟨φ',a',H',h1,h2,h3,h4⟩,.pass (x:=.inLoop c) rfl (λ_ _=>.inl (by simp)) harr⟩
   |goto l=>exact⟨_,a₁,w₁,⟨φ',a',H',h1,h2,h3,h4⟩,.pass (x:=.inLoop c) rfl (λ_ _=>.inl (by simp)) harr⟩
   |ret=>exact⟨_,a₁,w₁,⟨φ',a',H',h1,h2,h3,h4⟩,.pass (x:=.inLoop c) rfl (λ_ _=>.inl (by simp)) harr⟩
   |panic ch=>exact⟨_,a₁,w₁,⟨φ',a',H',h1,h2,h3,h4⟩,.pass (x:=.inLoop c) rfl (λ_ _=>.inl (by simp)) harr⟩
   |outgrown=>exact⟨_,a₁,w₁,⟨φ',a',H',h1,h2,h3,h4⟩,.pass (x:=.inLoop c) rfl (λ_ _=>.inl (by simp)) harr⟩
 obtain⟨e,a',w',hq,harr⟩:=key _ s0 φ ac w rfl h0 he hr hf;exact⟨e,a',w',hq,.of_steps (.one (fenced_calm hb hrm rfl) stepR_loop) harr⟩

theorem kP {id:Nat}(h:wC P N ops Q ops.toList a H):AWp P N (.region id ops false) Q a H :=
 λB0 w0 φs Ls φ w ac hdm he hr hf=>wpIn_region_list (h B0 w0 φs Ls φ w ac hdm he hr hf)

theorem kY (h:Q .normal a H):wC P N ops Q [] a H :=
 λ_ _ _ _ φ _ _ _ he hr hf=>wpListIn_nil ⟨φ,a,H,he,hr,hf,h⟩

theorem rA (hg:o.guard=none)(h:AOp P N o ops rest Q a H):wC P N ops Q (o::rest) a H:=by
 intro B0 w0 φs Ls φ w ac hdm he hr hf;unfold wpListIn;rw[if_pos (by simp[Region.wanted,hg])];exact h B0 w0 φs Ls φ w ac hdm he hr hf

theorem zCa {φ:Fi}{L:zP}{ac:Act}(hf:xA φ L N a ac){j d:Nat}(hd:(ops[j]?).bind (·.dst)=some d){b:Bool}(hb:get a d=some (.bool b)) :
  yielded ops ac.tmps j=some b:=by
 obtain⟨v',h1,h2⟩:=hf.slot d _ hb;have:=h2.scalar rfl;subst this;simp[yielded,hd,h1]

theorem yBb {j:Nat}{want:Bool}{d:Nat}{b:Bool}(hg:o.guard=some (j,want))(hd:(ops[j]?).bind (·.dst)=some d)(hb:get a d=some (.bool b))(e:b=want)
  (h:AOp P N o ops rest Q a H):wC P N ops Q (o::rest) a H:=by
 intro B0 w0 φs Ls φ w ac hdm he hr hf;unfold wpListIn;rw[if_pos (by simp only[Region.wanted,hg];rw[zCa hf hd hb,e];simp)];exact h B0 w0 φs Ls φ w ac hdm he hr hf

theorem aZ {φ:Fi}{L:zP}:Val φ L undef undef:=Val.const rfl

def wK (o:Oper)(N:Fr):Bool:=match o.dst with
 |some d=>Nat.blt d N.sz
 |none=>true
theorem sZ {o:Oper}{N:Fr}(h:wK o N=true):∀d,o.dst=some d->d<N.sz:=by
 intro d hd;unfold wK at h;rw[hd]at h;exact Nat.lt_of_lt_of_le (Nat.lt_succ_self d) (Nat.le_of_ble_eq_true h)

theorem zRm {j:Nat}{want:Bool}{d:Nat}{b:Bool}(hg:o.guard=some (j,want))(hd:(ops[j]?).bind (·.dst)=some d)(hb:get a d=some (.bool b))(e:b=!want)
  (hN:wK o N=true) (h:wC P N ops Q rest (put a o.dst undef) H):wC P N ops Q (o::rest) a H:=by
 intro B0 w0 φs Ls φ w ac hdm he hr hf;unfold wpListIn;rw[if_neg (by simp only[Region.wanted,hg];rw[zCa hf hd hb,e];cases want <;> simp)];exact⟨λ_ _=>trivial,h B0 w0 φs Ls φ w _ hdm he.put hr (hf.put (sZ hN) aZ)⟩

theorem zMo {j:Nat}{want:Bool}{d:Nat}(hg:o.guard=some (j,want))(hd:(ops[j]?).bind (·.dst)=some d)(hb:get a d=some undef)
  (hN:wK o N=true) (h:wC P N ops Q rest (put a o.dst undef) H):wC P N ops Q (o::rest) a H:=by
 intro B0 w0 φs Ls φ w ac hdm he hr hf;unfold wpListIn;obtain⟨v',h1,h2⟩:=hf.slot d _ hb;have:=Val.det rfl h2;subst this;rw[if_neg (by simp[Region.wanted,hg,yielded,hd,h1,undef])];exact⟨λ_ _=>trivial,h B0 w0 φs Ls φ w _ hdm he.put hr (hf.put (sZ hN) aZ)⟩

theorem zWt {H':zI}{v:Value}(hN:wK o N=true)
  (hop:∀B0 w0 φ w ac,Rel B0 w0 φ H w->xA φ (lens H) N a ac ->
   ∃φ' v' w',Ext φ (lens H) φ' (lens H')/\Rel B0 w0 φ' H' w'/\Val φ' (lens H') v v'/\(execOp ac.eval o).run P w=.ok (.value v') w')
  (k:wC P N ops Q rest (put a o.dst v) H'):AOp P N o ops rest Q a H:=by
 intro B0 w0 φs Ls φ w ac hdm he hr hf;obtain⟨φ',v',w',h1,h2,h3,h4⟩:=hop B0 w0 φ w ac hr hf;refine⟨λ_ _=>trivial,?_⟩;rw[vS h4 (λ_ h=>by cases h)];exact k B0 w0 φs Ls φ' w' _ hdm (he.trans h1).put h2 ((hf.mono h1).put (sZ hN) h3)

structure zR (P:Program)(N:Fr)(o:Oper)(a:AF)(H:zI)(v:Value):Prop where
 go:∀B0 w0 φ w ac,Rel B0 w0 φ H w->xA φ (lens H) N a ac ->
  ∃v',Val φ (lens H) v v'/\∀w1,Below w.heap.size w w1->(execOp ac.eval o).run P w1=.ok (.value v') w1

theorem iT {v:Value}(h:zR P N o a H v)(hN:wK o N=true)(k:wC P N ops Q rest (put a o.dst v) H):AOp P N o ops rest Q a H :=
 zWt hN (λB0 w0 φ w ac hr hf=>let ⟨v',h1,h2⟩:=h.go B0 w0 φ w ac hr hf;⟨φ,v',w,.refl _ _,hr,h1,h2 w (Below.refl _ _)⟩) k

structure xG (P:Program)(N:Fr)(o:Oper)(a:AF)(H:zI)(v:Value)(H':zI):Prop where
 go:∀B0 w0 φ w ac,Rel B0 w0 φ H w->xA φ (lens H) N a ac ->
  ∃φ' v' w',Ext φ (lens H) φ' (lens H')/\Rel B0 w0 φ' H' w'/\Val φ' (lens H') v v'/\((execOp ac.eval o).run P w=.ok (.value v') w'\/(v'=undef/\(execOp ac.eval o).run P w=.ok .skip w'))
theorem qI {H':zI}{v:Value}
  (hop:∀B0 w0 φ w ac,Rel B0 w0 φ H w->xA φ (lens H) N a ac ->
   ∃φ' v' w',Ext φ (lens H) φ' (lens H')/\Rel B0 w0 φ' H' w'/\Val φ' (lens H') v v'/\(execOp ac.eval o).run P w=.ok (.value v') w'):xG P N o a H v H' :=
 ⟨λB0 w0 φ w ac hr hf=>let ⟨φ',v',w',h1,h2,h3,h4⟩:=hop B0 w0 φ w ac hr hf;⟨φ',v',w',h1,h2,h3,.inl h4⟩⟩
theorem kR {H':zI}
  (hop:∀B0 w0 φ w ac,Rel B0 w0 φ H w->xA φ (lens H) N a ac ->
   ∃φ' w',Ext φ (lens H) φ' (lens H')/\Rel B0 w0 φ' H' w'/\(execOp ac.eval o).run P w=.ok .skip w'):xG P N o a H undef H' :=
 ⟨λB0 w0 φ w ac hr hf=>let ⟨φ',w',h1,h2,h4⟩:=hop B0 w0 φ w ac hr hf;⟨φ',undef,w',h1,h2,aZ,.inr ⟨rfl,h4⟩⟩⟩
theorem lI {H':zI}{v:Value}(h:xG P N o a H v H')(hN:wK o N=true)(k:wC P N ops Q rest (put a o.dst v) H'):AOp P N o ops rest Q a H:=by
 intro B0 w0 φs Ls φ w ac hdm he hr hf;obtain⟨φ',v',w',h1,h2,h3,h4⟩:=h.go B0 w0 φ w ac hr hf;refine⟨λ_ _=>trivial,?_⟩;rcases h4 with h4|⟨rfl,h4⟩
 ·rw[vS h4 (λ_ h=>by cases h)]
  exact k B0 w0 φs Ls φ' w' _ hdm (he.trans h1).put h2 ((hf.mono h1).put (sZ hN) h3)
 ·rw[vS h4 (λ_ h=>by cases h)]
  exact k B0 w0 φs Ls φ' w' _ hdm (he.trans h1).put h2 ((hf.mono h1).put (sZ hN) h3)

theorem rP (x:Operand){v:Value}(ho:o.op=.move x)(hx:ev a x=some v):zR P N o a H v :=
 ⟨λ_ _ _ _ _ _ hf=>⟨_,zN hf hx,λw _=>BigFrame.run_move x ho w⟩⟩

theorem iP (x:Operand){v:Value}(ho:o.op=.assign x)(hx:ev a x=some v):zR P N o a H v :=
 ⟨λ_ _ _ _ _ _ hf=>⟨_,zN hf hx,λw _=>BigFrame.run_assign x ho w⟩⟩

end

section
variable {P:Program}

def RC (B0:Nat)(w0:World)(φs:Fi)(Ls:zP)(R:Value->zI->Prop):Ending->World->Prop :=
 λe w=>∃φ r H v,Ext φs Ls φ (lens H)/\Rel B0 w0 φ H w/\e=.returned v/\Val φ (lens H) r v/\R r H

def Run (P:Program)(f:FuncId)(as0:List Value)(H:zI)(R:Value->zI->Prop):Prop :=
 ∀B0 w0 φs Ls φ w vs,Ext φs Ls φ (lens H)->Rel B0 w0 φ H w->yM φ (lens H) as0 vs->Calls P f vs w (RC B0 w0 φs Ls R)

theorem Run.mono {f:FuncId}{as0:List Value}{H:zI}{R R':Value->zI->Prop}(h:Run P f as0 H R)(hr:∀r H,R r H->R' r H):Run P f as0 H R' :=
 λB0 w0 φs Ls φ w vs he hrel hv=>(h B0 w0 φs Ls φ w vs he hrel hv).mono λ_ _ ⟨φ',r,H',v,h1,h2,h3,h4,h5⟩=>⟨φ',r,H',v,h1,h2,h3,h4,hr _ _ h5⟩

def xL (P:Program)(f:FuncId):Bool :=
 match P.funcs[f]? with
 |some fn=>fn.body.isSome && fn.name != "runtime.NumGoroutine"
 |none=>false

theorem uU {f:FuncId}(h:xL P f=true)(args:Array Value)(w:World):(callFunc f args).run P w=.ok (.enter f args) w:=by
 unfold xL at h;cases hf:P.funcs[f]? with
 |none=>rw[hf]at h;cases h
 |some fn =>
  rw[hf]at h;simp only[Bool.and_eq_true,bne_iff_ne,ne_eq]at h;have h1:fn.body.isNone=false:=by cases hb:fn.body <;> simp_all
  have h2:(fn.name == "runtime.NumGoroutine")=false:=by simpa using h.2
  simp only[callFunc,program,Sem.run_bind,Sem.run,Result.andThen_ok,hf,h2,h1,Bool.false_eq_true,if_false];rfl

def evs (a:AF):List Operand->Option (List Value)
 |[]=>some []
 |x::r=>match ev a x,evs a r with
  |some v,some vs=>some (v::vs)
  |_,_=>none

theorem pD {φ:Fi}{L:zP}{N:Fr}{a:AF}{ac:Act}(h:xA φ L N a ac):∀{xs:List Operand} {vs:List Value},evs a xs=some vs ->
  yM φ L vs (xs.map ac.eval).toArray:=by
 intro xs
 induction xs with
 |nil=>intro vs hv;simp only[evs,Option.some.injEq]at hv;subst hv;exact⟨rfl,λi v hi=>by simp at hi⟩
 |cons x r ih =>
  intro vs hv;simp only[evs]at hv;cases hx:ev a x with
  |none=>rw[hx]at hv;simp at hv
  |some u =>
   cases hr:evs a r with
   |none=>rw[hx,hr]at hv;simp at hv
   |some us =>
    rw[hx,hr]at hv;simp only[Option.some.injEq]at hv;subst hv;have:=ih hr;refine⟨by have:=this.size;simp at this ⊢;exact this,λi v hi=>?_⟩;cases i with
    |zero=>simp only[List.getElem?_cons_zero,Option.some.injEq]at hi;subst hi;exact⟨_,by simp,zN h hx⟩
    |succ i =>
     simp only[List.getElem?_cons_succ]at hi;obtain⟨v',h1,h2⟩:=this.get i v hi;exact⟨v',by simpa using h1,h2⟩

theorem yM.of_arrays {φ:Fi}{L:zP}{a b:Array Value}(h1:a.size=b.size)(h2:∀i (h:i<a.size) (h':i<b.size),Val φ L a[i] b[i]):yM φ L a.toList b:=by
 refine⟨by simp[h1],λi v hi=>?_⟩;have hi':i<a.size:=by
  have:=(List.getElem?_eq_some_iff.1 hi).1;simpa using this
 refine⟨b[i]'(by omega),by rw[Array.getElem?_eq_getElem (by omega)],?_⟩;have:v=a[i]:=by
  have:=(List.getElem?_eq_some_iff.1 hi).2;simpa using this.symm
 rw[this];exact h2 i hi' (by omega)

theorem yM.append {φ:Fi}{L:zP}{as0 bs:List Value}{vs us:Array Value}(h:yM φ L as0 vs)(k:yM φ L bs us):yM φ L (as0++bs) (vs++us):=by
 refine⟨by simp[h.size,k.size],λi v hi=>?_⟩;rw[List.getElem?_append]at hi;rw[Array.getElem?_append,h.size];split at hi
 ·rename_i hlt;rw[if_pos hlt];exact h.get i v hi
 ·rename_i hlt;rw[if_neg hlt];exact k.get _ v hi

variable {N:Fr} {ops:Array Oper} {Q:xR} {rest:List Oper} {o:Oper} {a:AF} {H:zI}

theorem zQg {f:FuncId}{as0:List Value}{R:Value->zI->Prop}(hN:wK o N=true)
  (hop:∀φ ac,xA φ (lens H) N a ac->∃vs,yM φ (lens H) as0 vs/\∀w,(execOp ac.eval o).run P w=.ok (.enter f vs) w)
  (hr:Run P f as0 H R) (k:∀r H',R r H'->wC P N ops Q rest (put a o.dst r) H'):AOp P N o ops rest Q a H:=by
 intro B0 w0 φs Ls φ w ac hdm he hrel hf;obtain⟨vs,h1,h2⟩:=hop φ ac hf;refine⟨λ_ _=>trivial,?_⟩;rw[vS (h2 w) (λ_ h=>by cases h)];refine⟨(λh=>by cases h),(callsIn_wide (n:=0)).2 ((hr B0 w0 φ (lens H) φ w vs (.refl _ _) hrel h1).mono ?_)⟩;rintro e w' ⟨φ',r,H',v,g1,g2,rfl,g4,g5⟩;exact k r H' g5 B0 w0 φs Ls φ' w' _ hdm (he.trans g1).put g2 ((hf.mono g1).put (sZ hN) g4)

theorem yGw (x:Operand)(xs:List Operand)(ts:Array TypeId){f:FuncId}{first captured:Array Value}{as0:List Value}{R:Value->zI->Prop}
  (ho:o.op=.call { callee:=.value x,args:=xs.toArray,argTypes:=ts }) (hx:ev a x=some (.func (.func f) first captured)) (hxs:evs a xs=some as0)
  (hf:xL P f=true) (hN:wK o N=true) (hr:Run P f (first.toList++as0++captured.toList) H R)
  (k:∀r H',R r H'->wC P N ops Q rest (put a o.dst r) H'):AOp P N o ops rest Q a H:=by
 refine zQg hN ?_ hr k;intro φ ac hfr;have h1:=zN hfr hx;have h2:=pD hfr hxs;generalize hu:ac.eval x=u at h1;cases h1 with
 |func _ _ b _ d e1 e2 e3 e4 =>
  refine⟨_,((yM.of_arrays e1 e2).append h2).append (yM.of_arrays e3 e4),λw=>?_⟩;unfold execOp;simp only[ho,resolve,List.map_toArray,hu,Deferred.ofValue,Sem.run_bind,Sem.run_pure,Result.andThen_ok,invoke];exact uU hf _ w

def CloV (n:Nat)(v:Value):Prop :=
 ∀φ L φ2 L2 u,(∀A,A<n->L2 A=L A/\φ2 A=φ A)->Val φ L v u->Val φ2 L2 v u
def CloH (H:zI):Prop:=∀(A:Nat) (g:Blk) (v:Value),H[A]?=some (some g)->v∈g.cells->CloV H.length v

theorem yJj {φ0:Fi}{L0:zP}{v u0:Value}(h:Val φ0 L0 v u0){n:Nat}(hn:∀A m,L0 A=some m->A<n):CloV n v:=by
 induction h with
 |ptr A o q m c hL hv h0 =>
  intro φ L φ2 L2 u e hu;cases hu with
  |ptr _ _ _ m' c' hL' hv' h' =>
   obtain⟨e1,e2⟩:=e A (hn A m hL);exact .ptr A o q m' c' (e1.trans hL') hv' (λx=>by rw[e2];exact h' x)
 |slc A o q m len fl cap c hL hv hc hm h0 =>
  intro φ L φ2 L2 u e hu;cases hu with
  |slc _ _ _ m' _ _ cap' c' hL' hv' hc' hm' h' =>
   obtain⟨e1,e2⟩:=e A (hn A m hL);exact .slc A o q m' len fl cap' c' (e1.trans hL') hv' hc' hm' (λx=>by rw[e2];exact h' x)
 |full A o q m len c hL hv hm h0 =>
  intro φ L φ2 L2 u e hu;cases hu with
  |full _ _ _ m' _ c' hL' hv' hm' h' =>
   obtain⟨e1,e2⟩:=e A (hn A m hL);exact .full A o q m' len c' (e1.trans hL') hv' hm' (λx=>by rw[e2];exact h' x)
 |map A m r hL h0 =>
  intro φ L φ2 L2 u e hu;cases hu with
  |map _ m' r' hL' h' =>
   obtain⟨e1,e2⟩:=e A (hn A m hL);exact .map A m' r' (e1.trans hL') (by rw[e2];exact h')
 |yld A m r hL h0 =>
  intro φ L φ2 L2 u e hu;cases hu with
  |yld _ m' r' hL' h' =>
   obtain⟨e1,e2⟩:=e A (hn A m hL);exact .yld A m' r' (e1.trans hL') (by rw[e2];exact h')
 |itr A m r hL h0 =>
  intro φ L φ2 L2 u e hu;cases hu with
  |itr _ m' r' hL' h' =>
   obtain⟨e1,e2⟩:=e A (hn A m hL);exact .itr A m' r' (e1.trans hL') (by rw[e2];exact h')
 |bag A m r hL h0 =>
  intro φ L φ2 L2 u e hu;cases hu with
  |bag _ m' r' hL' h' =>
   obtain⟨e1,e2⟩:=e A (hn A m hL);exact .bag A m' r' (e1.trans hL') (by rw[e2];exact h')
 |func f a b c d h1 _ h3 _ ih1 ih2 =>
  intro φ L φ2 L2 u e hu;cases hu with
  |func _ _ b' _ d' k1 k2 k3 k4 =>
   exact .func f a b' c d' k1 (λi p q=>ih1 i p (by omega) φ L φ2 L2 _ e (k2 i p q)) k3 (λi p q=>ih2 i p (by omega) φ L φ2 L2 _ e (k4 i p q))
 |iface t v v' _ ih =>
  intro φ L φ2 L2 u e hu;cases hu with
  |iface _ _ w h=>exact .iface t v w (ih φ L φ2 L2 w e h)
 |agg a b h1 _ ih =>
  intro φ L φ2 L2 u e hu;cases hu with
  |agg _ b' k1 k2=>exact .agg a b' k1 (λi p q=>ih i p (by omega) φ L φ2 L2 _ e (k2 i p q))
 |tuple a b h1 _ ih =>
  intro φ L φ2 L2 u e hu;cases hu with
  |tuple _ b' k1 k2=>exact .tuple a b' k1 (λi p q=>ih i p (by omega) φ L φ2 L2 _ e (k2 i p q))
 |_ =>
  intro φ L φ2 L2 u e hu;cases hu <;> constructor <;> assumption

theorem Rel.clo {B0:Nat}{w0:World}{φ:Fi}{w:World}(r:Rel B0 w0 φ H w):CloH H:=by
 intro A g v hA hv;obtain⟨o,c,h1,h2,h3,h5⟩:=(r.blk A g hA).any;obtain⟨i,hi,rfl⟩:=List.getElem_of_mem hv;obtain⟨v',_,g2⟩:=h5 i g.cells[i] (by simp[hi]);exact yJj g2 (λA m h=>dM h)

end
attribute [irreducible] AWp wC AOp Run

abbrev S (l:List UInt8):Value:=.string ⟨⟨l⟩⟩
abbrev I (n:Int):Value:=.int .i64 n
abbrev B (b:Bool):Value:=.bool b
def bat (l:List UInt8)(i:Int):Int:=((l.getD i.toNat 0).toNat:Int)
theorem yNl (s:ByteArray):∃l,s=⟨⟨l⟩⟩:=⟨s.data.toList,by cases s;rfl⟩

section
variable {P:Program} {N:Fr} {ops:Array Oper} {Q:xR} {rest:List Oper} {o:Oper} {a:AF} {H:zI}

theorem pZ {ρ:Operand->Value}{op:BinOp}{T U:TypeId}{x y:Operand}{r:Value}{w:World}(ho:o.op=.binOp op T x y U)
  (hg:(eqGuard op T x y (ρ x) (ρ y)).run P w=.ok () w) (hr:(binOp op T (ρ x) (ρ y)).run P w=.ok r w):(execOp ρ o).run P w=.ok (.value r) w:=by
 unfold execOp;simp only[ho,Sem.run_bind,hg,Result.andThen_ok,hr,Sem.run_pure]

theorem qS {op:BinOp}{T:TypeId}{x y:Operand}{k k':IntKind}{m n:Int}{w:World}:(eqGuard op T x y (.int k m) (.int k' n)).run P w=.ok () w:=by
 unfold eqGuard;cases op <;> simp
theorem dV {op:BinOp}{T:TypeId}{x y:Operand}{m n:ByteArray}{w:World}:(eqGuard op T x y (.string m) (.string n)).run P w=.ok () w:=by
 unfold eqGuard;cases op <;> simp
theorem zPy {op:BinOp}{T:TypeId}{x y:Operand}{m n:Bool}{w:World}:(eqGuard op T x y (.bool m) (.bool n)).run P w=.ok () w:=by
 unfold eqGuard;cases op <;> simp

theorem vD (op:BinOp)(T U:TypeId)(x y:Operand){u v r:Value}(ho:o.op=.binOp op T x y U)(hx:ev a x=some u)(hy:ev a y=some v)
  (hu:scalar u=true) (hv:scalar v=true) (hg:∀w,(eqGuard op T x y u v).run P w=.ok () w) (hr:∀w,(binOp op T u v).run P w=.ok r w) (hc:yB r=true):zR P N o a H r:=by
 refine⟨λ_ _ φ w ac _ hf=>?_⟩;have h1:=(zN hf hx).scalar hu;have h2:=(zN hf hy).scalar hv;exact⟨r,Val.const hc,λw _=>pZ ho (by rw[h1,h2];exact hg w) (by rw[h1,h2];exact hr w)⟩

section
variable (T U:TypeId) (x y:Operand) {k:IntKind} {m n r:Int}

theorem zQf (ho:o.op=.binOp .add T x y U)(hx:ev a x=some (.int k m))(hy:ev a y=some (.int k n))(hr:k.wrap (m+n)=r):zR P N o a H (.int k r) :=
 vD .add T U x y ho hx hy rfl rfl (λ_=>qS) (λ_=>by simp[binOp,Op.intArith,hr]) rfl

theorem zJj (ho:o.op=.binOp .sub T x y U)(hx:ev a x=some (.int k m))(hy:ev a y=some (.int k n))(hr:k.wrap (m-n)=r):zR P N o a H (.int k r) :=
 vD .sub T U x y ho hx hy rfl rfl (λ_=>qS) (λ_=>by simp[binOp,Op.intArith,hr]) rfl

theorem zHr (ho:o.op=.binOp .mul T x y U)(hx:ev a x=some (.int k m))(hy:ev a y=some (.int k n))(hr:k.wrap (m*n)=r):zR P N o a H (.int k r) :=
 vD .mul T U x y ho hx hy rfl rfl (λ_=>qS) (λ_=>by simp[binOp,Op.intArith,hr]) rfl

theorem zQv (ho:o.op=.binOp .quo T x y U)(hx:ev a x=some (.int k m))(hy:ev a y=some (.int k n))(hn:n≠0)(hr:k.wrap (m.tdiv n)=r):zR P N o a H (.int k r) :=
 vD .quo T U x y ho hx hy rfl rfl (λ_=>qS) (λ_=>by simp[binOp,Op.intDiv,hn,hr]) rfl

theorem zTi (ho:o.op=.binOp .rem T x y U)(hx:ev a x=some (.int k m))(hy:ev a y=some (.int k n))(hn:n≠0)(hr:m.tmod n=r):zR P N o a H (.int k r) :=
 vD .rem T U x y ho hx hy rfl rfl (λ_=>qS) (λ_=>by simp[binOp,Op.intDiv,hn,hr]) rfl

theorem zKy (ho:o.op=.binOp .and T x y U)(hx:ev a x=some (.int k m))(hy:ev a y=some (.int k n))(hr:k.wrap (BitVec.ofInt k.bits m&&&BitVec.ofInt k.bits n).toNat=r):zR P N o a H (.int k r) :=
 vD .and T U x y ho hx hy rfl rfl (λ_=>qS) (λ_=>by subst hr;simp[binOp,Op.intBits]) rfl

theorem a_or (ho:o.op=.binOp .or T x y U)(hx:ev a x=some (.int k m))(hy:ev a y=some (.int k n))(hr:k.wrap (BitVec.ofInt k.bits m ||| BitVec.ofInt k.bits n).toNat=r):zR P N o a H (.int k r) :=
 vD .or T U x y ho hx hy rfl rfl (λ_=>qS) (λ_=>by subst hr;simp[binOp,Op.intBits]) rfl

theorem zPn (ho:o.op=.binOp .xor T x y U)(hx:ev a x=some (.int k m))(hy:ev a y=some (.int k n))(hr:k.wrap (BitVec.ofInt k.bits m^^^BitVec.ofInt k.bits n).toNat=r):zR P N o a H (.int k r) :=
 vD .xor T U x y ho hx hy rfl rfl (λ_=>qS) (λ_=>by subst hr;simp[binOp,Op.intBits]) rfl

theorem zMr {k':IntKind}(ho:o.op=.binOp .shl T x y U)(hx:ev a x=some (.int k m))(hy:ev a y=some (.int k' n))(hn:0<=n)(hr:k.wrap (m*2^(min n.toNat k.bits))=r):zR P N o a H (.int k r) :=
 vD .shl T U x y ho hx hy rfl rfl (λ_=>qS) (λ_=>by subst hr;simp only[binOp,Op.shift];rw[if_neg (by omega)];rfl) rfl

theorem zOy {k':IntKind}(ho:o.op=.binOp .shr T x y U)(hx:ev a x=some (.int k m))(hy:ev a y=some (.int k' n))(hn:0<=n)(hr:m.fdiv (2^(min n.toNat k.bits))=r):zR P N o a H (.int k r) :=
 vD .shr T U x y ho hx hy rfl rfl (λ_=>qS) (λ_=>by subst hr;simp only[binOp,Op.shift];rw[if_neg (by omega)];rfl) rfl

theorem zHu (ho:o.op=.binOp .lss T x y U)(hx:ev a x=some (.int k m))(hy:ev a y=some (.int k n)):zR P N o a H (.bool (decide (m<n))) :=
 vD .lss T U x y ho hx hy rfl rfl (λ_=>qS) (λ_=>by simp[binOp,Op.intCmp]) rfl
theorem zOi (ho:o.op=.binOp .leq T x y U)(hx:ev a x=some (.int k m))(hy:ev a y=some (.int k n)):zR P N o a H (.bool (decide (m<=n))) :=
 vD .leq T U x y ho hx hy rfl rfl (λ_=>qS) (λ_=>by simp[binOp,Op.intCmp]) rfl
theorem zMg (ho:o.op=.binOp .gtr T x y U)(hx:ev a x=some (.int k m))(hy:ev a y=some (.int k n)):zR P N o a H (.bool (decide (n<m))) :=
 vD .gtr T U x y ho hx hy rfl rfl (λ_=>qS) (λ_=>by simp[binOp,Op.intCmp]) rfl
theorem zIf (ho:o.op=.binOp .geq T x y U)(hx:ev a x=some (.int k m))(hy:ev a y=some (.int k n)):zR P N o a H (.bool (decide (n<=m))) :=
 vD .geq T U x y ho hx hy rfl rfl (λ_=>qS) (λ_=>by simp[binOp,Op.intCmp]) rfl
theorem zTh (ho:o.op=.binOp .eql T x y U)(hx:ev a x=some (.int k m))(hy:ev a y=some (.int k n)):zR P N o a H (.bool (decide (m=n))) :=
 vD .eql T U x y ho hx hy rfl rfl (λ_=>qS) (λ_=>by simp only[binOp,Op.intCmp,ne_eq,not_true_eq_false,if_false];rfl) rfl
theorem zUt (ho:o.op=.binOp .neq T x y U)(hx:ev a x=some (.int k m))(hy:ev a y=some (.int k n)):zR P N o a H (.bool (decide (m≠n))) :=
 vD .neq T U x y ho hx hy rfl rfl (λ_=>qS) (λ_=>by
  simp only[binOp,Op.intCmp,ne_eq,not_true_eq_false,if_false,Sem.run_pure];rw[show(m != n)=decide (¬m=n)from by rw[Bool.eq_iff_iff];simp]) rfl
end

theorem aT (l:List UInt8):(⟨⟨l⟩⟩:ByteArray).toList=l:=by rw[ByteArray.toList_eq]

section
variable (T U:TypeId) (x y:Operand) {l m:List UInt8}
theorem zSo (ho:o.op=.binOp .add T x y U)(hx:ev a x=some (S l))(hy:ev a y=some (S m))(hl:l.length+m.length<=9223372036854775807):zR P N o a H (S (l++m)) :=
 vD .add T U x y ho hx hy rfl rfl (λ_=>dV) (λ_=>by
  simp only[binOp,Op.stringOp];rw[if_neg (by
   have:IntKind.i64.max=9223372036854775807:=by decide
   rw[this];show ¬(((l.length+m.length:Nat):Int) > _);omega)]
  simp only[Sem.run_pure]
  congr 2) rfl
theorem zMs (ho:o.op=.binOp .eql T x y U)(hx:ev a x=some (S l))(hy:ev a y=some (S m)):zR P N o a H (.bool (decide (l=m))) :=
 vD .eql T U x y ho hx hy rfl rfl (λ_=>dV) (λ_=>by
  simp only[binOp,Op.stringOp,aT,Sem.run_pure];rw[show(l == m)=decide (l=m)from by rw[Bool.eq_iff_iff];simp]) rfl
theorem zTx (ho:o.op=.binOp .neq T x y U)(hx:ev a x=some (S l))(hy:ev a y=some (S m)):zR P N o a H (.bool (decide (l≠m))) :=
 vD .neq T U x y ho hx hy rfl rfl (λ_=>dV) (λ_=>by
  simp only[binOp,Op.stringOp,aT,Sem.run_pure];rw[show(!(l == m))=decide (l≠m)from by rw[Bool.eq_iff_iff];simp]) rfl
theorem zPk (ho:o.op=.binOp .lss T x y U)(hx:ev a x=some (S l))(hy:ev a y=some (S m)):zR P N o a H (.bool (Op.bytesLess l m)) :=
 vD .lss T U x y ho hx hy rfl rfl (λ_=>dV) (λ_=>by simp only[binOp,Op.stringOp,aT,Sem.run_pure]) rfl
theorem zTz (ho:o.op=.binOp .gtr T x y U)(hx:ev a x=some (S l))(hy:ev a y=some (S m)):zR P N o a H (.bool (!(Op.bytesLess l m || (l == m)))) :=
 vD .gtr T U x y ho hx hy rfl rfl (λ_=>dV) (λ_=>by simp only[binOp,Op.stringOp,aT,Sem.run_pure]) rfl
end

theorem zTu {T:TypeId}{m n:Bool}{w:World}(hT:P.underlying T=some .bool):(Op.equal T (.bool m) (.bool n)).run P w=.ok (m == n) w:=by
 show(Op.equalIn (9999+1) _ _ _).run P w=_;rw[Op.equalIn];simp only[Sem.run_bind,run_underlying hT,Result.andThen_ok,Sem.run_pure]
theorem zKf {T E:TypeId}{m n:Option Addr}{w:World}(hT:P.underlying T=some (.pointer E))(h:n=none):(Op.equal T (.pointer m) (.pointer n)).run P w=.ok m.isNone w:=by
 subst h;show(Op.equalIn (9999+1) _ _ _).run P w=_;rw[Op.equalIn];simp only[Sem.run_bind,run_underlying hT,Result.andThen_ok];cases m <;> rfl
theorem zCi (a b:Bool):(a == b)=decide (a=b):=by cases a <;> cases b <;> rfl
theorem bneq (a b:Bool):(!(a == b))=decide (a≠b):=by cases a <;> cases b <;> rfl
theorem zOd (T U:TypeId)(x y:Operand){m n:Bool}(ho:o.op=.binOp .eql T x y U)(hx:ev a x=some (.bool m))(hy:ev a y=some (.bool n))
  (hT:P.underlying T=some .bool):zR P N o a H (.bool (decide (m=n))) :=
 vD .eql T U x y ho hx hy rfl rfl (λ_=>zPy) (λ_=>by
  simp only[binOp,Sem.run_bind,zTu hT,Result.andThen_ok,Sem.run_pure,zCi]) rfl
theorem zLg (T U:TypeId)(x y:Operand){m n:Bool}(ho:o.op=.binOp .neq T x y U)(hx:ev a x=some (.bool m))(hy:ev a y=some (.bool n))
  (hT:P.underlying T=some .bool):zR P N o a H (.bool (decide (m≠n))) :=
 vD .neq T U x y ho hx hy rfl rfl (λ_=>zPy) (λ_=>by
  simp only[binOp,Sem.run_bind,zTu hT,Result.andThen_ok,Sem.run_pure,bneq]) rfl

theorem zLr (T U:TypeId)(x y:Operand){E:TypeId}{ad:Option Addr}(ho:o.op=.binOp .eql T x y U)(hx:ev a x=some (.pointer ad))(hy:ev a y=some (.pointer none))
  (hT:P.underlying T=some (.pointer E)):zR P N o a H (.bool ad.isNone):=by
 refine⟨λ_ _ φ w ac _ hf=>?_⟩;have h1:=zN hf hx;have h2:=zN hf hy;generalize hu:ac.eval x=u at h1;generalize hv:ac.eval y=v at h2;cases h2;refine⟨.bool ad.isNone,.bool _,λw _=>pZ ho ?_ ?_⟩
 ·rw[hu,hv];cases h1 <;> (unfold eqGuard;simp)
 ·rw[hu,hv];cases h1 <;> simp only[binOp,Sem.run_bind,zKf hT rfl,Result.andThen_ok,Sem.run_pure] <;> rfl
theorem zLx (T U:TypeId)(x y:Operand){E:TypeId}{ad:Option Addr}(ho:o.op=.binOp .neq T x y U)(hx:ev a x=some (.pointer ad))(hy:ev a y=some (.pointer none))
  (hT:P.underlying T=some (.pointer E)):zR P N o a H (.bool ad.isSome):=by
 refine⟨λ_ _ φ w ac _ hf=>?_⟩;have h1:=zN hf hx;have h2:=zN hf hy;generalize hu:ac.eval x=u at h1;generalize hv:ac.eval y=v at h2;cases h2;refine⟨.bool ad.isSome,.bool _,λw _=>pZ ho ?_ ?_⟩
 ·rw[hu,hv];cases h1 <;> (unfold eqGuard;simp)
 ·rw[hu,hv];cases h1 <;> simp only[binOp,Sem.run_bind,zKf hT rfl,Result.andThen_ok,Sem.run_pure] <;> rfl

theorem zCw (T:TypeId)(x:Operand){b:Bool}(ho:o.op=.unOp .not T x)(hx:ev a x=some (.bool b)):zR P N o a H (.bool (!b)):=by
 refine⟨λ_ _ φ w ac _ hf=>?_⟩;have h1:=(zN hf hx).scalar rfl;exact⟨_,.bool _,λw _=>by unfold execOp;simp only[ho,h1,Op.unary,Sem.run_bind,Sem.run_pure,Result.andThen_ok]⟩

theorem zNk (T:TypeId)(x:Operand){k:IntKind}{n r:Int}(ho:o.op=.unOp .neg T x)(hx:ev a x=some (.int k n))(hr:k.wrap (0-n)=r):zR P N o a H (.int k r):=by
 refine⟨λ_ _ φ w ac _ hf=>?_⟩;have h1:=(zN hf hx).scalar rfl;exact⟨_,.int _ _,λw _=>by unfold execOp;simp only[ho,h1,Op.unary,Op.intArith,Sem.run_bind,Sem.run_pure,Result.andThen_ok,hr]⟩

theorem zSi (c x y:Operand){b:Bool}{v:Value}(ho:o.op=.pick c x y)(hc:ev a c=some (.bool b))(hb:b=true)(hx:ev a x=some v):zR P N o a H v:=by
 refine⟨λ_ _ φ w ac _ hf=>?_⟩;have h1:=(zN hf hc).scalar rfl;subst hb;exact⟨_,zN hf hx,λw _=>by unfold execOp;simp only[ho,h1,asBool,Sem.run_bind,Sem.run_pure,Result.andThen_ok,if_true]⟩
theorem zVh (c x y:Operand){b:Bool}{v:Value}(ho:o.op=.pick c x y)(hc:ev a c=some (.bool b))(hb:b=false)(hy:ev a y=some v):zR P N o a H v:=by
 refine⟨λ_ _ φ w ac _ hf=>?_⟩;have h1:=(zN hf hc).scalar rfl;subst hb;exact⟨_,zN hf hy,λw _=>by unfold execOp;simp[ho,h1,asBool]⟩

theorem zJo (T U:TypeId)(x:Operand){j k:IntKind}{n r:Int}{d:TypeDesc}(ho:o.op=.convert T U x)(hx:ev a x=some (.int j n))
  (hT:P.underlying T=some d) (hU:P.underlying U=some (.int k)) (hr:k.wrap n=r):zR P N o a H (.int k r):=by
 refine⟨λ_ _ φ w ac _ hf=>?_⟩;have h1:=(zN hf hx).scalar rfl;exact⟨_,.int _ _,λw _=>by unfold execOp;simp[ho,h1,convert,run_underlying hT,run_underlying hU,Conv.intToInt,hr]⟩

theorem yNi (T U:TypeId)(x:Operand){l:List UInt8}(ho:o.op=.convert T U x)(hx:ev a x=some (S l))
  (hT:P.underlying T=some .string) (hU:P.underlying U=some .string):zR P N o a H (S l):=by
 refine⟨λ_ _ φ w ac _ hf=>?_⟩;have h1:=(zN hf hx).scalar rfl;exact⟨_,.str _,λw _=>by unfold execOp;simp[ho,h1,convert,run_underlying hT,run_underlying hU]⟩

theorem zPm (T:TypeId)(x y:Operand){l:List UInt8}{k:IntKind}{i:Int}(ho:o.op=.index T x y)(hx:ev a x=some (S l))(hy:ev a y=some (.int k i))
  (hT:P.underlying T=some .string) (hi:0<=i/\i<l.length):zR P N o a H (.int .u8 (bat l i)):=by
 refine⟨λ_ _ φ w ac _ hf=>?_⟩;have h1:=(zN hf hx).scalar rfl;have h2:=(zN hf hy).scalar rfl;have h3:(⟨⟨l⟩⟩:ByteArray)[i.toNat]?=some (l.getD i.toNat 0):=by
  have hlt:i.toNat<l.length:=by omega
  have hs:i.toNat<(⟨⟨l⟩⟩:ByteArray).size:=hlt;rw[getElem?_pos (⟨⟨l⟩⟩:ByteArray) i.toNat hs]
  congr 1
  show(⟨l⟩:Array UInt8)[i.toNat]=_;simp[hlt]
 refine⟨_,.int _ _,λw _=>?_⟩;unfold execOp;simp only[ho,h1,h2,Instr.index,asIntOf,Sem.run_bind,Sem.run_pure,Result.andThen_ok,run_underlying hT,if_pos hi.1,h3];rfl

theorem zMx (T:TypeId)(x:Operand){l:List UInt8}(ho:o.op=.call { callee:=.builtin .len,args:=#[x],argTypes:=#[T] })(hx:ev a x=some (S l))
  (hT:P.underlying T=some .string):zR P N o a H (I l.length):=by
 refine⟨λ_ _ φ w ac _ hf=>?_⟩;have h1:=(zN hf hx).scalar rfl;refine⟨_,.int _ _,λw _=>?_⟩;unfold execOp;simp[ho,resolve,invoke,builtin,h1,Builtin.len_,run_underlying hT,goInt];rfl

theorem zVu (T:TypeId)(x:Operand){E:TypeId}{ad:Option Addr}{n fl:Nat}(ho:o.op=.call { callee:=.builtin .len,args:=#[x],argTypes:=#[T] })(hx:ev a x=some (.slice ad n fl))
  (hT:P.underlying T=some (.slice E)):zR P N o a H (I n):=by
 refine⟨λ_ _ φ w ac _ hf=>?_⟩;have h1:=zN hf hx;generalize hu:ac.eval x=u at h1;refine⟨_,.int _ _,λw _=>?_⟩;unfold execOp;cases h1 <;> simp[ho,resolve,invoke,builtin,hu,Builtin.len_,run_underlying hT,goInt]

theorem zJl (T U:TypeId)(x y:Operand){k:IntKind}{m n:Int}(ho:o.op=.call { callee:=.builtin .min,args:=#[x,y],argTypes:=#[T,U] })(hx:ev a x=some (.int k m))(hy:ev a y=some (.int k n)):zR P N o a H (.int k (min m n)):=by
 refine⟨λ_ _ φ w ac _ hf=>?_⟩;have h1:=(zN hf hx).scalar rfl;have h2:=(zN hf hy).scalar rfl;refine⟨_,.int _ _,λw _=>?_⟩;unfold execOp;simp only[ho,resolve,invoke,builtin,List.map_toArray,List.map_cons,List.map_nil,h1,h2,Builtin.min_,List.foldlM_cons,List.foldlM_nil,Builtin.min2,Sem.run_bind,Sem.run_pure,Result.andThen_ok];rw[show(if n<m then n else m)=min m n from by omega]

theorem zKg (T U:TypeId)(x y:Operand){k:IntKind}{m n:Int}(ho:o.op=.call { callee:=.builtin .max,args:=#[x,y],argTypes:=#[T,U] })(hx:ev a x=some (.int k m))(hy:ev a y=some (.int k n)):zR P N o a H (.int k (max m n)):=by
 refine⟨λ_ _ φ w ac _ hf=>?_⟩;have h1:=(zN hf hx).scalar rfl;have h2:=(zN hf hy).scalar rfl;refine⟨_,.int _ _,λw _=>?_⟩;unfold execOp;simp only[ho,resolve,invoke,builtin,List.map_toArray,List.map_cons,List.map_nil,h1,h2,Builtin.max_,List.foldlM_cons,List.foldlM_nil,Builtin.max2,Sem.run_bind,Sem.run_pure,Result.andThen_ok];rw[show(if n > m then n else m)=max m n from by omega]

theorem zGb (l:List UInt8)(i j:Nat):(⟨⟨l⟩⟩:ByteArray).extract i j=⟨⟨(l.take j).drop i⟩⟩:=by
 apply ByteArray.ext;rw[ByteArray.data_extract];apply Array.ext';simp[List.drop_take]

theorem zUv (T:TypeId)(x lo hi:Operand){l:List UInt8}{j k:IntKind}{i n:Int}(ho:o.op=.slice T x (some lo) (some hi) none)(hx:ev a x=some (S l))(hlo:ev a lo=some (.int j i))(hhi:ev a hi=some (.int k n))
  (hT:P.underlying T=some .string) (h1:0<=i/\i<=n/\n<=l.length):zR P N o a H (S ((l.take n.toNat).drop i.toNat)):=by
 refine⟨λ_ _ φ w ac _ hf=>?_⟩;have e1:=(zN hf hx).scalar rfl;have e2:=(zN hf hlo).scalar rfl;have e3:=(zN hf hhi).scalar rfl;have hs:(⟨⟨l⟩⟩:ByteArray).size=l.length:=rfl;refine⟨_,.str _,λw _=>?_⟩;unfold execOp;simp only[ho,Instr.sliceAt,Instr.slice,e1,e2,e3,Option.map_some,Option.map_none,Sem.run_bind,run_underlying hT,Result.andThen_ok,Option.isSome_none,Bool.false_eq_true,if_false,Instr.sliceBounds,Instr.sliceBound,asIntOf,Sem.run_pure,hs,
  Sem.run_ite,if_pos (show 0<=n/\n<=l.length from⟨by omega,h1.2.2⟩),if_pos (show 0<=i/\i<=(n.toNat:Int)from⟨h1.1,by omega⟩),zGb]

theorem zRf (T:TypeId)(x lo:Operand){l:List UInt8}{j:IntKind}{i:Int}(ho:o.op=.slice T x (some lo) none none)(hx:ev a x=some (S l))(hlo:ev a lo=some (.int j i))
  (hT:P.underlying T=some .string) (h1:0<=i/\i<=l.length):zR P N o a H (S (l.drop i.toNat)):=by
 refine⟨λ_ _ φ w ac _ hf=>?_⟩;have e1:=(zN hf hx).scalar rfl;have e2:=(zN hf hlo).scalar rfl;have hs:(⟨⟨l⟩⟩:ByteArray).size=l.length:=rfl;refine⟨_,.str _,λw _=>?_⟩;unfold execOp;simp only[ho,Instr.sliceAt,Instr.slice,e1,e2,Option.map_some,Option.map_none,Sem.run_bind,run_underlying hT,Result.andThen_ok,Option.isSome_none,Bool.false_eq_true,if_false,Instr.sliceBounds,Instr.sliceBound,asIntOf,Sem.run_pure,hs,
  Sem.run_ite,if_pos h1,zGb,List.take_length]

theorem zTf (T:TypeId)(x hi:Operand){l:List UInt8}{k:IntKind}{n:Int}(ho:o.op=.slice T x none (some hi) none)(hx:ev a x=some (S l))(hhi:ev a hi=some (.int k n))
  (hT:P.underlying T=some .string) (h1:0<=n/\n<=l.length):zR P N o a H (S (l.take n.toNat)):=by
 refine⟨λ_ _ φ w ac _ hf=>?_⟩;have e1:=(zN hf hx).scalar rfl;have e3:=(zN hf hhi).scalar rfl;have hs:(⟨⟨l⟩⟩:ByteArray).size=l.length:=rfl;refine⟨_,.str _,λw _=>?_⟩;unfold execOp;simp only[ho,Instr.sliceAt,Instr.slice,e1,e3,Option.map_some,Option.map_none,Sem.run_bind,run_underlying hT,Result.andThen_ok,Option.isSome_none,Bool.false_eq_true,if_false,Instr.sliceBounds,Instr.sliceBound,asIntOf,Sem.run_pure,hs,
  Sem.run_ite,if_pos h1,zGb,List.drop_zero]

theorem zLs (x:Operand)(i:Nat){vs:Array Value}{v:Value}(ho:o.op=.extract x i)(hx:ev a x=some (.tuple vs))(hv:vs[i]?=some v):zR P N o a H v:=by
 refine⟨λ_ _ φ w ac _ hf=>?_⟩;have h1:=zN hf hx;generalize hu:ac.eval x=u at h1;cases h1 with
 |tuple _ us e1 e2 =>
  obtain⟨u',g1,g2⟩:=(yM.of_arrays e1 e2).get i v (by simpa using hv);refine⟨u',g2,λw _=>?_⟩;unfold execOp;simp only[ho,hu,Instr.extract,g1,Sem.run_bind,Sem.run_pure,Result.andThen_ok]

theorem mM (fn:Fn)(xs ys:List Operand){us vs:List Value}(ho:o.op=.makeFunc fn xs.toArray ys.toArray)(hx:evs a xs=some us)(hy:evs a ys=some vs):zR P N o a H (.func fn us.toArray vs.toArray):=by
 refine⟨λ_ _ φ w ac _ hf=>?_⟩;have h1:=pD hf hx;have h2:=pD hf hy;refine⟨.func fn (xs.map ac.eval).toArray (ys.map ac.eval).toArray,?_,λw _=>?_⟩
 ·refine .func _ _ _ _ _ ?_ ?_ ?_ ?_
  ·simpa using h1.size.symm
  ·intro i h h'
   obtain⟨v',g1,g2⟩:=h1.get i us.toArray[i] (by simp);have:v'=(xs.map ac.eval).toArray[i]:=by rw[Array.getElem?_eq_getElem h']at g1;exact(Option.some.inj g1).symm
   rw[<-this];exact g2
  ·simpa using h2.size.symm
  ·intro i h h'
   obtain⟨v',g1,g2⟩:=h2.get i vs.toArray[i] (by simp);have:v'=(ys.map ac.eval).toArray[i]:=by rw[Array.getElem?_eq_getElem h']at g1;exact(Option.some.inj g1).symm
   rw[<-this];exact g2
 ·unfold execOp
  simp only[ho,Instr.makeFunc,Sem.run_bind,Sem.run_pure,Result.andThen_ok,List.map_toArray]

theorem dR (x:Operand){ad:Addr}(ho:o.op=.nilCheck x)(hx:ev a x=some (.pointer (some ad))):zR P N o a H (.pointer (some ad)):=by
 refine⟨λ_ _ φ w ac _ hf=>?_⟩;have h1:=zN hf hx;refine⟨ac.eval x,h1,?_⟩;generalize hu:ac.eval x=u at h1;unfold execOp;cases h1;simp[ho,hu]

theorem zTp (x:Operand){f:FuncId}{us vs:Array Value}(ho:o.op=.nilCheck x)(hx:ev a x=some (.func (.func f) us vs)):zR P N o a H (.func (.func f) us vs):=by
 refine⟨λ_ _ φ w ac _ hf=>?_⟩;have h1:=zN hf hx;refine⟨ac.eval x,h1,?_⟩;generalize hu:ac.eval x=u at h1;unfold execOp;cases h1;simp[ho,hu]

end

abbrev zG (A o n:Nat):Value:=.pointer (some ⟨A,o,some n⟩)
abbrev gsl (A o n len fl:Nat):Value:=.slice (some ⟨A,o,some n⟩) len fl
abbrev iL :Value:=.slice (some ⟨0,0,none⟩) 0 0

def tJ (c:Array Value)(o:Nat):List Value->Array Value
 |[]=>c
 |v::r=>tJ (c.setIfInBounds o v) (o+1) r

theorem tK :∀(vs:List Value) (c:Array Value) (o:Nat),(tJ c o vs).size=c.size
 |[],_,_=>rfl
 |v::r,c,o=>by rw[tJ,tK r];simp

theorem kS :∀(vs:List Value) (c:Array Value) (o i:Nat),o+vs.length<=c.size ->
  (tJ c o vs)[i]?=if o<=i/\i<o+vs.length then vs[i-o]? else c[i]?
 |[],c,o,i,_=>by
  rw[tJ,if_neg (by simp only[List.length_nil];omega)]
 |v::r,c,o,i,h=>by
  simp only[List.length_cons]at h;rw[tJ,kS r _ _ _ (by simp;omega)];simp only[List.length_cons];by_cases h1:i=o
  ·subst h1
   rw[if_neg (by omega),if_pos (by omega),Nat.sub_self,List.getElem?_cons_zero];rw[Array.getElem?_setIfInBounds_self_of_lt (by omega)]
  ·by_cases h2:o+1<=i/\i<o+1+r.length
   ·rw[if_pos h2,if_pos (by omega),show i-o=(i-(o+1))+1 from by omega,List.getElem?_cons_succ]
   ·rw[if_neg h2,if_neg (by omega),Array.getElem?_setIfInBounds_ne (by omega)]

structure zVj (w w':World)(b:Nat)(c:Array Value)(T:TypeId)(fz:Nat × Nat):Prop where
 os:w'.os=w.os
 tape:w'.tape=w.tape
 output:w'.output=w.output
 size:w'.heap.size=w.heap.size
 block:w'.heap[b]?=some (.cells c T fz)
 oth:∀k,k≠b->w'.heap[k]?=w.heap[k]?

theorem yHy {w:World}{b o:Nat}{v:Value}{c:Array Value}{T:TypeId}{fz:Nat × Nat}(h:w.heap[b]?=some (.cells c T fz)) :
  zVj w (w.setCell ⟨b,o,none⟩ v) b (c.setIfInBounds o v) T fz:=by
 refine⟨rfl,rfl,rfl,by simp[World.setCell],?_,λk hk=>?_⟩
 ·simp only[World.setCell]
  rw[Array.getElem?_modify,if_pos rfl,h];simp
 ·simp only[World.setCell]
  rw[Array.getElem?_modify,if_neg (by omega)]

theorem cV :∀(vs:List Value) (w:World) (b o:Nat) (c:Array Value) (T:TypeId) (fz:Nat × Nat),w.heap[b]?=some (.cells c T fz) ->
  zVj w (w.setCells b o vs) b (tJ c o vs) T fz
 |[],w,b,o,c,T,fz,h=>⟨rfl,rfl,rfl,rfl,h,λ_ _=>rfl⟩
 |v::r,w,b,o,c,T,fz,h=>by
  have h1:=yHy (o:=o) (v:=v) h;have h2:=cV r _ b (o+1) _ T fz h1.block;exact⟨h2.os.trans h1.os,h2.tape.trans h1.tape,h2.output.trans h1.output,h2.size.trans h1.size,h2.block,λk hk=>(h2.oth k hk).trans (h1.oth k hk)⟩

theorem zGa {w:World}{b:Nat}{c:Array Value}{T:TypeId}{fz:Nat × Nat}(h:w.heap[b]?=some (.cells c T fz))(i:Nat):w.cell? ⟨b,i,none⟩=c[i]?:=by
 simp[World.cell?,h]
theorem yJd {w:World}{b:Nat}{c:Array Value}{T:TypeId}{fz:Nat × Nat}(h:w.heap[b]?=some (.cells c T fz))(i:Nat):w.frozen? ⟨b,i,none⟩=(fz.1<=i && i<fz.2):=by
 simp[World.frozen?,h]

theorem tV (b o n:Nat):(⟨b,o,none⟩:Addr).add n=⟨b,o+n,none⟩:=by
 unfold Addr.add;split <;> simp_all

theorem zFy {P:Program}{w:World}{b:Nat}{c:Array Value}{T:TypeId}{fz:Nat × Nat}{o:Nat}{vs:List Value}(h:w.heap[b]?=some (.cells c T fz))
  (hfit:o+vs.length<=c.size) (hfz:∀i,i<c.size->¬(fz.1<=i/\i<fz.2)) (h1:∀v∈vs,v.oneCell'=true) :
  (storeCells ⟨b,o,none⟩ vs).run P w=.ok () (w.setCells b o vs):=by
 have:=run_storeCells_cells (P:=P) b o vs 0 w (λj hj=>by rw[zGa h];simp;omega) (λj hj=>by
  rw[yJd h];have:=hfz (o+0+j) (by omega);simp only[Bool.and_eq_false_iff,decide_eq_false_iff_not];omega) h1
 simpa using this

def one (v:Value):Bool:=match v with
 |.agg _|.tuple _=>false
 |_=>true
theorem oN {φ:Fi}{L:zP}{v v':Value}(h:Val φ L v v')(ho:one v=true):v'.oneCell'=true/\v'.cells=#[v']/\v.cells=#[v]:=by
 cases h <;> first|(simp[one]at ho;done)|exact⟨rfl,rfl,rfl⟩

def vM (P:Program)(T:TypeId):Option Bool:=match P.underlying T with
 |some (.struct _)|some (.array _ _)=>some true
 |some _=>some false
 |none=>none

theorem pW {P:Program}{T:TypeId}{b:Bool}(h:vM P T=some b)(w:World):(isAgg T).run P w=.ok b w:=by
 unfold vM at h;cases hu:P.underlying T with
 |none=>rw[hu]at h;cases h
 |some d =>
  rw[hu]at h;unfold isAgg;simp only[Sem.run_bind,run_underlying hu,Result.andThen_ok];cases d <;> (simp at h;subst h;rfl)

def yC (P:Program)(T:TypeId):Option (Option Value × Nat × Nat):=(P.info? T).map λi=>(i.zero,i.size,i.bytes)

theorem qN {P:Program}{T:TypeId}{z:Option Value}{s b:Nat}(h:yC P T=some (z,s,b)):∃i,P.info? T=some i/\i.zero=z/\i.size=s/\i.bytes=b:=by
 unfold yC at h;cases hi:P.info? T with
 |none=>rw[hi]at h;cases h
 |some i =>
  rw[hi]at h;simp only[Option.map_some,Option.some.injEq,Prod.mk.injEq]at h;exact⟨i,rfl,h.1,h.2.1,h.2.2⟩

theorem wV {P:Program}{T:TypeId}{z:Option Value}{s b:Nat}(h:yC P T=some (z,s,b))(w:World):(sizeOf T).run P w=.ok s w:=by
 obtain⟨i,hi,_,h2,_⟩:=qN h;simp[sizeOf,typeInfo,hi,h2]
theorem pJ {P:Program}{T:TypeId}{z:Value}{s b:Nat}(h:yC P T=some (some z,s,b))(w:World):(zeroValue T).run P w=.ok z w:=by
 obtain⟨i,hi,h1,_,_⟩:=qN h;simp[zeroValue,typeInfo,hi,h1]

section
variable {P:Program} {N:Fr} {ops:Array Oper} {Q:xR} {rest:List Oper} {o:Oper} {a:AF} {H:zI}

theorem uP {B0:Nat}{w0:World}{φ:Fi}{w:World}(_r:Rel B0 w0 φ H w){A off n:Nat}{g:Blk}(hA:H[A]?=some (some g))(hn:g.cells.length=n)
  {u:Value} (hu:Val φ (lens H) (zG A off n) u) :
  u=.pointer (some ⟨(φ A).b,(φ A).base+off,none⟩)/\(φ A).mp=false:=by
 cases hu with
 |ptr _ _ _ m c hL hv h =>
  rw[wH hA]at hL;simp only[Option.some.injEq]at hL;obtain⟨h1,h2⟩:=h (by omega);exact⟨by rw[h1],h2⟩

theorem rI {B0:Nat}{w0:World}{φ:Fi}{w:World}(r:Rel B0 w0 φ H w){A:Nat}{g:Blk}(hA:H[A]?=some (some g))(hmp:(φ A).mp=false)(off:Nat){vs:List Value}
  (hc:∀(i:Nat) v,vs[i]?=some v->g.cells[off+i]?=some v) :
  ∃us:List Value,yM φ (lens H) vs us.toArray/\∀j u,us[j]?=some u->w.cell? ((⟨(φ A).b,(φ A).base+off,none⟩:Addr).add j)=some u:=by
 obtain⟨c,T,fz,h1,h2,h3,h4,h5⟩:=(r.blk A g hA).ex hmp
 induction vs generalizing off with
 |nil=>exact⟨[],⟨rfl,λi v h=>by simp at h⟩,λj u h=>by simp at h⟩
 |cons v vs ih =>
  obtain⟨us,g1,g2⟩:=ih (off+1) (λi x hx=>by rw[show off+1+i=off+(i+1)from by omega];exact hc (i+1) x (by simpa using hx));obtain⟨v',g3,g4⟩:=h5 off v (by have:=hc 0 v (by simp);simpa using this);refine⟨v'::us,⟨by have:=g1.size;simp at this ⊢;exact this,λi x hx=>?_⟩,λj u hu=>?_⟩
  ·cases i with
   |zero=>simp only[List.getElem?_cons_zero,Option.some.injEq]at hx;subst hx;exact⟨v',by simp,g4⟩
   |succ i =>
    obtain⟨x',k1,k2⟩:=g1.get i x (by simpa using hx);exact⟨x',by simpa using k1,k2⟩
  ·rw[tV,zGa h1]
   cases j with
   |zero=>simp only[List.getElem?_cons_zero,Option.some.injEq]at hu;subst hu;simpa using g3
   |succ j =>
    have:=g2 j u (by simpa using hu);rw[tV,zGa h1]at this;rw[show(φ A).base+off+(j+1)=(φ A).base+(off+1)+j from by omega];exact this

theorem zDa {B0:Nat}{w0:World}{φ:Fi}{w w1:World}(r:Rel B0 w0 φ H w){A:Nat}{g:Blk}(hA:H[A]?=some (some g))(off:Nat){us:List Value}(hb:Below w.heap.size w w1)
  (h:∀(j:Nat) u,us[j]?=some u->w.cell? ((⟨(φ A).b,off,none⟩:Addr).add j)=some u):∀(j:Nat) u,us[j]?=some u->w1.cell? ((⟨(φ A).b,off,none⟩:Addr).add j)=some u:=by
 intro j u hu;have:=h j u hu;rw[tV]at this ⊢;rw[hb.cell (p:=⟨(φ A).b,off+j,none⟩) (r.lt hA)];exact this

theorem zKb (T:TypeId){m:Mk}(hm:∀t,m.ty=some t->T=t){z:Value}{s b:Nat}(ho:o.op=.alloc T)(hI:yC P T=some (some z,s,b))(hz:yB z=true)
  {A0:Nat} {H':zI} (hpl:Place H A0 H' ⟨z.cells.toList,m⟩):xG P N o a H (zG A0 0 z.cells.size) H':=by
 refine qI (λB0 w0 φ w ac r hf=>?_);have hv:yM φ (lens H) z.cells.toList z.cells:=by
  refine⟨by simp,λi v hi=>⟨v,by simpa using hi,?_⟩⟩;have hzr:Val φ (lens H) z z:=Val.const hz;have key:∀cs:Array Value,(∀i (h:i<cs.size) (h':i<cs.size),Val φ (lens H) cs[i] cs[i])->cs.toList[i]?=some v->Val φ (lens H) v v:=by
   intro cs h hi;have hlt:i<cs.size:=by have:=(List.getElem?_eq_some_iff.1 hi).1;simpa using this
   have:v=cs[i]:=by have:=(List.getElem?_eq_some_iff.1 hi).2;simpa using this.symm
   rw[this];exact h i hlt hlt
  by_cases hone:one z=true
  ·rw[(oN hzr hone).2.2]at hi
   cases i with
   |zero=>simp at hi;subst hi;exact hzr
   |succ i=>simp at hi
  ·cases hzr with
   |agg _ _ h1 h2=>exact key _ h2 hi
   |tuple =>
    simp only[Value.cells]at hi;cases i with
    |zero=>simp at hi;subst hi;exact Val.const hz
    |succ i=>simp at hi
   |_=>exact absurd rfl hone
 obtain⟨h1,h2⟩:=pY (w':={ w with heap:=w.heap.push (.cells z.cells T) }) r (ro:=m) (fz:=(0,0)) hpl hv rfl rfl rfl rfl (Nat.le_refl _) (λ_ _=>rfl) (λi _ h=>by simp at h) hm;refine⟨_,.pointer (some ⟨w.heap.size,0,none⟩),_,h1,h2,?_,?_⟩
 ·refine .ptr _ _ _ z.cells.size _ ?_ (Nat.le_refl _) (λ_=>by rw[yU];exact⟨rfl,rfl⟩)
  rw[hpl.lens];simp
 ·unfold execOp
  simp only[ho,Instr.alloc,Sem.run_bind,pJ hI,Result.andThen_ok,newVar,newRow,run_newObj,Sem.run_pure]
theorem yNo (T:TypeId){z:Value}{s b:Nat}(ho:o.op=.alloc T)(hI:yC P T=some (some z,s,b))(hz:yB z=true)
  {A0:Nat} {H':zI} (hpl:Place H A0 H' ⟨z.cells.toList,false⟩):xG P N o a H (zG A0 0 z.cells.size) H':=zKb T (by nofun) ho hI hz hpl

theorem cO (T:TypeId)(x:Operand){m:Mk}(hm:∀t,m.ty=some t->T=t){v:Value}(ho:o.op=.box T x)(hx:ev a x=some v)
  {A0:Nat} {H':zI} (hpl:Place H A0 H' ⟨v.cells.toList,m⟩):xG P N o a H (zG A0 0 v.cells.size) H':=by
 refine qI (λB0 w0 φ w ac r hf=>?_);have hvr:=zN hf hx;generalize hu:ac.eval x=u at hvr;have hv:yM φ (lens H) v.cells.toList u.cells:=by
  by_cases hone:one v=true
  ·obtain⟨_,e1,e2⟩:=oN hvr hone
   rw[e1,e2];refine⟨rfl,λi x hi=>?_⟩;cases i with
   |zero=>simp at hi;subst hi;exact⟨u,rfl,hvr⟩
   |succ i=>simp at hi
  ·cases hvr with
   |agg _ _ h1 h2=>exact yM.of_arrays h1 h2
   |tuple c d h1 h2 =>
    refine⟨rfl,λi x hi=>?_⟩;simp only[Value.cells]at hi ⊢;cases i with
    |zero=>simp at hi;subst hi;exact⟨_,rfl,.tuple _ _ h1 h2⟩
    |succ i=>simp at hi
   |_=>exact absurd rfl hone
 obtain⟨h1,h2⟩:=pY (w':={ w with heap:=w.heap.push (.cells u.cells T) }) r (ro:=m) (fz:=(0,0)) hpl hv rfl rfl rfl rfl (Nat.le_refl _) (λ_ _=>rfl) (λi _ h=>by simp at h) hm;refine⟨_,.pointer (some ⟨w.heap.size,0,none⟩),_,h1,h2,?_,?_⟩
 ·refine .ptr _ _ _ v.cells.size _ ?_ (Nat.le_refl _) (λ_=>by rw[yU];exact⟨rfl,rfl⟩)
  rw[hpl.lens];simp
 ·unfold execOp
  simp only[ho,Instr.box,Sem.run_bind,newVar,newRow,run_newObj,Result.andThen_ok,Sem.run_pure,hu]
theorem yIt (T:TypeId)(x:Operand){v:Value}(ho:o.op=.box T x)(hx:ev a x=some v)
  {A0:Nat} {H':zI} (hpl:Place H A0 H' ⟨v.cells.toList,false⟩):xG P N o a H (zG A0 0 v.cells.size) H':=cO T x (by nofun) ho hx hpl

theorem zJa (T:TypeId)(x:Operand){A off n:Nat}{g:Blk}{v:Value}(ho:o.op=.load T x)(hx:ev a x=some (zG A off n))(hT:vM P T=some false)
  (hA:H[A]?=some (some g)) (hn:g.cells.length=n) (hc:g.cells[off]?=some v):zR P N o a H v:=by
 refine⟨λB0 w0 φ w ac r hf=>?_⟩;obtain⟨hu,hmp⟩:=uP r hA hn (zN hf hx);obtain⟨us,g1,g2⟩:=rI r hA hmp off (vs:=[v]) (λi u hi=>by
  cases i with
  |zero=>simp at hi;subst hi;simpa using hc
  |succ i=>simp at hi)
 obtain⟨v',g3,g4⟩:=g1.get 0 v rfl;refine⟨v',g4,λw1 hb=>?_⟩;have g5:=zDa r hA _ hb g2 0 v' (by simpa using g3);rw[tV,Nat.add_zero]at g5;unfold execOp;simp only[ho,hu,Instr.loadAt,Instr.sureAddr,Sem.run_bind,Sem.run_pure,Result.andThen_ok,loadVar,pW hT,Bool.false_eq_true,if_false,run_load,g5]

theorem zVn (T:TypeId)(x:Operand){A off n s b:Nat}{z:Option Value}{g:Blk}{vs:List Value}(ho:o.op=.load T x)(hx:ev a x=some (zG A off n))(hT:vM P T=some true)
  (hI:yC P T=some (z,s,b)) (hA:H[A]?=some (some g)) (hn:g.cells.length=n) (hs:vs.length=s) (hc:∀(i:Nat) v,vs[i]?=some v->g.cells[off+i]?=some v):zR P N o a H (.agg vs.toArray):=by
 refine⟨λB0 w0 φ w ac r hf=>?_⟩;obtain⟨hu,hmp⟩:=uP r hA hn (zN hf hx);obtain⟨us,g1,g2⟩:=rI r hA hmp off hc;have hl:us.length=s:=by have:=g1.size;simp at this;omega
 refine⟨.agg us.toArray,.agg _ _ (by have:=g1.size;simp at this ⊢;omega) (λi h h'=>?_),λw1 hb=>?_⟩
 ·obtain⟨v',k1,k2⟩:=g1.get i vs.toArray[i] (by simp)
  have:v'=us.toArray[i]:=by rw[Array.getElem?_eq_getElem h']at k1;exact(Option.some.inj k1).symm
  rw[<-this];exact k2
 ·have hload:=run_loadCells_list (P:=P) w1 _ us (zDa r hA _ hb g2)
  rw[hl]at hload;unfold execOp;simp only[ho,hu,Instr.loadAt,Instr.sureAddr,Sem.run_bind,Sem.run_pure,Result.andThen_ok,loadVar,pW hT,if_true,wV hI,hload]

def wO (l:List Value)(o:Nat)(vs:List Value):List Value:=l.take o++vs++l.drop (o+vs.length)
theorem eP {l vs:List Value}{o:Nat}(h:o+vs.length<=l.length):(wO l o vs).length=l.length:=by
 simp[wO];omega
theorem zPa {l vs:List Value}{o:Nat}(h:o+vs.length<=l.length)(i:Nat):(wO l o vs)[i]?=if o<=i/\i<o+vs.length then vs[i-o]? else l[i]?:=by
 have ht:(l.take o).length=o:=by simp;omega
 unfold wO;by_cases h1:i<o
 ·rw[if_neg (by omega),List.getElem?_append_left (by simp;omega),List.getElem?_append_left (by omega),List.getElem?_take,if_pos h1]
 ·by_cases h2:i<o+vs.length
  ·rw[if_pos (by omega),List.getElem?_append_left (by simp;omega),List.getElem?_append_right (by omega),ht]
  ·rw[if_neg (by omega),List.getElem?_append_right (by simp;omega),List.getElem?_drop]
   congr 1
   simp;omega

theorem fH {B0:Nat}{w0:World}{φ:Fi}{w:World}(r:Rel B0 w0 φ H w){A off:Nat}{cells vs us:List Value}{m:Mk}(hA:H[A]?=some (some ⟨cells,m⟩))(hmp:(φ A).mp=false)
  (hfit:off+vs.length<=cells.length) (hv:yM φ (lens H) vs us.toArray) (h1:∀u∈us,u.oneCell'=true) (hm:m.b=false:=by rfl) :
  ∃φ' w',(storeCells ⟨(φ A).b,(φ A).base+off,none⟩ us).run P w=.ok () w'/\Ext φ (lens H) φ' (lens (H.set A (some ⟨wO cells off vs,m⟩)))/\Rel B0 w0 φ' (H.set A (some ⟨wO cells off vs,m⟩)) w':=by
 obtain⟨c,T,fz,k1,k2,k3,k4,k5,k6⟩:=(r.blk A _ hA).exT hmp;obtain⟨_,hbase⟩:=r.own A _ hA hm;have hul:us.length=vs.length:=by have:=hv.size;simpa using this
 simp only at k3 k5;have hrun:=zFy (P:=P) (o:=(φ A).base+off) (vs:=us) k1 (by omega) (k4 hm) h1;have hw:=cV us w (φ A).b ((φ A).base+off) c T fz k1;refine⟨upd φ A (φ A),_,hrun,?_⟩;have hupd:upd φ A (φ A)=φ:=mZ;refine dU r hA hm hw.os hw.tape hw.output (by rw[hw.size];exact Nat.le_refl _) (λk _ hk=>hw.oth k hk) (.inl rfl) hbase hmp hmp hw.block (by rw[tK];exact k2)
  (by rw[tK,eP hfit];omega) (by rw[tK];exact k4 hm) (.inl ⟨eP hfit,rfl⟩) ?_ k6
 intro i v hi;have hl:lens (H.set A (some ⟨wO cells off vs,m⟩))=lens H:=by
  funext B
  by_cases e:B=A
  ·subst e;rw[tU (List.getElem?_eq_some_iff.1 hA).1,wH hA];simp[eP hfit]
  ·exact oQ e
 rw[hupd,hl];rw[kS _ _ _ _ (by omega),hbase,Nat.zero_add];simp only at hi;rw[zPa hfit]at hi;rw[hul];by_cases hin:off<=i/\i<off+vs.length
 ·rw[if_pos hin]at hi
  rw[if_pos hin];obtain⟨v',g1,g2⟩:=hv.get _ v hi;exact⟨v',by simpa using g1,g2⟩
 ·rw[if_neg hin]at hi
  rw[if_neg hin];obtain⟨v',g1,g2⟩:=k5 i v hi;rw[hbase,Nat.zero_add]at g1;exact⟨v',g1,g2⟩

theorem zVr (T:TypeId)(x y:Operand){A off n b:Nat}{z:Option Value}{cells:List Value}{m:Mk}{v:Value}(ho:o.op=.store T x y)(hx:ev a x=some (zG A off n))(hy:ev a y=some v)
  (h1:one v=true) (hI:yC P T=some (z,1,b)) (hA:H[A]?=some (some ⟨cells,m⟩)) (hn:cells.length=n) (hoff:Nat.blt off n=true) (hm:m.b=false:=by rfl)
  : xG P N o a H undef (H.set A (some ⟨cells.set off v,m⟩)):=by
 have hoff:=Nat.le_of_ble_eq_true hoff;have hset:wO cells off [v]=cells.set off v:=by
  simp only[wO,List.length_singleton];rw[List.set_eq_take_append_cons_drop,if_pos (by omega)];simp
 rw[<-hset];refine kR (λB0 w0 φ w ac r hf=>?_);obtain⟨hu,hmp⟩:=uP r hA hn (zN hf hx);have hvr:=zN hf hy;generalize hv:ac.eval y=u at hvr;obtain⟨e1,e2,_⟩:=oN hvr h1;obtain⟨φ',w',g1,g2,g3⟩:=fH (P:=P) (off:=off) (vs:=[v]) (us:=[u]) r hA hmp (by simp;omega) ⟨rfl,λi x hi=>by
  cases i with
  |zero=>simp at hi;subst hi;exact⟨u,rfl,hvr⟩
  |succ i=>simp at hi⟩ (λx hx=>by simp at hx;subst hx;exact e1) hm
 refine⟨φ',w',g2,g3,?_⟩;unfold execOp;simp only[ho,hu,hv,Instr.storeAt,Instr.sureAddr,Sem.run_bind,Sem.run_pure,Result.andThen_ok,storeVar,e2,wV hI,List.size_toArray,List.length_singleton,ne_eq,not_true_eq_false,if_false,g1]

theorem zUu (T:TypeId)(x y:Operand){A off n s b:Nat}{z:Option Value}{cells vs:List Value}{m:Mk}(ho:o.op=.store T x y)(hx:ev a x=some (zG A off n))(hy:ev a y=some (.agg vs.toArray))
  (h1:vs.all one=true) (hI:yC P T=some (z,s,b)) (hs:vs.length=s) (hA:H[A]?=some (some ⟨cells,m⟩)) (hn:cells.length=n) (hoff:Nat.ble (off+s) n=true) (hm:m.b=false:=by rfl)
  : xG P N o a H undef (H.set A (some ⟨wO cells off vs,m⟩)):=by
 have hoff:=Nat.le_of_ble_eq_true hoff;refine kR (λB0 w0 φ w ac r hf=>?_);obtain⟨hu,hmp⟩:=uP r hA hn (zN hf hx);have hvr:=zN hf hy;generalize hv:ac.eval y=u at hvr;cases hvr with
 |agg _ us e1 e2 =>
  have hvv:yM φ (lens H) vs us:=by have:=yM.of_arrays e1 e2;simpa using this
  obtain⟨φ',w',g1,g2,g3⟩:=fH (P:=P) (off:=off) (vs:=vs) (us:=us.toList) r hA hmp (by omega) (by simpa using hvv) (λx hx=>by
   obtain⟨i,hi,rfl⟩:=List.getElem_of_mem hx;have hi':i<us.size:=by simpa using hi
   have hvl:i<vs.length:=by have:=hvv.size;omega
   obtain⟨v',k1,k2⟩:=hvv.get i vs[i] (by simp[hvl]);rw[Array.getElem?_eq_getElem hi']at k1;simp only[Option.some.injEq]at k1;have:=(oN k2 ((List.all_eq_true.1 h1) vs[i] (List.getElem_mem hvl))).1;rw[<-k1]at this;simpa using this) hm
  refine⟨φ',w',g2,g3,?_⟩;have hsz:us.size=s:=by rw[hvv.size,hs]
  unfold execOp;simp only[ho,hu,hv,Instr.storeAt,Instr.sureAddr,Sem.run_bind,Sem.run_pure,Result.andThen_ok,storeVar,Value.cells,wV hI,hsz,ne_eq,not_true_eq_false,if_false,g1]

def rQ (P:Program)(T:TypeId)(f:Nat):Option (TypeId × Nat):=match P.underlying T with
 |some (.struct fs)=>(fs[f]?).map λx=>(x.type,x.offset)
 |_=>none

theorem nG (T:TypeId)(x:Operand)(f:Nat){A off n F fo s b:Nat}{z:Option Value}(ho:o.op=.fieldAddr T x f)(hx:ev a x=some (zG A off n))(hF:rQ P T f=some (F,fo))
  (hI:yC P F=some (z,s,b)) (hs:s≠0):zR P N o a H (zG A (off+fo) n):=by
 refine⟨λB0 w0 φ w ac r hf=>?_⟩;have hu:=zN hf hx;generalize hv:ac.eval x=u at hu;unfold rQ at hF;cases hu with
 |ptr _ _ _ m c hL hle h =>
  refine⟨.pointer (some (c.add fo)),.ptr _ _ _ m _ hL hle (λe=>⟨by rw[(h e).1,tV,Nat.add_assoc],(h e).2⟩),λw _=>?_⟩;cases hd:P.underlying T with
  |none=>rw[hd]at hF;cases hF
  |some d =>
   rw[hd]at hF;cases d <;> simp only[reduceCtorEq]at hF
   rename_i fs;cases hfs:fs[f]? with
   |none=>rw[hfs]at hF;cases hF
   |some fl =>
    rw[hfs]at hF;simp only[Option.map_some,Option.some.injEq,Prod.mk.injEq]at hF;obtain⟨rfl,rfl⟩:=hF;unfold execOp;simp only[ho,hv,Instr.fieldAt,Sem.run_bind,run_underlying hd,Result.andThen_ok,hfs,Instr.sureAddr,Sem.run_pure,fieldPlace,wV hI,hs,if_false]

theorem zQt (T:TypeId)(x y:Operand){A off n len fl E s b:Nat}{z:Option Value}{k:IntKind}{i:Int}(ho:o.op=.indexAddr T x y)(hx:ev a x=some (gsl A off n len fl))(hy:ev a y=some (.int k i))
  (hT:P.underlying T=some (.slice E)) (hI:yC P E=some (z,s,b)) (hi:0<=i/\i<len):zR P N o a H (zG A (off+i.toNat*s) n):=by
 refine⟨λB0 w0 φ w ac r hf=>?_⟩;have hu:=zN hf hx;have h2:=(zN hf hy).scalar rfl;generalize hv:ac.eval x=u at hu;cases hu with
 |slc _ _ _ m _ _ cap c hL hle hc hm h =>
  refine⟨.pointer (some (c.add (i.toNat*s))),.ptr _ _ _ m _ hL hle (λe=>⟨by rw[(h e).1,tV,Nat.add_assoc],(h e).2.2⟩),λw _=>?_⟩;unfold execOp;simp only[ho,hv,h2,Instr.indexAt,asIntOf,Sem.run_bind,Sem.run_pure,run_underlying hT,Result.andThen_ok];rw[if_pos hi];simp only[Sem.run_bind,wV hI,Result.andThen_ok,Sem.run_pure]

theorem zTk (T:TypeId)(x y:Operand){A off n len E s b:Nat}{z:Option Value}{k:IntKind}{i:Int}(ho:o.op=.indexAddr T x y)(hx:ev a x=some (zG A off n))(hy:ev a y=some (.int k i))
  (hT:P.underlying T=some (.array len E)) (hI:yC P E=some (z,s,b)) (hi:0<=i/\i<len):zR P N o a H (zG A (off+i.toNat*s) n):=by
 refine⟨λB0 w0 φ w ac r hf=>?_⟩;have hu:=zN hf hx;have h2:=(zN hf hy).scalar rfl;generalize hv:ac.eval x=u at hu;cases hu with
 |ptr _ _ _ m c hL hle h =>
  refine⟨.pointer (some (c.add (i.toNat*s))),.ptr _ _ _ m _ hL hle (λe=>⟨by rw[(h e).1,tV,Nat.add_assoc],(h e).2⟩),λw _=>?_⟩;unfold execOp;simp only[ho,hv,h2,Instr.indexAt,asIntOf,Sem.run_bind,Sem.run_pure,run_underlying hT,Result.andThen_ok,Instr.sureAddr];rw[if_pos hi];simp only[Sem.run_bind,wV hI,Result.andThen_ok,Sem.run_pure]

end

section
variable {P:Program} {N:Fr} {ops:Array Oper} {Q:xR} {rest:List Oper} {o:Oper} {a:AF} {H:zI}

theorem oC {φ:Fi}{L:zP}{vs:List Value}{u:Value}(h:Val φ L (.agg vs.toArray) u):∃us,u=.agg us/\yM φ L vs us:=by
 cases h with
 |agg _ us e1 e2=>exact⟨us,rfl,by have:=yM.of_arrays e1 e2;simpa using this⟩
theorem cK {φ:Fi}{L:zP}{vs:List Value}{us:Array Value}(h:yM φ L vs us):Val φ L (.agg vs.toArray) (.agg us):=by
 refine .agg _ _ (by simp[h.size]) λi hi hi'=>?_;obtain⟨v',k1,k2⟩:=h.get i vs.toArray[i] (by simp);have:v'=us[i]:=by rw[Array.getElem?_eq_getElem hi']at k1;exact(Option.some.inj k1).symm
 rw[<-this];exact k2

theorem zLq (T:TypeId)(x:Operand)(f:Nat){F fo:Nat}{vs:List Value}{v:Value}(ho:o.op=.field T x f)(hx:ev a x=some (.agg vs.toArray))(hF:rQ P T f=some (F,fo))(hT:vM P F=some false)
  (hv:vs[fo]?=some v):zR P N o a H v:=by
 refine⟨λB0 w0 φ w ac r hf=>?_⟩;obtain⟨us,hu,hr⟩:=oC (zN hf hx);obtain⟨v',g1,g2⟩:=hr.get fo v hv;refine⟨v',g2,λw1 _=>?_⟩;unfold rQ at hF;cases hd:P.underlying T with
 |none=>rw[hd]at hF;cases hF
 |some d =>
  rw[hd]at hF;cases d <;> simp only[reduceCtorEq]at hF
  rename_i fs;cases hfs:fs[f]? with
  |none=>rw[hfs]at hF;cases hF
  |some fl =>
   rw[hfs]at hF;simp only[Option.map_some,Option.some.injEq,Prod.mk.injEq]at hF;obtain⟨rfl,rfl⟩:=hF;unfold execOp;simp only[ho,hu,Instr.field,Sem.run_bind,run_underlying hd,Result.andThen_ok,hfs,asAgg,Sem.run_pure,part,pW hT,Bool.false_eq_true,if_false,g1]

theorem yMh (T:TypeId)(x:Operand)(f:Nat){F fo s b:Nat}{z:Option Value}{vs:List Value}(ho:o.op=.field T x f)(hx:ev a x=some (.agg vs.toArray))(hF:rQ P T f=some (F,fo))(hT:vM P F=some true)
  (hI:yC P F=some (z,s,b)) (hs:fo+s<=vs.length):zR P N o a H (.agg ((vs.drop fo).take s).toArray):=by
 refine⟨λB0 w0 φ w ac r hf=>?_⟩;obtain⟨us,hu,hr⟩:=oC (zN hf hx);refine⟨.agg (us.extract fo (fo+s)),cK ⟨?_,λi v hi=>?_⟩,λw1 _=>?_⟩
 ·simp[hr.size];omega
 ·rw[List.getElem?_take]at hi
  split at hi
  ·rename_i hlt
   rw[List.getElem?_drop]at hi;obtain⟨v',g1,g2⟩:=hr.get _ v hi;refine⟨v',?_,g2⟩;rw[Array.getElem?_extract,if_pos (by have:=hr.size;omega)];exact g1
  ·cases hi
 unfold rQ at hF;cases hd:P.underlying T with
 |none=>rw[hd]at hF;cases hF
 |some d =>
  rw[hd]at hF;cases d <;> simp only[reduceCtorEq]at hF
  rename_i fs;cases hfs:fs[f]? with
  |none=>rw[hfs]at hF;cases hF
  |some fl =>
   rw[hfs]at hF;simp only[Option.map_some,Option.some.injEq,Prod.mk.injEq]at hF;obtain⟨rfl,rfl⟩:=hF;unfold execOp;simp only[ho,hu,Instr.field,Sem.run_bind,run_underlying hd,Result.andThen_ok,hfs,asAgg,Sem.run_pure,part,pW hT,if_true,wV hI]

theorem zKm (T:TypeId)(x y:Operand){len E b:Nat}{z:Option Value}{vs:List Value}{v:Value}{k:IntKind}{i:Int}(ho:o.op=.index T x y)(hx:ev a x=some (.agg vs.toArray))(hy:ev a y=some (.int k i))
  (hT:P.underlying T=some (.array len E)) (hE:vM P E=some false) (hI:yC P E=some (z,1,b)) (hi:0<=i/\i<len) (hv:vs[i.toNat]?=some v):zR P N o a H v:=by
 refine⟨λB0 w0 φ w ac r hf=>?_⟩;obtain⟨us,hu,hr⟩:=oC (zN hf hx);have h2:=(zN hf hy).scalar rfl;obtain⟨v',g1,g2⟩:=hr.get _ v hv;refine⟨v',g2,λw _=>?_⟩;unfold execOp;simp only[ho,hu,h2,Instr.index,asIntOf,Sem.run_bind,Sem.run_pure,Result.andThen_ok,run_underlying hT];rw[if_pos hi];simp only[Sem.run_bind,wV hI,Result.andThen_ok,Nat.mul_one,part,pW hE,Bool.false_eq_true,if_false,g1,Sem.run_pure]

def wN (places:Nat->Option (Nat × Nat))(cells:List Value):List (Nat × Value)->Option (List Value)
 |[]=>some cells
 |(i,v)::r=>match places i with
  |none=>none
  |some (off,size)=>bif decide (v.cells.size=size) && decide (off+v.cells.size<=cells.length) && constOk1 v then wN places (wO cells off v.cells.toList) r else none
 where constOk1 (_:Value):Bool:=true

def vG (a:AF):List (Nat × Operand)->Option (List (Nat × Value))
 |[]=>some []
 |(i,x)::r=>match ev a x,vG a r with
  |some v,some vs=>some ((i,v)::vs)
  |_,_=>none

theorem zNw {φ:Fi}{L:zP}{v u:Value}(h:Val φ L v u):yM φ L v.cells.toList u.cells:=by
 by_cases hone:one v=true
 ·obtain⟨_,e1,e2⟩:=oN h hone
  rw[e1,e2];refine⟨rfl,λi x hi=>?_⟩;cases i with
  |zero=>simp at hi;subst hi;exact⟨u,rfl,h⟩
  |succ i=>simp at hi
 ·cases h with
  |agg _ _ h1 h2=>exact yM.of_arrays h1 h2
  |tuple c d h1 h2 =>
   refine⟨rfl,λi x hi=>?_⟩;simp only[Value.cells]at hi ⊢;cases i with
   |zero=>simp at hi;subst hi;exact⟨_,rfl,.tuple _ _ h1 h2⟩
   |succ i=>simp at hi
  |_=>exact absurd rfl hone

theorem yGi (vs:Array Value)(cs:Array Value)(off:Nat):vs.zipIdx.foldl (λcs (c,j)=>cs.setIfInBounds (off+j) c) cs=tJ cs off vs.toList:=by
 rw[<-Array.foldl_toList,Array.toList_zipIdx];generalize vs.toList=l;have:∀(l:List Value) (k:Nat) (cs:Array Value),(l.zipIdx k).foldl (λcs (x:Value × Nat)=>cs.setIfInBounds (off+x.2) x.1) cs=tJ cs (off+k) l:=by
  intro l
  induction l with
  |nil=>intro k cs;rfl
  |cons v r ih=>intro k cs;simp only[List.zipIdx_cons,List.foldl_cons,tJ];rw[ih];rfl
 exact this l 0 cs

theorem zCf {φ:Fi}{L:zP}{N:Fr}{ac:Act}(hf:xA φ L N a ac)(places:Nat->Option (Nat × Nat)):∀(ps:List (Nat × Operand)) (vs:List (Nat × Value)) (cells:List Value) (us:Array Value) (out:List Value),
  vG a ps=some vs->yM φ L cells us->wN places cells vs=some out ->
  ∃os,Instr.fill places us (ps.map λx=>(x.1,ac.eval x.2))=some os/\yM φ L out os:=by
 intro ps
 induction ps with
 |nil =>
  intro vs cells us out h1 h2 h3;simp only[vG,Option.some.injEq]at h1;subst h1;simp only[wN,Option.some.injEq]at h3;subst h3;exact⟨us,rfl,h2⟩
 |cons p ps ih =>
  obtain⟨i,x⟩:=p;intro vs cells us out h1 h2 h3;simp only[vG]at h1;cases hx:ev a x with
  |none=>rw[hx]at h1;simp at h1
  |some v =>
   cases hr:vG a ps with
   |none=>rw[hx,hr]at h1;simp at h1
   |some vr =>
    rw[hx,hr]at h1;simp only[Option.some.injEq]at h1;subst h1;simp only[wN]at h3;cases hp:places i with
    |none=>rw[hp]at h3;simp at h3
    |some q =>
     obtain⟨off,size⟩:=q;rw[hp]at h3;simp only at h3;cases hc:(decide (v.cells.size=size) && decide (off+v.cells.size<=cells.length) && wN.constOk1 v)with
     |false=>rw[hc]at h3;simp at h3
     |true =>
      rw[hc]at h3;simp only[cond_true]at h3;simp only[Bool.and_eq_true]at hc;have e1:v.cells.size=size:=of_decide_eq_true hc.1.1;have e2:off+v.cells.size<=cells.length:=of_decide_eq_true hc.1.2;have hv:=zNw (zN hf hx);have hsz:(ac.eval x).cells.size=v.cells.size:=by have:=hv.size;simpa using this
      have hus:us.size=cells.length:=h2.size;have hvr:yM φ L (wO cells off v.cells.toList) (tJ us off (ac.eval x).cells.toList):=by
       refine⟨by rw[tK,eP (by simpa using e2),hus],λj y hj=>?_⟩;rw[zPa (by simpa using e2)]at hj;rw[kS _ _ _ _ (by simp;omega)];simp only[Array.length_toList,hsz]at hj ⊢;by_cases hin:off<=j/\j<off+v.cells.size
       ·rw[if_pos hin]at hj ⊢
        obtain⟨y',k1,k2⟩:=hv.get _ y hj;exact⟨y',by simpa using k1,k2⟩
       ·rw[if_neg hin]at hj ⊢
        exact h2.get j y hj
      obtain⟨os,g1,g2⟩:=ih vr _ _ out hr hvr h3;refine⟨os,?_,g2⟩;simp only[List.map_cons,Instr.fill,hp];rw[if_neg (by simp only[Bool.or_eq_true,decide_eq_true_eq,not_or];exact⟨λh=>h (hsz.trans e1),by rw[hsz];omega⟩),yGi];exact g1

theorem bY (ps:List (Nat × Operand))(ρ:Operand->Value):(ps.toArray.map λ(i,x)=>(i,ρ x))=(ps.map λx=>(x.1,ρ x.2)).toArray:=by simp

def sH (P:Program)(T:TypeId):Option (List (Nat × Nat)):=match P.underlying T with
 |some (.struct fs)=>fs.toList.mapM λf=>(P.info? f.type).map λi=>(f.offset,i.size)
 |_=>none

theorem zOc {P:Program}{w:World}:∀(fs:List Field) (pl:List (Nat × Nat)),(fs.mapM λf=>(P.info? f.type).map λi=>(f.offset,i.size))=some pl ->
  (fs.mapM λf=>(do pure (f.offset,<-sizeOf f.type):Sem (Nat × Nat))).run P w=.ok pl w
 |[],pl,h=>by simp at h;subst h;simp
 |f::fs,pl,h=>by
  rw[List.mapM_cons]at h ⊢;cases hi:P.info? f.type with
  |none=>rw[hi]at h;simp at h
  |some i =>
   rw[hi]at h;cases hm:(fs.mapM λf=>(P.info? f.type).map λi=>(f.offset,i.size))with
   |none=>rw[hm]at h;simp at h
   |some pr =>
    rw[hm]at h;simp at h;subst h;have:=zOc (w:=w) fs pr hm;have hsz:(sizeOf f.type).run P w=.ok i.size w:=by simp[sizeOf,typeInfo,hi]
    simp only[Sem.run_bind,hsz,Result.andThen_ok,Sem.run_pure,this]

theorem zMh (T:TypeId)(ps:List (Nat × Operand)){pl:List (Nat × Nat)}{zs:List Value}{s b:Nat}{vs:List (Nat × Value)}{out:List Value}(ho:o.op=.build T ps.toArray)(hv:vG a ps=some vs)
  (hp:sH P T=some pl) (hI:yC P T=some (some (.agg zs.toArray),s,b)) (hz:yB (.agg zs.toArray)=true) (hout:wN (λi:Nat=>pl[i]?) zs vs=some out):zR P N o a H (.agg out.toArray):=by
 refine⟨λB0 w0 φ w ac r hf=>?_⟩;obtain⟨zs',hz1,hz2⟩:=oC (Val.const (φ:=φ) (L:=lens H) hz);simp only[Value.agg.injEq]at hz1;subst hz1;obtain⟨os,g1,g2⟩:=zCf hf (λi:Nat=>pl[i]?) ps vs zs _ out hv hz2 hout;refine⟨.agg os,cK g2,λw _=>?_⟩;unfold sH at hp;cases hd:P.underlying T with
 |none=>rw[hd]at hp;cases hp
 |some d =>
  rw[hd]at hp;cases d <;> simp only[reduceCtorEq]at hp
  rename_i fs;have hpl:=zOc (P:=P) (w:=w) fs.toList pl hp;unfold execOp;simp only[ho,Instr.build,Sem.run_bind,pJ hI,Result.andThen_ok,Value.cells,run_underlying hd];rw[Array.mapM_eq_mapM_toList];simp only[Sem.run_map,hpl,Result.andThen_ok,bY];have:(λi:Nat=>(pl.toArray[i]?:Option (Nat × Nat)))=λi:Nat=>pl[i]?:=by funext i;simp
  rw[this,g1];rfl

def qE (z:Value)(m:Nat):List Value:=(List.range m).map λi=>z.cells.toList.getD (i%z.cells.size) undef
theorem zQy {z:Value}(h:one z=true)(m:Nat):qE z m=List.replicate m z:=by
 have:z.cells=#[z]:=by cases z <;> first|rfl|(simp[one]at h)
 unfold qE;rw[this];apply List.ext_getElem
 ·simp
 ·intro i h1 h2;simp[Nat.mod_one]
theorem zDn {φ:Fi}{L:zP}{z:Value}(hz:yB z=true)(m:Nat)(hs:0<z.cells.size) :
  yM φ L (qE z m) ((Array.range m).map (z.cells[·%z.cells.size]!)):=by
 have hv:=zNw (φ:=φ) (L:=L) (Val.const hz);refine⟨by simp[qE],λi v hi=>?_⟩;unfold qE at hi;rw[List.getElem?_map]at hi;cases hr:(List.range m)[i]? with
 |none=>rw[hr]at hi;cases hi
 |some j =>
  have hlt:i<m:=by have:=(List.getElem?_eq_some_iff.1 hr).1;simpa using this
  have hj:j=i:=by have:=(List.getElem?_eq_some_iff.1 hr).2;simpa using this.symm
  subst hj;rw[hr]at hi;simp only[Option.map_some,Option.some.injEq]at hi;have hmod:j%z.cells.size<z.cells.size:=Nat.mod_lt _ hs;have hv2:z.cells.toList[j%z.cells.size]?=some v:=by
   rw[<-hi,List.getD_eq_getElem?_getD,List.getElem?_eq_getElem (by simpa using hmod)];rfl
  obtain⟨v',g1,g2⟩:=hv.get _ v hv2;refine⟨v',?_,g2⟩;rw[Array.getElem?_map];simp only[Array.getElem?_range,hlt,if_true,Option.map_some,Option.some.injEq];rw[getElem!_pos z.cells (j%z.cells.size) hmod];rw[Array.getElem?_eq_getElem hmod]at g1;exact Option.some.inj g1

theorem zNb {f g:Nat->Option (Nat × Nat)}(h:∀i p,f i=some p->g i=some p):∀{vs:List (Nat × Value)} {zs out:List Value},wN f zs vs=some out->wN g zs vs=some out
 |[],zs,out,k=>k
 |(i,v)::r,zs,out,k=>by
  simp only[wN]at k ⊢;cases hf:f i with
  |none=>rw[hf]at k;cases k
  |some p =>
   rw[hf]at k;rw[h i p hf];obtain⟨off,size⟩:=p;simp only at k ⊢;cases hc:(decide (v.cells.size=size) && decide (off+v.cells.size<=zs.length) && wN.constOk1 v)with
   |false=>rw[hc]at k;cases k
   |true=>rw[hc]at k;exact zNb h k
def fL (n s:Nat):List (Nat × Nat):=(List.range n).map λi=>(i*s,s)
theorem zNf (T:TypeId)(ps:List (Nat × Operand)){n E s s1 b b1:Nat}{z:Option Value}{zs:List Value}{vs:List (Nat × Value)}{out:List Value}(ho:o.op=.build T ps.toArray)(hv:vG a ps=some vs)
  (hT:P.underlying T=some (.array n E)) (hE:yC P E=some (z,s,b1)) (hI:yC P T=some (some (.agg zs.toArray),s1,b)) (hz:yB (.agg zs.toArray)=true) (hout:wN (λi:Nat=>(fL n s)[i]?) zs vs=some out):zR P N o a H (.agg out.toArray):=by
 have hout:=zNb (g:=λi=>some (i*s,s)) (λi p hp=>by
  unfold fL at hp;rw[List.getElem?_map]at hp;cases hr:(List.range n)[i]? with
  |none=>rw[hr]at hp;cases hp
  |some j =>
   rw[hr]at hp;obtain⟨h1,h2⟩:=List.getElem?_eq_some_iff.1 hr;rw[List.getElem_range]at h2;subst h2;exact hp) hout
 refine⟨λB0 w0 φ w ac r hf=>?_⟩;obtain⟨zs',hz1,hz2⟩:=oC (Val.const (φ:=φ) (L:=lens H) hz);simp only[Value.agg.injEq]at hz1;subst hz1;obtain⟨os,g1,g2⟩:=zCf hf (λi:Nat=>some (i*s,s)) ps vs zs _ out hv hz2 hout;refine⟨.agg os,cK g2,λw _=>?_⟩;unfold execOp;simp only[ho,Instr.build,Sem.run_bind,pJ hI,Result.andThen_ok,Value.cells,run_underlying hT,wV hE,bY];rw[g1];rfl

theorem zNv (T:TypeId)(n:Nat)(ps:List (Nat × Operand)){E s b:Nat}{z:Value}{vs:List (Nat × Value)}{out:List Value}(ho:o.op=.buildSlice T n ps.toArray)(hv:vG a ps=some vs)
  (hT:P.underlying T=some (.slice E)) (hI:yC P E=some (some z,s,b)) (hz:yB z=true) (hzs:z.cells.size=s) (hs:0<s) (hle:n*s<=16777216)
  (hout:wN (λi=>some (i*s,s)) (qE z (n*s)) vs=some out)
  {A0:Nat} {H':zI} (hpl:Place H A0 H' ⟨out,false⟩):xG P N o a H (gsl A0 0 (n*s) n s) H':=by
 refine qI (λB0 w0 φ w ac r hf=>?_);obtain⟨os,g1,g2⟩:=zCf hf (λi=>some (i*s,s)) ps vs _ _ out hv (zDn hz (n*s) (by omega)) hout;have hlen:out.length=n*s:=by
  have:∀(vs:List (Nat × Value)) (cells out:List Value),wN (λi=>some (i*s,s)) cells vs=some out->out.length=cells.length:=by
   intro vs
   induction vs with
   |nil=>intro cells out h;simp only[wN,Option.some.injEq]at h;rw[h]
   |cons p r ih =>
    intro cells out h;obtain⟨i,v⟩:=p;simp only[wN]at h;cases hc:(decide (v.cells.size=s) && decide (i*s+v.cells.size<=cells.length) && wN.constOk1 v)with
    |false=>rw[hc]at h;simp at h
    |true =>
     rw[hc]at h;simp only[cond_true]at h;simp only[Bool.and_eq_true]at hc;rw[ih _ _ h,eP (by simpa using of_decide_eq_true hc.1.2)]
  rw[this _ _ _ hout];simp[qE]
 have hos:os.size=n*s:=by rw[g2.size,hlen]
 obtain⟨h1,h2⟩:=pY (w':={ w with heap:=w.heap.push (.cells os E) }) r (ro:=false) (fz:=(0,0)) hpl g2 rfl rfl rfl rfl (Nat.le_refl _) (λ_ _=>rfl) (λi _ h=>by simp at h);have hnm:n<=maxLen:=by
  have:n<=n*s:=Nat.le_mul_of_pos_right n hs;unfold maxLen;omega
 refine⟨_,.slice (some ⟨w.heap.size,0,none⟩) n n,_,h1,h2,?_,?_⟩
 ·refine .slc _ _ _ (n*s) _ _ _ _ ?_ (Nat.le_refl _) (Nat.le_refl _) hnm (λ_=>⟨by rw[yU],λ_=>by rw[yU];simp[hos],by rw[yU]⟩)
  rw[hpl.lens];simp[hlen]
 ·unfold execOp
  simp only[ho,Instr.buildSlice,Sem.run_bind,run_underlying hT,Result.andThen_ok,wV hI];rw[if_neg (by omega)];by_cases h0:n*s=0
  ·rw[if_pos h0]
   have:n=0:=by rcases Nat.mul_eq_zero.1 h0 with h|h <;> omega
   subst this;have e0:(Array.range (0*s)).map (λx=>z.cells[x%z.cells.size]!)=#[]:=by simp
   have e1:(Array.range (0*s)).map (λx=>(#[]:Array Value)[x%(#[]:Array Value).size]!)=#[]:=by simp
   rw[e0]at g1;simp only[Sem.run_pure,Result.andThen_ok,bY,e1,g1,Sem.run_bind,newRow,run_newObj]
  ·rw[if_neg h0]
   simp only[Sem.run_bind,pJ hI,Result.andThen_ok,Sem.run_pure,bY,g1,newRow,run_newObj]

theorem zWy {φ:Fi}{L:zP}{z:Value}(hz:yB z=true)(m:Nat)(hs:0<z.cells.size):yM φ L (qE z m) (madeCells z.cells m):=zDn hz m hs

theorem zVt (T:TypeId)(x y:Operand){E s b:Nat}{z:Value}{j k:IntKind}{n c:Int}(ho:o.op=.makeSlice T x y)(hx:ev a x=some (.int j n))(hy:ev a y=some (.int k c))
  (hT:P.underlying T=some (.slice E)) (hI:yC P E=some (some z,s,b)) (hz:yB z=true) (hzs:z.cells.size=s) (hs:0<s) (hn:0<=n/\n<=c/\(b:Int)*c<=281474976710656/\c<=9223372036854775807)
  {A0:Nat} {H':zI} (hpl:Place H A0 H' ⟨qE z (n.toNat*s),false⟩):xG P N o a H (gsl A0 0 (n.toNat*s) n.toNat s) H':=by
 refine qI (λB0 w0 φ w ac r hf=>?_);have h1:=(zN hf hx).scalar rfl;have h2:=(zN hf hy).scalar rfl;obtain⟨i,hi,e1,e2,e3⟩:=qN hI;subst e2 e3;have hrun:=run_make (P:=P) w T E i z hT hi e1 j k n c hn.1 hn.2.1 hn.2.2.1 hn.2.2.2;have hle:n.toNat*i.size<=c.toNat*i.size:=Nat.mul_le_mul_right _ (by omega);have hv:yM φ (lens H) (qE z (n.toNat*i.size)) ((madeCells z.cells (c.toNat*i.size)).extract 0 (n.toNat*i.size)):=by
  have hm:=zWy (φ:=φ) (L:=lens H) hz (n.toNat*i.size) (by omega);have:(madeCells z.cells (c.toNat*i.size)).extract 0 (n.toNat*i.size)=madeCells z.cells (n.toNat*i.size):=by
   apply Array.ext
   ·simp only[Array.size_extract,size_madeCells];omega
   ·intro q h1 h2;simp[madeCells]
  rw[this];exact hm
 obtain⟨g1,g2⟩:=pY (w':=w.alloc (.cells (madeCells z.cells (c.toNat*i.size)) E)) r (ro:=false) (fz:=(0,0)) (c:=madeCells z.cells (c.toNat*i.size)) hpl hv rfl rfl rfl rfl
  (by simp only[Array.size_extract,size_madeCells];omega) (λq hq=>by
   simp only[Array.size_extract,size_madeCells]at hq;rw[Array.getElem?_extract,if_pos (by rw[size_madeCells];omega),Nat.zero_add]) (λi _ h=>by simp at h)
 refine⟨_,.slice (some ⟨w.heap.size,0,none⟩) n.toNat c.toNat,_,g1,g2,?_,?_⟩
 ·refine .slc _ _ _ (n.toNat*i.size) _ _ _ _ ?_ (Nat.le_refl _) (by omega) (by unfold maxLen;omega) (λ_=>⟨by rw[yU],λ_=>by rw[yU];simp[madeCells],by rw[yU]⟩)
  rw[hpl.lens];simp[qE]
 ·unfold execOp
  simp only[ho,h1,h2,Sem.run_bind,hrun,Result.andThen_ok,Sem.run_pure]

end
end Go.Gh
end
