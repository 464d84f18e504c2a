/- Part 10 of the proof of the law TopOrders: texts merged. No condition. -/
import Derived.Test.YteddogfolceahaaGreatDoorZTopOrdersI
import Derived.Deep.Slices
set_option linter.unusedSimpArgs false
set_option linter.unusedVariables false
section
set_option maxRecDepth 4000
namespace Go.Proofs.YteddogfolceahaaGreatDoor
open Go.Gh Go.RowKit

def kb (a b:St):Prop:=a.1<b.1∨a.1=b.1∧(a.2.1<b.2.1∨a.2.1=b.2.1∧(b.2.2.1<a.2.2.1∨a.2.2.1=b.2.2.1∧a.2.2.2.1<b.2.2.2.1))
theorem kb_trans {a b c:St}(h1:¬kb b a)(h2:¬kb c b):¬kb c a:=by
 unfold kb at *;omega
theorem nxt_set {c:Cst}{T:List St}{i:Nat}{t:Pc}{x:St}(h:1≤t.1):nxt c (T.set i x) i t=nxt c T i t:=by
 unfold nxt
 have:(T.set i x)[i+t.1.toNat]! = T[i+t.1.toNat]!:=by
  simp only[getElem!_def,List.getElem?_set]
  rw[if_neg (by omega)]
 rw[this]
theorem runT_min {c:Cst}{i:Nat}:∀{ts:List Pc} {s:Bool × List St} {x:St},s.1=true→i<s.2.length→s.2[i]! = x→(∀t∈ts,1≤t.1∧t.1<x.2.2.1)→ts.Pairwise (fun a b=>b.1<a.1) →
  ((runT c i ts s).2[i]! = x∨∃t∈ts,(runT c i ts s).2[i]! = nxt c s.2 i t)∧¬kb x (runT c i ts s).2[i]!∧∀t∈ts,¬kb (nxt c s.2 i t) (runT c i ts s).2[i]!
 |[],s,x,_,_,h3,_,_=>⟨.inl h3,by show ¬kb x s.2[i]!;rw[h3];unfold kb;omega,fun t ht=>by cases ht⟩
 |t::ts,s,x,h1,h2,h3,h4,h5=>by
  have ht:=h4 t List.mem_cons_self
  rw[List.pairwise_cons]at h5
  show((runT c i ts (tryS c i s t)).2[i]! = x∨∃u∈t::ts,(runT c i ts (tryS c i s t)).2[i]! = nxt c s.2 i u)∧¬kb x (runT c i ts (tryS c i s t)).2[i]!∧∀u∈t::ts,¬kb (nxt c s.2 i u) (runT c i ts (tryS c i s t)).2[i]!
  by_cases hb:sbet (nxt c s.2 i t) s.2[i]!
  ·have e:tryS c i s t=(true,s.2.set i (nxt c s.2 i t)):=if_pos (.inr hb)
   rw[e]
   obtain⟨g1,g2,g3⟩:=runT_min (c:=c) (i:=i) (ts:=ts) (s:=(true,s.2.set i (nxt c s.2 i t))) (x:=nxt c s.2 i t) rfl (by simpa using h2) (by dsimp only;rw[lzset_bang h2,if_pos rfl]) (fun u hu=>⟨(h4 u (List.mem_cons_of_mem _ hu)).1,h5.1 u hu⟩) h5.2
   refine⟨.inr ?_,?_,fun u hu=>?_⟩
   ·rcases g1 with g1|⟨u,hu,g1⟩
    ·exact⟨t,List.mem_cons_self,g1⟩
    ·exact⟨u,List.mem_cons_of_mem _ hu,by rw[g1];exact nxt_set (h4 u (List.mem_cons_of_mem _ hu)).1⟩
   ·refine kb_trans g2 ?_
    rw[h3]at hb
    unfold kb;unfold sbet at hb;omega
   ·rcases List.mem_cons.1 hu with rfl|hu
    ·exact g2
    ·have:=g3 u hu
     rwa [nxt_set (h4 u (List.mem_cons_of_mem _ hu)).1]at this
  ·have e:tryS c i s t=s:=if_neg (by rintro(h|h);rw[h1]at h;cases h;exact hb h)
   rw[e]
   obtain⟨g1,g2,g3⟩:=runT_min (c:=c) (i:=i) (ts:=ts) h1 h2 h3 (fun u hu=>h4 u (List.mem_cons_of_mem _ hu)) h5.2
   refine⟨?_,g2,fun u hu=>?_⟩
   ·rcases g1 with g1|⟨u,hu,g1⟩
    ·exact .inl g1
    ·exact .inr ⟨u,List.mem_cons_of_mem _ hu,g1⟩
   ·rcases List.mem_cons.1 hu with rfl|hu
    ·refine kb_trans g2 ?_
     rw[h3]at hb
     have:(nxt c s.2 i u).2.2=u:=rfl
     unfold kb;unfold sbet at hb;rw[this];omega
    ·exact g3 u hu
def isMin (c:Cst)(l:List UInt8)(w:Int)(T:List St)(i:Nat):Prop :=
 occ l w i T[i]!.2.2∧T[i]! = nxt c T i T[i]!.2.2∧∀t,occ l w i t→¬kb (nxt c T i t) T[i]!
theorem nxt_near {c:Cst}(hc:vC c){T:List St}{i:Nat}{t u:Pc}(h1:u.1=t.1)(h2:u.2.1≤t.2.1)(h3:t.2.1=0∧u=t∨1≤u.2.1):¬kb (nxt c T i t) (nxt c T i u):=by
 rcases h3 with⟨_,rfl⟩|h3
 ·unfold kb;omega
 ·obtain⟨a,d,y⟩:=t
  obtain⟨a',e,z⟩:=u
  change a'=a at h1
  subst h1
  have:=price_mono (n:=a') (y:=z) (z:=y) hc h3 h2
  unfold kb nxt
  dsimp only at h2 h3 this ⊢
  omega
theorem parT_last {c:Cst}{l:List UInt8}{w:Int}(hc:vC c):∀{j:Nat},j≤l.length→(parT c l w j).length=l.length+1∧(parT c l w j)[l.length]! = st0
 |0,_=>by
  refine⟨by simp[parT],?_⟩
  unfold parT;rw[getElem!_pos _ _ (by simp),List.getElem_replicate]
 |j+1,hj=>by
  obtain⟨h1,h2⟩:=parT_last (l:=l) hc (w:=w) (j:=j) (by omega)
  refine⟨(parT_ok hc hj).1.1,?_⟩
  show(runT c (l.length-(j+1)) _ (false,parT c l w j)).2[l.length]! = st0
  rw[runT_else (by omega) (by show _<(parT c l w j).length;omega)];exact h2
section
variable {c:Cst} {l:List UInt8} {w:Int} (hc:vC c) (hw:1≤w∧w≤4096) (hn:l.length≤4096)
 include hc hw hn
theorem row_min {i:Nat}(hi:i<l.length){T:List St}(hT:T.length=l.length+1):isMin c l w (rowT c l w i T) i:=by
 have hocc:∀t∈triesL l i w,occ l w i t:=fun t ht=>tries_occ hw hi hn ht
 have hone:∀t,occ l w i t→1≤t.1:=fun t ht=>(ht.fits hw.2).2.2
 have key:∃t∈triesL l i w,(rowT c l w i T)[i]! = nxt c T i t∧∀u∈triesL l i w,¬kb (nxt c T i u) (nxt c T i t):=by
  have hs:=tries_sorted hw hi hn
  have hne:triesL l i w≠[]:=by unfold triesL;simp
  unfold rowT
  revert hocc hs hne
  cases triesL l i w with
  |nil=>intro _ _ h;exact absurd rfl h
  |cons t ts =>
   intro hocc hs _
   rw[List.pairwise_cons]at hs
   show ∃u∈t::ts,(runT c i ts (tryS c i (false,T) t)).2[i]! = nxt c T i u∧_
   have e:tryS c i (false,T) t=(true,T.set i (nxt c T i t)):=if_pos (.inl rfl)
   rw[e]
   obtain⟨g1,g2,g3⟩:=runT_min (c:=c) (i:=i) (ts:=ts) (s:=(true,T.set i (nxt c T i t))) (x:=nxt c T i t) rfl (by simp;omega) (by dsimp only;rw[lzset_bang (by omega),if_pos rfl]) (fun u hu=>⟨hone _ (hocc u (List.mem_cons_of_mem _ hu)),hs.1 u hu⟩) hs.2
   have g3':∀u∈ts,¬kb (nxt c T i u) (runT c i ts (true,T.set i (nxt c T i t))).2[i]!:=fun u hu=>by
    have:=g3 u hu
    rwa [nxt_set (hone _ (hocc u (List.mem_cons_of_mem _ hu)))]at this
   rcases g1 with g1|⟨u,hu,g1⟩
   ·exact⟨t,List.mem_cons_self,g1,fun u hu=>by
     rw[g1]at g2 g3'
     rcases List.mem_cons.1 hu with rfl|hu
     ·exact g2
     ·exact g3' u hu⟩
   ·rw[nxt_set (hone _ (hocc u (List.mem_cons_of_mem _ hu)))]at g1
    refine⟨u,List.mem_cons_of_mem _ hu,g1,fun v hv=>?_⟩
    rw[g1]at g2 g3'
    rcases List.mem_cons.1 hv with rfl|hv
    ·exact g2
    ·exact g3' v hv
 obtain⟨t,h1,h2,h3⟩:=key
 have same:∀u:Pc,1≤u.1→nxt c (rowT c l w i T) i u=nxt c T i u:=fun u hu=>by
  unfold nxt rowT
  rw[runT_else (by omega) (by show i<T.length;omega)]
 have e2:(rowT c l w i T)[i]!.2.2=t:=by rw[h2];rfl
 refine⟨by rw[e2];exact hocc t h1,by rw[e2,same t (hone _ (hocc t h1)),h2],fun u hu=>?_⟩
 rw[same u (hone u hu),h2]
 obtain⟨v,k1,k2,k3,k4⟩:=tries_cover hw hi hn hu
 exact kb_trans (h3 v k1) (nxt_near hc k2 k3 k4)
theorem parT_min :∀{j:Nat},j≤l.length→∀i,l.length-j≤i→i<l.length→isMin c l w (parT c l w j) i
 |0,_,i,h1,h2=>by omega
 |j+1,hj,i,h1,h2=>by
  have hl:=(parT_last (l:=l) (w:=w) hc (j:=j) (by omega)).1
  by_cases e:i=l.length-(j+1)
  ·subst e
   exact row_min hc hw hn h2 hl
  ·have ih:=parT_min (j:=j) (by omega) i (by omega) h2
   have same:∀k,k≠l.length-(j+1)→(parT c l w (j+1))[k]! = (parT c l w j)[k]!:=fun k hk=>by
    show(runT c (l.length-(j+1)) _ (false,parT c l w j)).2[k]! = _
    exact runT_else hk (by show _<(parT c l w j).length;omega)
   have sameN:∀u:Pc,1≤u.1→nxt c (parT c l w (j+1)) i u=nxt c (parT c l w j) i u:=fun u hu=>by
    unfold nxt;rw[same _ (by omega)]
   unfold isMin
   rw[same i e]
   have h3:=(ih.1.fits hw.2).2.2
   exact⟨ih.1,by rw[sameN _ h3];exact ih.2.1,fun t ht=>by rw[sameN t (ht.fits hw.2).2.2];exact ih.2.2 t ht⟩
end
def Cov (l:List UInt8)(w:Int):Nat→List Pc→Prop
 |i,[]=>i=l.length
 |i,t::r=>occ l w i t∧Cov l w (i+t.1.toNat) r
section
variable {c:Cst} {l:List UInt8} {w:Int} {T:List St} (hw:1≤w∧w≤4096)
 (hT:∀i,i<l.length→isMin c l w T i) (hT0:T[l.length]! = st0)
 include hw hT hT0
theorem walkT_cov :∀(f i:Nat),i≤l.length→l.length≤f+i→Cov l w i (walkT T l.length f i)∧costs c (walkT T l.length f i)=T[i]!.1∧((walkT T l.length f i).length:Int)=T[i]!.2.1
 |0,i,h1,h2=>by
  obtain rfl:i=l.length:=by omega
  rw[hT0];exact⟨rfl,rfl,rfl⟩
 |f+1,i,h1,h2=>by
  unfold walkT
  by_cases hi:i<l.length
  ·rw[if_pos hi]
   obtain⟨g1,g2,g3⟩:=hT i hi
   have g4:=g1.fits hw.2
   obtain⟨k1,k2,k3⟩:=walkT_cov f (i+T[i]!.2.2.1.toNat) (by omega) (by omega)
   have e1:=congrArg (·.1) g2
   have e2:=congrArg (·.2.1) g2
   change T[i]!.1=T[i+T[i]!.2.2.1.toNat]!.1+price c T[i]!.2.2 at e1
   change T[i]!.2.1=T[i+T[i]!.2.2.1.toNat]!.2.1+1 at e2
   refine⟨⟨g1,k1⟩,?_,?_⟩
   ·unfold costs;rw[k2,e1];omega
   ·rw[List.length_cons,e2,←k3];omega
  ·rw[if_neg hi]
   obtain rfl:i=l.length:=by omega
   rw[hT0];exact⟨rfl,rfl,rfl⟩
end
section
variable {c:Cst} {l:List UInt8} {w:Int} (hc:vC c) (hw:1≤w∧w≤4096) (hn:l.length≤4096)
 include hc hw hn
theorem parse_eq :parse c l w=(walkT (parT c l w l.length) l.length l.length 0,0):=by
 unfold parse;rw[if_pos ⟨hc,hw⟩,if_neg (by omega)]
theorem parse_cov :Cov l w 0 (parse c l w).1:=by
 rw[parse_eq hc hw hn]
 exact(walkT_cov hw (fun i hi=>parT_min hc hw hn (Nat.le_refl _) i (by omega) hi) (parT_last hc (Nat.le_refl _)).2 l.length 0 (by omega) (by omega)).1
end
theorem cov_vPs {l:List UInt8}{w:Int}(hw:w≤4096):∀{ps:List Pc} {i:Nat},Cov l w i ps→vPs ps
 |[],_,_=>fun t ht=>by cases ht
 |t::r,i,h=>fun u hu=>by
  rcases List.mem_cons.1 hu with rfl|hu
  ·exact(h.1.fits hw).1
  ·exact cov_vPs hw h.2 u hu
theorem cov_short {l:List UInt8}{w:Int}(hw:w≤4096):∀{ps:List Pc} {i:Nat},Cov l w i ps→ps.length+i≤l.length
 |[],i,h=>by have:i=l.length:=h;simp;omega
 |t::r,i,h=>by
  have h1:=h.1.fits hw
  have:=cov_short hw h.2
  rw[List.length_cons];omega

theorem IsPs.has {h q:SH}{ps:List Pc}{v:Value}(k:IsPs h ps v q):Has q (recs pcC ps) 3 ps.length v∧Take q h:=by
 rcases k with⟨rfl,rfl,rfl⟩|⟨_,A,rfl,rfl⟩
 ·exact⟨⟨none,0,rfl,fun g=>absurd rfl g⟩,(by repeat(first|with_reducible exact Take.nil|with_reducible apply Take.c|((with_reducible apply Take.cE);first|exact rfl|(apply blkE;(focus first|exact rfl|exact yI rfl|exact yO rfl|exact congrArg (fun v=>[v]) (gslE rfl rfl (by first|rfl|exact ‹_›|omega|(simp ;first|done|omega)) (by first|rfl|exact ‹_›|omega|(simp ;first|done|omega)) rfl))))|with_reducible apply Take.drop))⟩
 ·exact⟨⟨_,_,rfl,fun _=>⟨A,false,_,rfl,.head⟩⟩,(by repeat(first|with_reducible exact Take.nil|with_reducible apply Take.c|((with_reducible apply Take.cE);first|exact rfl|(apply blkE;(focus first|exact rfl|exact yI rfl|exact yO rfl|exact congrArg (fun v=>[v]) (gslE rfl rfl (by first|rfl|exact ‹_›|omega|(simp ;first|done|omega)) (by first|rfl|exact ‹_›|omega|(simp ;first|done|omega)) rfl))))|with_reducible apply Take.drop))⟩
end Go.Proofs.YteddogfolceahaaGreatDoor
end
section
set_option maxRecDepth 4000
namespace Go.Gh
open Go.RowKit Go.ChangeShapes Go.WideShapes

structure CB (W:World)(e:Loc × Blk):Prop where
 ro:e.2.ro=true
 mp:e.1.mp=false
 ex:∃c T fz,W.heap[e.1.b]?=some (.cells c T fz)∧c.size=e.1.size∧e.1.base+e.2.cells.length≤c.size∧∀i v,e.2.cells[i]?=some v→c[e.1.base+i]?=some v∧yJ v=true
structure Arg (W:World)(v:Value)(es:List (Loc × Blk))(g:Nat→Value):Prop where
 cb:∀e∈es,CB W e
 val:∀(φ:Nat→Loc) (L:Lens) (k:Nat),(∀(j:Nat) e,es[j]?=some e→φ (k+j)=e.1∧L (k+j)=some e.2.cells.length)→Val φ L (g k) v
inductive ArgAll (W:World):Nat→List Value→List (Loc × Blk)→List Value→Prop
 |nil {k}:ArgAll W k [] [] []
 |cons {k v vs es es' g as0} (h:Arg W v es g) (r:ArgAll W (k+es.length) vs es' as0):ArgAll W k (v::vs) (es++es') (g k::as0)
theorem ArgAll.cb {W:World}{k:Nat}{vs:List Value}{es:List (Loc × Blk)}{as0:List Value}(h:ArgAll W k vs es as0):∀e∈es,CB W e:=by
 induction h with
 |nil=>intro e he;cases he
 |cons h _ ih =>
  intro e he
  rcases List.mem_append.1 he with he|he
  ·exact h.cb e he
  ·exact ih e he
theorem ArgAll.rel {W:World}{k:Nat}{vs:List Value}{es:List (Loc × Blk)}{as0:List Value}(h:ArgAll W k vs es as0)(φ:Nat→Loc)(L:Lens)
  (hφ:∀(j:Nat) e,es[j]?=some e→φ (k+j)=e.1∧L (k+j)=some e.2.cells.length):vs.length=as0.length∧∀(i:Nat) a,as0[i]?=some a→∃v,vs[i]?=some v∧Val φ L a v:=by
 induction h with
 |nil=>exact⟨rfl,fun i a h=>by simp at h⟩
 |@cons k v vs es es' g as0 h _ ih =>
  have h1:=h.val φ L k fun j e he=>hφ j e (by rw[List.getElem?_append_left (List.getElem?_eq_some_iff.1 he).1];exact he)
  obtain⟨h2,h3⟩:=ih fun j e he=>by
   have:=hφ (es.length+j) e (by rw[List.getElem?_append_right (by omega),show es.length+j-es.length=j by omega];exact he)
   rwa [show k+(es.length+j)=k+es.length+j by omega]at this
  refine⟨by simp[h2],fun i a hi=>?_⟩
  cases i with
  |zero=>simp only[List.getElem?_cons_zero,Option.some.injEq]at hi;subst hi;exact⟨v,rfl,h1⟩
  |succ i=>obtain⟨u,g1,g2⟩:=h3 i a (by simpa using hi);exact⟨u,by simpa using g1,g2⟩

structure Elem {H:Type}(enc:TypeId × Value→H)(P:Program)(e:TypeId){α:Type}(f:α→List Value)(w:Nat)(ok:α→Prop):Prop where
 cells:P.cellsOf e=w
 pos:0<w
 len:∀y,(f y).length=w
 cst:∀y,∀v∈f y,yJ v=true
 rd:∀{W:World} {base:Nat} {sp:Nat→Bool} {held:Bool} {n:Nat} {cs:List Value} {x:DataW H × List MemPlace},DataW.trod enc P W base sp held n e cs=some x→∃y,cs=f y∧ok y

section
variable {H:Type} {enc:TypeId × Value→H} {P:Program} {W:World} {α:Type} {f:α→List Value} {w:Nat} {ok:α→Prop}
structure C1 {H:Type}(enc:TypeId × Value→H)(P:Program)(e:TypeId){α:Type}(f:α→Value)(ok:α→Prop):Prop where
 cells:P.cellsOf e=1
 cst:∀y,yJ (f y)=true
 rd:∀{W:World} {base:Nat} {sp:Nat→Bool} {held:Bool} {n:Nat} {cs:List Value} {x:DataW H × List MemPlace},DataW.trod enc P W base sp held n e cs=some x→∃y,cs=[f y]∧ok y
structure Flds {H:Type}(enc:TypeId × Value→H)(P:Program)(fs:List Field)(o:Nat){α:Type}(f:α→List Value)(w:Nat)(ok:α→Prop):Prop where
 len:∀y,(f y).length=w
 cst:∀y,∀v∈f y,yJ v=true
 rd:∀{W:World} {base:Nat} {sp:Nat→Bool} {held:Bool} {n:Nat} {cs:List Value},cs.length=o+w→(∀fl∈fs,∃x,DataW.trod enc P W base sp held n fl.type ((cs.drop fl.offset).take (P.cellsOf fl.type))=some x)→∃y,cs.drop o=f y∧ok y
theorem Flds.last {fl:Field}{o:Nat}(ho:fl.offset=o)(E:Elem enc P fl.type f w ok):Flds enc P [fl] o f w ok :=
 ⟨E.len,E.cst,fun {W base sp held n cs} hl h=>by
  obtain⟨x,hx⟩:=h fl (by simp)
  rw[ho,E.cells,List.take_of_length_le (by rw[List.length_drop];omega)]at hx
  exact E.rd hx⟩
theorem Flds.cons {β:Type}{g:β→List Value}{w2:Nat}{ok2:β→Prop}{fl:Field}{fs:List Field}{o:Nat}(ho:fl.offset=o)(E:Elem enc P fl.type f w ok)(r:Flds enc P fs (o+w) g w2 ok2) :
  Flds enc P (fl::fs) o (fun y:α × β=>f y.1++g y.2) (w+w2) (fun y=>ok y.1∧ok2 y.2) :=
 ⟨fun y=>by rw[List.length_append,E.len,r.len],fun y v hv=>by
  rcases List.mem_append.1 hv with hv|hv
  ·exact E.cst _ _ hv
  ·exact r.cst _ _ hv,fun {W base sp held n cs} hl h=>by
  obtain⟨x,hx⟩:=h fl (by simp)
  rw[ho,E.cells]at hx
  obtain⟨y1,h1,k1⟩:=E.rd hx
  obtain⟨y2,h2,k2⟩:=r.rd (by omega) (fun z hz=>h z (by simp[hz]))
  refine⟨(y1,y2),?_,k1,k2⟩
  dsimp only
  rw[←h1,←h2,←List.drop_drop,List.take_append_drop]⟩
end
end Go.Gh
end
section
set_option maxRecDepth 4000
namespace Go.Proofs.YteddogfolceahaaGreatDoor
open Go.Gh Go.RowKit

def cst (c:Cst)(l:List UInt8)(w:Int):Int:=costs c (parse c l w).1
section
variable {c:Cst} {l:List UInt8} {w:Int} (hc:vC c) (hw:1≤w∧w≤4096) (hn:l.length≤4096)
 include hc hw hn
end

theorem cov_bytes {l:List UInt8}{w:Int}:∀{ps:List Pc} {i:Nat},Cov l w i ps→bytesOk ps
 |[],_,_=>fun t ht=>by cases ht
 |t::r,i,h=>fun u hu=>by
  rcases List.mem_cons.1 hu with rfl|hu
  ·rcases h.1 with⟨_,rfl⟩|⟨n,d,rfl,_⟩
   ·have:=bat_lo l i;have:=bat_hi l i;show 0≤bat l i∧bat l i≤255;omega
   ·exact⟨Int.le_refl _,by show(0:Int)≤255;omega⟩
  ·exact cov_bytes h.2 u hu

def wst (s:Ms × Enc)(t:Pc):Ms × Enc :=
 if t.2.1=0 then
  ({ s.1 with K:=(tenc 0 1 s.1.K s.2 1).1,P:=(benc s.1.P s.1.c (tenc 0 1 s.1.K s.2 1).2 t.2.2).1,c:=t.2.2 },(benc s.1.P s.1.c (tenc 0 1 s.1.K s.2 1).2 t.2.2).2)
 else
  ({ s.1 with K:=(tenc 1 1 s.1.K s.2 1).1,L:=(nenc s.1.L (tenc 1 1 s.1.K s.2 1).2 (t.1-2)).1,D:=(nenc s.1.D (nenc s.1.L (tenc 1 1 s.1.K s.2 1).2 (t.1-2)).2 (t.2.1-1)).1 },
   (nenc s.1.D (nenc s.1.L (tenc 1 1 s.1.K s.2 1).2 (t.1-2)).2 (t.2.1-1)).2)
def wrun (l:List Pc)(s:Ms × Enc):Ms × Enc:=l.foldl wst s
theorem wrun_cons (t:Pc)(l:List Pc)(s:Ms × Enc):wrun (t::l) s=wrun l (wst s t):=rfl
abbrev vPb (t:Pc):Prop:=vP t∧0≤t.2.2∧t.2.2≤255
def psum :List Pc→Nat
 |[]=>0
 |t::r=>t.1.toNat+psum r
theorem wst_ok {n:Nat}{s:Ms × Enc}{t:Pc}(hx:MsOk s.1)(hok:EncOk n s.2)(ht:vPb t):MsOk (wst s t).1∧EncOk (n+137*t.1.toNat) (wst s t).2:=by
 obtain⟨hv,hy⟩:=ht
 unfold wst
 split
 ·have h1:=tenc_ok (v:=0) (k:=1) (t:=s.1.K) (j:=1) hok
  have h2:=benc_ok (v:=t.2.2) h1.1 hx.P hx.c
  exact⟨⟨h1.2.trans hx.K,h2.2,hy,hx.L,hx.D⟩,h2.1.mono (by rcases hv with g|g <;> omega)⟩
 ·have h1:=tenc_ok (v:=1) (k:=1) (t:=s.1.K) (j:=1) hok
  have h2:=nenc_ok (t:=s.1.L) h1.1 (t.1-2)
  have h3:=nenc_ok (t:=s.1.D) h2.1 (t.2.1-1)
  exact⟨⟨h1.2.trans hx.K,hx.P,hx.c,h2.2.trans hx.L,h3.2.trans hx.D⟩,h3.1.mono (by rcases hv with g|g <;> omega)⟩
theorem wrun_ok :∀{l:List Pc} {n:Nat} {s:Ms × Enc},MsOk s.1→EncOk n s.2→(∀t∈l,vPb t)→MsOk (wrun l s).1∧EncOk (n+137*psum l) (wrun l s).2
 |[],n,s,hx,hok,_=>⟨hx,hok⟩
 |t::r,n,s,hx,hok,ht=>by
  have h1:=wst_ok hx hok (ht t (by simp))
  have h2:=wrun_ok (l:=r) h1.1 h1.2 (fun u hu=>ht u (by simp[hu]))
  rw[wrun_cons]
  exact⟨h2.1,h2.2.mono (by show _≤n+137*(t.1.toNat+psum r);omega)⟩
theorem EncT.add {n:Nat}{h p:SH}{a:Option Nat}{e:Enc}{x:Nat × Blk}(hb:EncT n h a e p):∃p',EncT n (x::h) a e p'∧Take (x::p) p':=by
 cases hb with
 |nil _ _ ha=>exact⟨_,.nil _ _ ha,.cons (.tail .head) .nil⟩
 |some _ _ _ _ ha ho=>exact⟨_,.some _ _ _ _ ha ho,.cons (.tail .head) (.cons (.tail .head) .nil)⟩
theorem Take.up8 {X A B C D E F G H:Nat × Blk}{h:SH}:Take (X::A::B::C::D::E::F::G::H::h) (A::B::C::D::E::F::G::H::X::h) :=
 .cons (.tail .head) (.cons (.tail .head) (.cons (.tail .head) (.cons (.tail .head) (.cons (.tail .head) (.cons (.tail .head) (.cons (.tail .head) (.cons (.tail .head) .nil)))))))
theorem Take.dn8 {X A B C D E F G H:Nat × Blk}{h:SH}:Take (A::B::C::D::E::F::G::H::X::h) (A::B::C::D::E::F::G::H::h) :=
 .cons .head (.cons .head (.cons .head (.cons .head (.cons .head (.cons .head (.cons .head (.cons .head (.drop .nil))))))))
theorem EncT.add8 {n:Nat}{a:Mad}{x:Ms}{h p:SH}{e:Enc}{y:Nat × Blk}(hb:EncT n (msB a x h) none e p):∃p',EncT n (msB a x (y::h)) none e p'∧Take (y::p) p':=by
 obtain⟨p1,h1,t1⟩:=hb.add (x:=y)
 obtain⟨p2,h2,t2⟩:=h1.re Take.up8
 exact⟨p2,h2,t1.trans t2⟩
theorem pk3 {a:Mad}{n A s c:Nat}{x:Ms}{bA bS bC:Blk}{h p:SH}{e:Enc}(hb:EncT n (msB a x ((A,bA)::(s,bS)::(c,bC)::h)) none e p):(∃p1,Pick p A bA p1)∧(∃p1,Pick p s bS p1)∧∃p1,Pick p c bC p1 :=
 ⟨hb.pick (.tail (.tail (.tail (.tail (.tail (.tail (.tail (.tail .head)))))))),hb.pick (.tail (.tail (.tail (.tail (.tail (.tail (.tail (.tail (.tail .head))))))))),hb.pick (.tail (.tail (.tail (.tail (.tail (.tail (.tail (.tail (.tail (.tail .head)))))))))) ⟩
theorem write_any (a:Mad)(n s c m:Nat)(x:Ms)(e:Enc)(t:Pc)(h p:SH)(hb:EncT n (msB a x ((s,⟨setC a,false⟩)::(c,⟨[gptr n 0 3],false⟩)::h)) none e p)(hx:MsOk x)(hok:EncOk m e)(hm:m+800≤999000)(ht:vPb t) :
  SRun Tryz.prog 112 [pcV t,gptr s 0 4,gptr c 0 1] p fun r q=>r=.tuple #[]∧EncT n (msB a (wst (x,e) t).1 ((s,⟨setC a,false⟩)::(c,⟨[gptr n 0 3],false⟩)::h)) none (wst (x,e) t).2 q:=by
 refine srun_post ?_
 obtain⟨hv,hy⟩:=ht
 obtain⟨l,d,y⟩:=t
 dsimp only at hv hy
 refine w_body3 Tryz.func112 rfl rfl ?_
 repeat'((fail_if_success (show SWp _ _ (Code.seq (Code.region 1 _ _) _) _ _ _));(fail_if_success (show SWp _ _ (Code.region 1 _ _) _ _ _));first|apply zF|apply zB|apply zE|refine jx ?_|apply zA|intro A)
 obtain⟨p1,hb1,t1⟩:=hb.add8 (y:=(A,(⟨pcC (l,d,y),false⟩:Blk)))
 obtain⟨⟨pA,hA⟩,⟨pS,hS⟩,⟨pC,hC⟩⟩:=pk3 hb1
 refine SWp.take (b:=[(1,gptr s 0 4),(2,gptr c 0 1),(3,gptr A 0 3)]) jB t1 ?_
 unfold wst
 by_cases h0:d=0
 ·rw[if_pos h0]
  have hK:=(kEncW a n m x e 0 _ p1 hb1 hx hok (by omega)).mono fun _ q g=>And.intro g (pk3 g)
  have ok1:=tenc_ok (v:=0) (k:=1) (t:=x.K) (j:=1) hok
  have hB:=fun q g=>(bEncW a n (m+2) { x with K:=(tenc 0 1 x.K e 1).1 } (tenc 0 1 x.K e 1).2 y ((A,(⟨pcC (l,d,y),false⟩:Blk))::(s,⟨setC a,false⟩)::(c,⟨[gptr n 0 3],false⟩)::h) q g ⟨ok1.2.trans hx.K,hx.P,hx.c,hx.L,hx.D⟩ (ok1.1.mono (by omega)) (by omega) hy)
  generalize tenc 0 1 x.K e 1=T at *
  dsimp only at hB ⊢
  generalize benc x.P x.c T.2 y=W at *
  repeat'(first|apply zF|apply zB|apply zE|refine jg ?_ ?_|(apply zM zC;(iterate 3 exact rfl);exact pk)|(refine jc ?_ (c:=by exact⟨_,hK,jN⟩);rintro _ _ ⟨hb2,⟨pA2,hA2⟩,⟨pS2,hS2⟩,⟨pC2,hC2⟩⟩)|(refine jc ?_ (c:=by exact⟨_,hB _ hb2,jN⟩);rintro _ _ hb3)|refine jd ?_|apply zA|apply zP|apply zN|exact jS|exact jL|exact jE|exact True.intro|exact rfl)
  all_goals first
   |(exfalso;omega)
   |(apply zL;(exact(show ResS _ _ _ _ [] from trivial));exact(hb3.re Take.dn8).imp fun _ g=>⟨⟨rfl,g.1⟩,g.2⟩;(focus repeat with_reducible first|exact Take.nil|apply Take.c|apply Take.drop))
 ·rw[if_neg h0]
  have hK:=(kEncW a n m x e 1 _ p1 hb1 hx hok (by omega)).mono fun _ q g=>And.intro g (pk3 g)
  have ok1:=tenc_ok (v:=1) (k:=1) (t:=x.K) (j:=1) hok
  have ok2:=nenc_ok (t:=x.L) ok1.1 (l-2)
  have hL:=fun q g=>(lEncW a n (m+2) { x with K:=(tenc 1 1 x.K e 1).1 } (tenc 1 1 x.K e 1).2 (l-2) ((A,(⟨pcC (l,d,y),false⟩:Blk))::(s,⟨setC a,false⟩)::(c,⟨[gptr n 0 3],false⟩)::h) q g ⟨ok1.2.trans hx.K,hx.P,hx.c,hx.L,hx.D⟩ (ok1.1.mono (by omega)) (by omega)).mono fun _ q g=>And.intro g (pk3 g)
  have hD:=fun q g=>(dEncW a n (m+138) { x with K:=(tenc 1 1 x.K e 1).1,L:=(nenc x.L (tenc 1 1 x.K e 1).2 (l-2)).1 } (nenc x.L (tenc 1 1 x.K e 1).2 (l-2)).2 (d-1) ((A,(⟨pcC (l,d,y),false⟩:Blk))::(s,⟨setC a,false⟩)::(c,⟨[gptr n 0 3],false⟩)::h) q g ⟨ok1.2.trans hx.K,hx.P,hx.c,ok2.2.trans hx.L,hx.D⟩ (ok2.1.mono (by omega)) (by omega))
  generalize tenc 1 1 x.K e 1=T at *
  dsimp only at hL hD ⊢
  generalize nenc x.L T.2 (l-2)=V at *
  generalize nenc x.D V.2 (d-1)=W at *
  have hdl:1≤d∧d≤4096∧2≤l∧l≤273:=by rcases hv with g|g <;> (dsimp only at g;omega)
  repeat'(first|apply zF|apply zB|apply zE|refine jg ?_ ?_|(apply o_ar zC;exact rfl;exact rfl)|(apply zM zC;(iterate 3 exact rfl);exact pk)|(refine jc ?_ (c:=by exact⟨_,hK,jN⟩);rintro _ _ ⟨hb2,⟨pA2,hA2⟩,⟨pS2,hS2⟩,⟨pC2,hC2⟩⟩)|(refine jc ?_ (c:=by exact⟨_,hL _ hb2,jN⟩);rintro _ _ ⟨hb3,⟨pA3,hA3⟩,⟨pS3,hS3⟩,⟨pC3,hC3⟩⟩)|(refine jc ?_ (c:=by exact⟨_,hD _ hb3,jN⟩);rintro _ _ hb4)|refine jf ?_|apply zA|apply zI|exact jS|exact jL|exact jW|exact jE|exact True.intro|exact rfl)
  all_goals first
   |(exfalso;omega)
   |(apply s_finN;(exact(show ResS _ _ _ _ [] from trivial));exact(hb4.re Take.dn8).imp fun _ g=>⟨⟨rfl,g.1⟩,g.2⟩;(focus repeat with_reducible first|exact Take.nil|apply Take.c|apply Take.drop))

def lcst :Cst:=⟨9,12,1,1⟩
theorem lcst_ok :vC lcst:=by unfold vC one1 lcst;decide
def pcs (l:List UInt8):List Pc:=(parse lcst l 4096).1
theorem pcs_cov {l:List UInt8}(hl:l.length≤4096):Cov l 4096 0 (pcs l):=parse_cov lcst_ok (by decide) hl
theorem pcs_err (l:List UInt8):(parse lcst l 4096).2=if 4096<l.length then 9 else 0:=by
 unfold parse
 rw[if_pos ⟨lcst_ok,by decide⟩]
 split <;> rfl
theorem cov_vPb {l:List UInt8}{w:Int}(hw:w≤4096){ps:List Pc}{i:Nat}(h:Cov l w i ps):∀t∈ps,vPb t:=fun t ht=>⟨cov_vPs hw h t ht,cov_bytes h t ht⟩
theorem cov_psum {l:List UInt8}{w:Int}(hw:w≤4096):∀{ps:List Pc} {i:Nat},Cov l w i ps→i+psum ps=l.length
 |[],i,h=>by show i+0=_;have:i=l.length:=h;omega
 |t::r,i,h=>by
  have h1:=cov_psum hw h.2
  show i+(t.1.toNat+psum r)=_
  omega
theorem Pieces_any (l:List UInt8)(h:SH)(hl:l.length≤9223372036854775807):SRun Tryz.prog 109 [S l] h fun r q =>
  ∃v,r=.tuple #[v,I (if 4096<l.length then 9 else 0)]∧Has q (recs pcC (pcs l)) 3 (pcs l).length v∧Take q h:=by
 have hP:∀h,SRun Tryz.prog 167 [csV ⟨9,12,1,1⟩,S l,I 4096] h fun r q=>∃v,r=.tuple #[v,I (if 4096<l.length then 9 else 0)]∧Has q (recs pcC (pcs l)) 3 (pcs l).length v∧Take q h :=
  fun h=>(Parse_any lcst l 4096 h hl).mono fun r q ⟨v,g1,g2⟩=>⟨v,by rw[g1,pcs_err],g2.has⟩
 generalize pcs l=L at *
 generalize (if 4096<l.length then(9:Int)else 0)=E at *
 refine zR Tryz.func109 rfl rfl ?_
 repeat'(first|apply zF|apply zB|apply zE|refine jg ?_ ?_|(apply yT zC;exact rfl;exact rfl;(focus first|with_reducible exact pl221);exact rfl;(focus repeat(first|exact BuildR.nil|(apply BuildR.one;exact rfl;exact rfl;(first|(focus(repeat(first|exact SetAt.zero|apply SetAt.succ));done)))));exact rfl)|(refine jc ?_ (c:=by exact⟨_,hP _,jN⟩);rintro _ _ ⟨v,rfl,hv,ht⟩)|apply zA|apply zN|exact jS|fail)
 exact jF (k:=by exact⟨v,rfl,hv,ht⟩)
theorem psum_app (a b:List Pc):psum (a++b)=psum a+psum b:=by
 induction a with
 |nil=>exact(Nat.zero_add _).symm
 |cons t r ih=>show t.1.toNat+psum (r++b)=t.1.toNat+psum r+psum b;omega
theorem wrun_snoc (l:List Pc)(t:Pc)(s:Ms × Enc):wrun (l++[t]) s=wst (wrun l s) t:=by unfold wrun;rw[List.foldl_append];rfl
def zs0 :Ms × Enc:=(ms0,encZ)
def wrt (n:Nat)(ps:List Pc):List UInt8:=vnum n++fin (wrun ps zs0).2
def lzE (l:List UInt8):List UInt8 × Int:=if 4096<l.length then([],9)else(if l=[] then vnum 0 else wrt l.length (pcs l),0)
theorem ztake_bang {α:Type}[Inhabited α]{l:List α}{i:Nat}(h:i<l.length):l.take (i+1)=l.take i++[l[i]!]:=by
 rw[getElem!_pos l i h];exact(List.take_append_getElem h).symm
theorem psum_all {l:List Pc}{i:Nat}:psum (l.take i)≤psum l:=by
 have h1:=psum_app (l.take i) (l.drop i)
 rw[List.take_append_drop]at h1
 omega
theorem wrunT_ok {ps:List Pc}(hv:∀t∈ps,vPb t)(i:Nat):MsOk (wrun (ps.take i) zs0).1∧EncOk (137*psum ps) (wrun (ps.take i) zs0).2:=by
 have h:=wrun_ok (l:=ps.take i) (s:=zs0) ms0_ok encZ_ok (fun t ht=>hv t (List.mem_of_mem_take ht))
 have:=psum_all (l:=ps) (i:=i)
 exact⟨h.1,h.2.mono (by omega)⟩
abbrev WF (s c:Nat):Value:=.func (.func 112) ⟨[]⟩ ⟨[gptr s 0 4,gptr c 0 1]⟩
theorem Encode_any' (l:List UInt8)(h:SH)(hl:l.length≤9223372036854775807):SRun Tryz.prog 65 [S l] h fun r q=>r=.tuple #[S (lzE l).1,I (lzE l).2]∧q=h:=by
 have hP:=fun h=>Pieces_any l h hl
 have hN:=fun h=>Number_any (l.length:Int) h (by omega)
 by_cases hbig:4096<l.length
 ·rw[show lzE l=([],9)from if_pos hbig]
  simp only[if_pos hbig]at hP
  refine zR Tryz.func65 rfl rfl ?_
  repeat'(first|apply zF|apply zB|apply zE|refine jg ?_ ?_|(refine jc ?_ (c:=by exact⟨_,hP _,jN⟩);rintro _ _ ⟨v,rfl,hv,ht⟩)|(apply yB;exact rfl)|apply zA|apply zP|apply zN|exact jS|fail)
  all_goals first
   |(exfalso;omega)
   |(apply zL;(exact(show ResS _ _ _ _ [_,_] from⟨rfl,⟨rfl,trivial⟩⟩));exact⟨rfl,rfl⟩;(focus repeat(first|with_reducible exact Take.nil|exact ht|with_reducible apply Take.c|with_reducible apply Take.drop)))
 ·simp only[if_neg hbig]at hP
  by_cases h0:l=[]
  ·subst h0
   rw[show lzE []=(vnum 0,0)from rfl]
   refine zR Tryz.func65 rfl rfl ?_
   repeat'(first|apply zF|apply zB|apply zE|refine jg ?_ ?_|(refine jc ?_ (c:=by exact⟨_,hP _,jN⟩);rintro _ _ ⟨v,rfl,hv,ht⟩)|(refine jc ?_ (c:=by exact⟨_,hN _,jN⟩);rintro _ _ ⟨rfl,rfl⟩)|(apply yB;exact rfl)|(apply zS;exact rfl)|apply zA|apply zP|apply zI|apply zN|exact jS|fail)
   all_goals first
    |contradiction
    |(apply zL;(exact(show ResS _ _ _ _ [_,_] from⟨rfl,⟨rfl,trivial⟩⟩));exact⟨rfl,rfl⟩;(focus repeat(first|with_reducible exact Take.nil|exact ht|with_reducible apply Take.c|with_reducible apply Take.drop)))
  ·rw[show lzE l=(wrt l.length (pcs l),0)by unfold lzE;rw[if_neg hbig,if_neg h0]]
   have hcv:=pcs_cov (l:=l) (by omega)
   have hvp:=cov_vPb (by omega) hcv
   have hps:=cov_psum (by omega) hcv
   have hl0:l.length≠0:=fun g=>h0 (List.length_eq_zero_iff.1 g)
   have hpl:=cov_short (by omega) hcv
   unfold wrt
   generalize pcs l=ps at *
   have hpn:ps.length≠0:=fun g=>by
    rw[List.length_eq_zero_iff.1 g]at hps
    exact hl0 (by rw[←hps];rfl)
   refine zR Tryz.func65 rfl rfl ?_
   repeat'(first|apply zF|apply zB|apply zE|refine jg ?_ ?_|(apply zX zC;(iterate 4 exact rfl);exact up)|(apply yE zC;(iterate 4 exact rfl);exact⟨rfl⟩;exact up)|refine jy ?_|(apply o_makeFunc;iterate 3 exact rfl)|(refine jc ?_ (c:=by exact⟨_,hP _,jN⟩);rintro _ _ ⟨v,rfl,⟨ad,fl,rfl,hh⟩,ht⟩)|(refine jc ?_ (c:=by exact⟨_,hN _,jN⟩);rintro _ _ ⟨rfl,rfl⟩)|(refine jc ?_ (c:=by exact⟨_,newSet_any _,jN⟩);rintro _ _ ⟨a,rfl,rfl⟩)|(refine jc ?_ (c:=by exact⟨_,NewEncoderT _,jN⟩);rintro _ _ ⟨n,rfl,rfl⟩)|(apply zS;exact rfl)|refine jf ?_|apply zA|apply zI|apply zH|exact jS|exact jL|((with_reducible apply Se.mk);first|(focus(repeat(first|exact SetAt.zero));done))|exact jP|exact True.intro|intro A)
   all_goals first|contradiction|skip
   rename_i q0 s
   refine zZ (S:=Nat × SH) (fun x=>[(6,S (vnum l.length)),(8,gptr A 0 1),(9,WF s A),(29,.slice ad ps.length fl),(30,I ps.length),(31,I x.1)]) (fun x=>x.2)
    (fun x=>x.1≤ps.length∧EncT n (msB a (wrun (ps.take x.1) zs0).1 ((s,⟨setC a,false⟩)::(A,⟨[gptr n 0 3],false⟩)::q0)) none (wrun (ps.take x.1) zs0).2 x.2) (fun x=>ps.length-x.1)
    (0,(n,⟨encC (.slice none 0 0) 0 4294967295,false⟩)::msB a ms0 ((s,⟨setC a,false⟩)::(A,⟨[gptr n 0 3],false⟩)::q0)) ⟨Nat.zero_le _,.nil _ _ rfl⟩ jB jK ?_
   rintro⟨i,p⟩ ⟨hi,hb⟩
   dsimp only at hi hb ⊢
   have hok:=wrunT_ok hvp i
   obtain⟨pC,hpC⟩:∃p1,Pick p A ⟨[gptr n 0 3],false⟩ p1:=hb.pick (.tail (.tail (.tail (.tail (.tail (.tail (.tail (.tail (.tail .head)))))))))
   by_cases hil:i<ps.length
   ·obtain⟨A',ro,h1,rfl,hp⟩:=hh (by omega)
    obtain⟨pA,hpA⟩:=hb.pick (.tail (.tail (.tail (.tail (.tail (.tail (.tail (.tail (.tail (.tail hp))))))))))
    have hW:∀A2 b2,SRun Tryz.prog 112 [pcV ps[i]!,gptr s 0 4,gptr A 0 1] ((A2,b2)::p) fun r q=>r=.tuple #[]∧EncT n (msB a (wrun (ps.take (i+1)) zs0).1 ((s,⟨setC a,false⟩)::(A,⟨[gptr n 0 3],false⟩)::q0)) none (wrun (ps.take (i+1)) zs0).2 q:=fun A2 b2=>by
     rw[ztake_bang hil,wrun_snoc]
     exact(write_any a n s A _ _ _ ps[i]! q0 p hb hok.1 hok.2 (by omega) (hvp _ (bang_mem hil))).take (.drop .nil)
    repeat'(first|apply zF|apply zB|apply zE|refine jg ?_ ?_|(apply o_ar zC;exact rfl;exact rfl)|(apply yQ zC;(iterate 3 exact rfl);exact pk)|(apply yE zC;(iterate 4 exact rfl);exact⟨rfl⟩;exact up)|refine jy ?_|(refine jc ?_ (c:=by exact⟨_,hW _ _,jN⟩);rintro _ _ ⟨rfl,hb2⟩)|refine jd ?_|apply zA|apply zG|apply zI|apply zH|exact jO|((with_reducible apply Ln.mk);first|rfl|(simp ;first|done|omega))|exact jW|exact jP|((with_reducible apply Su.mk);first|exact zQ|exact subAt_recZ (fun _=>rfl) (by omega))|exact True.intro|intro A|exact rfl)
    all_goals first
     |(exfalso;omega)
     |exact⟨(i+1,_),⟨hil,hb2⟩,by show ps.length-(i+1)<ps.length-i;omega,jB,Take.nil⟩
   ·obtain rfl:i=ps.length:=by omega
    rw[List.take_length]at hb hok
    have hs1:=vnum_len (n:=(l.length:Int)) (by omega)
    have hs2:=(vk_ok (n:=(l.length:Int)) (by omega)).2
    have hs3:(fin (wrun ps zs0).2).length=(wrun ps zs0).2.out.length+4:=by simp[fin,tail4]
    have hs4:=hok.2.out
    have hF:=Finish_any n (wrun ps zs0).2 p hb.b.r (by omega) hok.2.low
    generalize fin (wrun ps zs0).2=F at *
    repeat'(first|apply zF|apply zB|apply zE|refine jg ?_ ?_|(apply zM zC;(iterate 3 exact rfl);exact pk)|(refine jc ?_ (c:=by exact⟨_,hF,jN⟩);rintro _ _ ⟨rfl,rfl⟩)|refine jf ?_|apply zA|apply zK|apply zJ|apply zN|apply zV|exact jO|exact jL|exact jE|exact True.intro|exact rfl)
    all_goals first
     |(exfalso;omega)
     |(apply zL;(exact(show ResS _ _ _ _ [_,_] from⟨rfl,⟨rfl,trivial⟩⟩));exact⟨rfl,rfl⟩;(focus repeat(first|with_reducible exact Take.nil|exact hb.b.take.trans (.drop (.drop (.drop (.drop (.drop (.drop (.drop (.drop (.drop (.drop ht))))))))))|with_reducible apply Take.c|with_reducible apply Take.drop)))

structure Rd1 where
 x:Ms
 d:Dec
 lit:Bool
 t:Pc
def zrd (x:Ms)(d:Dec):Rd1 :=
 if(tdec 1 x.K d 1).2.2=2 then
  ⟨{ x with K:=(tdec 1 x.K d 1).1,P:=(bdec x.P x.c (tdec 1 x.K d 1).2.1).1,c:=(bdec x.P x.c (tdec 1 x.K d 1).2.1).2.2 },(bdec x.P x.c (tdec 1 x.K d 1).2.1).2.1,true,(1,0,(bdec x.P x.c (tdec 1 x.K d 1).2.1).2.2)⟩
 else
  ⟨{ x with K:=(tdec 1 x.K d 1).1,L:=(ndec x.L (tdec 1 x.K d 1).2.1).1,D:=(ndec x.D (ndec x.L (tdec 1 x.K d 1).2.1).2.1).1 },(ndec x.D (ndec x.L (tdec 1 x.K d 1).2.1).2.1).2.1,false,
   ((ndec x.L (tdec 1 x.K d 1).2.1).2.2+2,(ndec x.D (ndec x.L (tdec 1 x.K d 1).2.1).2.1).2.2+1,0)⟩
abbrev okC (n:Nat)(o:List UInt8)(t:Pc):Prop:=2≤t.1∧t.1≤273∧t.1+o.length≤n∧1≤t.2.1∧t.2.1≤o.length
def rdP (n:Nat):Nat→Ms→Dec→List UInt8→Option (List Pc × Dec)
 |0,_,d,_=>some ([],d)
 |f+1,x,d,o=>if o.length<n then
   (if(zrd x d).lit=true∨okC n o (zrd x d).t then(rdP n f (zrd x d).x (zrd x d).d (estp o (zrd x d).t)).map fun r=>((zrd x d).t::r.1,r.2)else none)
  else some ([],d)
def exps (ps:List Pc)(o:List UInt8):List UInt8:=ps.foldl estp o
def lzR (D:List UInt8)(n:Nat):List UInt8 × Bool:=match rdP n n ms0 (dnew D) []with
 |some r=>(exps r.1 [],true)
 |none=>([],false)
theorem rstp_ok {x:Ms}{d:Dec}(hx:MsOk x)(hd:DecOk d):MsOk (zrd x d).x∧DecOk (zrd x d).d∧((zrd x d).lit=true→(zrd x d).t.1=1∧(zrd x d).t.2.1=0∧0≤(zrd x d).t.2.2∧(zrd x d).t.2.2≤255)∧((zrd x d).lit=false→(zrd x d).t.2.2=0):=by
 obtain⟨h1,h2,_⟩:=tdec_ok (k:=1) (t:=x.K) (j:=1) hd
 unfold zrd
 split
 ·obtain⟨g1,g2,g3⟩:=bdec_ok (P:=x.P) (c:=x.c) h1 hx.P hx.c
  exact⟨⟨h2.trans hx.K,g2,g3,hx.L,hx.D⟩,g1,fun _=>⟨rfl,rfl,g3⟩,fun g=>(by cases g)⟩
 ·obtain⟨g1,g2⟩:=ndec_ok (t:=x.L) h1 hx.L
  obtain⟨k1,k2⟩:=ndec_ok (t:=x.D) g1 hx.D
  exact⟨⟨h2.trans hx.K,hx.P,hx.c,g2,k2⟩,k1,fun g=>(by cases g),fun _=>rfl⟩
theorem rdP_go {n f:Nat}{x:Ms}{d:Dec}{o:List UInt8}(h:o.length<n)(hf:n-o.length≤f):∃f',f=f'+1∧rdP n f x d o=(if(zrd x d).lit=true∨okC n o (zrd x d).t then(rdP n f' (zrd x d).x (zrd x d).d (estp o (zrd x d).t)).map fun r=>((zrd x d).t::r.1,r.2)else none):=by
 cases f with
 |zero=>omega
 |succ f=>exact⟨f,rfl,if_pos h⟩
theorem rdP_end {n f:Nat}{x:Ms}{d:Dec}{o:List UInt8}(h:¬o.length<n):rdP n f x d o=some ([],d):=by
 cases f with
 |zero=>rfl
 |succ f=>exact if_neg h
inductive OR (a:Mad)(s nd:Nat)(x:Ms)(d:Dec)(h:SH):List UInt8→Value→SH→Prop
 |nil:OR a s nd x d h [] (.slice none 0 0) (decB nd d::msB a x ((s,⟨setC a,false⟩)::h))
 |some (A:Nat) (o:List UInt8):OR a s nd x d h o (gsl A 0 o.length o.length 1) (decB nd d::msB a x ((A,⟨bytesV o,false⟩)::(s,⟨setC a,false⟩)::h))
def outR (o:List UInt8)(r:Option (List Pc × Dec)):List UInt8 × Bool:=match r with
 |some r=>(exps r.1 o,true)
 |none=>([],false)
theorem outR_map {o:List UInt8}{t:Pc}{r:Option (List Pc × Dec)}:outR o (r.map fun r=>(t::r.1,r.2))=outR (estp o t) r:=by cases r <;> rfl
theorem rstp_lit {x:Ms}{d d1 d2:Dec}{K1 P2:List Int}{c2:Int}(h1:tdec 1 x.K d 1=(K1,d1,2))(h2:bdec x.P x.c d1=(P2,d2,c2)):zrd x d=⟨⟨K1,P2,c2,x.L,x.D⟩,d2,true,(1,0,c2)⟩:=by
 unfold zrd
 rw[h1]
 dsimp only
 rw[if_pos rfl,h2]
theorem rstp_cpy {x:Ms}{d d1 d2 d3:Dec}{j:Nat}{K1 L2 D3:List Int}{l2 dd:Int}(h1:tdec 1 x.K d 1=(K1,d1,j))(hj:j≠2)(h2:ndec x.L d1=(L2,d2,l2))(h3:ndec x.D d2=(D3,d3,dd)):zrd x d=⟨⟨K1,x.P,x.c,L2,D3⟩,d3,false,(l2+2,dd+1,0)⟩:=by
 unfold zrd
 rw[h1]
 dsimp only
 rw[if_neg hj,h2]
 dsimp only
 rw[h3]
theorem lzread_any (l:List UInt8)(n:Nat)(h:SH)(hl:l.length≤1000000)(hn:n≤4096) :
  SRun Tryz.prog 176 [S l,I n] h fun r q=>r=.tuple #[S (lzR l n).1,B (lzR l n).2]∧q=h:=by
 obtain⟨R,hR⟩:∃R,R=lzR l n:=⟨_,rfl⟩
 rw[←hR]
 have hR:outR [] (rdP n n ms0 (dnew l) [])=R:=hR.symm
 have hd0:=dnew_ok (l:=l) (by omega)
 have hND:∀h,SRun Tryz.prog 177 [S l] h fun r q=>∃n,r=gptr n 0 5∧q=decB n (dnew l)::h:=fun h=>NewDecoder_any l h (by omega)
 have hNS:∀h,SRun Tryz.prog 110 [] h fun r q=>∃a:Mad,r=.agg ⟨setC a⟩∧q=msB a ms0 h:=newSet_any
 have hm0:=ms0_ok
 generalize ms0=x0 at hR hm0 hNS
 generalize dnew l=d0 at hR hd0 hND
 refine zY Tryz.func176 rfl rfl ?_
 repeat'(first|apply zF|apply zB|apply zE|refine jg ?_ ?_|(apply yE zC;(iterate 4 exact rfl);exact⟨rfl⟩;exact up)|refine jy ?_|(refine jc ?_ (c:=by exact⟨_,hNS _,jN⟩);rintro _ _ ⟨a,rfl,rfl⟩)|(refine jc ?_ (c:=by exact⟨_,hND _,jN⟩);rintro _ _ ⟨nd,rfl,rfl⟩)|apply zA|apply zH|exact jS|exact jL|exact jP|exact True.intro|intro A)
 obtain⟨s,rfl⟩:∃s,s=A:=⟨_,rfl⟩
 refine zZ (S:=Nat × Ms × Dec × List UInt8 × Value × SH) (fun y=>[(1,I n),(6,gptr s 0 4),(7,gptr nd 0 5),(8,y.2.2.2.2.1)]) (fun y=>y.2.2.2.2.2)
  (fun y=>n-y.2.2.2.1.length≤y.1∧MsOk y.2.1∧DecOk y.2.2.1∧y.2.2.2.1.length≤n∧OR a s nd y.2.1 y.2.2.1 h y.2.2.2.1 y.2.2.2.2.1 y.2.2.2.2.2∧outR y.2.2.2.1 (rdP n y.1 y.2.1 y.2.2.1 y.2.2.2.1)=R) (fun y=>y.1)
  (n,x0,d0,[],.slice none 0 0,decB nd d0::msB a x0 ((s,⟨setC a,false⟩)::h)) ⟨Nat.sub_le _ _,hm0,hd0,Nat.zero_le _,.nil,hR⟩ jB jK ?_
 rintro⟨f,x,d,o,w,p⟩ ⟨hf,hx,hd,ho,hb,he⟩
 dsimp only at hf hx hd ho hb he ⊢
 by_cases hlt:o.length<n
 ·obtain⟨f',rfl,e⟩:=rdP_go (x:=x) (d:=d) hlt hf
  rw[e]at he
  clear e
  have hrs:=rstp_ok hx hd
  have hK:=fun h=>kDecW a nd x d h hx hd
  obtain⟨h1,h2,h3⟩:=tdec_ok (k:=1) (t:=x.K) (j:=1) hd
  obtain⟨⟨K1,d1,j⟩,hT⟩:∃T,tdec 1 x.K d 1=T:=⟨_,rfl⟩
  rw[hT]at hK h1 h2 h3
  dsimp only at hK h1 h2 h3
  have h2':=h2.trans hx.K
  by_cases hj:j=2
  ·subst hj
   have hB:=fun h=>bDecW a nd { x with K:=K1 } d1 h ⟨h2',hx.P,hx.c,hx.L,hx.D⟩ h1
   obtain⟨⟨P2,d2,c2⟩,hV⟩:∃V,bdec x.P x.c d1=V:=⟨_,rfl⟩
   dsimp only at hB
   rw[hV]at hB
   dsimp only at hB
   rw[rstp_lit hT hV]at he hrs
   dsimp only at he hrs
   rw[if_pos (.inl rfl),outR_map,estp_lit o rfl]at he
   have hc2:=(hrs.2.2.1 rfl).2.2
   dsimp only at hc2 he
   cases hb with
   |nil =>
    repeat'(first|apply zF|apply zB|apply zE|refine jg ?_ ?_|(apply zM zC;(iterate 3 exact rfl);exact pk)|refine jb ?_|(apply o_append_nil zC;(iterate 5 exact rfl);exact⟨by decide⟩;exact pk)|refine jq ?_ (c:=by exact⟨_,hK _,jN⟩)|refine jq ?_ (c:=by exact⟨_,hB _,jN⟩)|(apply yB;exact rfl)|refine jd ?_|apply zA|apply zK|apply zJ|apply zI|apply zV|apply zH|((with_reducible apply Sd.mk);first|exact True.intro|(constructor <;> first|omega|(unfold maxLen;omega)))|exact jL|exact jE|exact jU|exact True.intro|intro A|exact rfl)
    all_goals first
     |(exfalso;omega)
     |skip
    all_goals (rw[show Y c2=byteV (byt c2)from byteV_byt hc2];exact⟨(f',⟨K1,P2,c2,x.L,x.D⟩,d2,[byt c2],gsl A 0 1 1 1,decB nd d2::msB a ⟨K1,P2,c2,x.L,x.D⟩ ((A,⟨bytesV [byt c2],false⟩)::(s,⟨setC a,false⟩)::h)),⟨by show n-1≤f';simp only[List.length_nil]at hf;omega,hrs.1,hrs.2.1,by show 1≤n;omega,  .some A [byt c2],he⟩,by show f'<f'+1;omega,jB,jK⟩)
   |some A0 o =>
    repeat'(first|apply zF|apply zB|apply zE|refine jg ?_ ?_|(apply zM zC;(iterate 3 exact rfl);exact pk)|refine jb ?_|(apply o_append zC;(iterate 5 exact rfl);exact⟨by decide⟩;exact up;exact pk)|refine jq ?_ (c:=by exact⟨_,hK _,jN⟩)|refine jq ?_ (c:=by exact⟨_,hB _,jN⟩)|(apply yB;exact rfl)|refine jd ?_|apply zA|apply zK|apply zJ|apply zI|apply zV|apply zH|((with_reducible apply Sd.mk);first|exact True.intro|(constructor <;> first|omega|(unfold maxLen;omega)))|((with_reducible apply Ln.mk);first|rfl|omega|(simp ;first|done|omega))|exact jE|exact jU|exact True.intro|intro A|exact rfl)
    all_goals first
     |(exfalso;omega)
     |skip
    all_goals
     (rw[show Y c2=byteV (byt c2)from byteV_byt hc2]
      exact⟨(f',⟨K1,P2,c2,x.L,x.D⟩,d2,o++[byt c2],gsl A0 0 (o++[byt c2]).length (o++[byt c2]).length 1,decB nd d2::msB a ⟨K1,P2,c2,x.L,x.D⟩ ((A0,⟨bytesV (o++[byt c2]),false⟩)::(s,⟨setC a,false⟩)::h)),⟨by show n-(o++[byt c2]).length≤f';rw[List.length_append,List.length_singleton];omega,hrs.1,hrs.2.1,by show(o++[byt c2]).length≤n;rw[List.length_append,List.length_singleton];omega,.some A0 (o++[byt c2]),he⟩,by show f'<f'+1;omega,
        ⟨rfl,rfl,rfl,congrArg some (gslE rfl rfl (by simp) (by simp) rfl),trivial⟩,(by repeat(first|with_reducible exact Take.nil|with_reducible apply Take.c|((with_reducible apply Take.cE);first|exact rfl|(apply blkE;(focus first|exact rfl|exact yI rfl|exact yO rfl|exact congrArg (fun v=>[v]) (gslE rfl rfl (by first|rfl|exact ‹_›|omega|(simp ;first|done|omega)) (by first|rfl|exact ‹_›|omega|(simp ;first|done|omega)) rfl))))|with_reducible apply Take.drop))⟩)
  ·have hx1:MsOk { x with K:=K1 }:=⟨h2',hx.P,hx.c,hx.L,hx.D⟩
   have hL:=fun h=>lDecW a nd { x with K:=K1 } d1 h hx1 h1
   obtain⟨⟨L2,d2,l2⟩,hV⟩:∃V,ndec x.L d1=V:=⟨_,rfl⟩
   have okL:=ndec_ok (t:=x.L) h1 hx.L
   dsimp only at hL
   rw[hV]at hL okL
   dsimp only at hL okL
   have hD:=fun h=>dDecW a nd { x with K:=K1,L:=L2 } d2 h ⟨h2',hx.P,hx.c,okL.2,hx.D⟩ okL.1
   obtain⟨⟨D3,d3,dd⟩,hW⟩:∃V,ndec x.D d2=V:=⟨_,rfl⟩
   dsimp only at hD
   rw[hW]at hD
   dsimp only at hD
   rw[rstp_cpy hT hj hV hW]at he hrs
   dsimp only at he hrs
   have hj3:(j:Int)-2≠0:=by omega
   cases hb with
   |nil =>
    rw[if_neg (by rintro(g|g);cases g;unfold okC at g;simp only[List.length_nil]at g;omega)]at he
    repeat'(first|apply zF|apply zB|apply zE|refine jr ?_|refine jg ?_ ?_|(apply o_ar zC;exact rfl;exact rfl)|(apply zM zC;(iterate 3 exact rfl);exact pk)|refine jq ?_ (c:=by exact⟨_,hK _,jN⟩)|(apply o_callE0;(iterate 4 exact rfl);exact⟨hL _,jN⟩;(focus first|exact List.Perm.refl _);(focus(intro ρ D hρ hD;refine⟨?_,?_⟩;(focus repeat(first|exact VR.const rfl));(focus repeat(first|((apply SHR.same);(focus intro x hx;(repeat(first|exact hx|apply List.mem_cons_of_mem));done))|((apply SHR.keep);(focus(repeat(first|with_reducible exact List.mem_cons_self|apply List.mem_cons_of_mem));done))|(apply SHR.cons;(focus first|((apply rho_pick hρ);(exact pk)));(focus repeat(first|exact VR.const rfl|exact VRs.nil|((apply VRs.const);(focus first|exact map_const (fun _=>rfl)))|apply VRs.cons))))))))|(apply o_callE0;(iterate 4 exact rfl);exact⟨hD _,jN⟩;(focus first|exact List.Perm.refl _);(focus(intro ρ D hρ hD;refine⟨?_,?_⟩;(focus repeat(first|exact VR.const rfl));(focus repeat(first|((apply SHR.same);(focus intro x hx;(repeat(first|exact hx|apply List.mem_cons_of_mem));done))|((apply SHR.keep);(focus(repeat(first|with_reducible exact List.mem_cons_self|apply List.mem_cons_of_mem));done))|(apply SHR.cons;(focus first|((apply rho_pick hρ);(exact pk)));(focus repeat(first|exact VR.const rfl|exact VRs.nil|((apply VRs.const);(focus first|exact map_const (fun _=>rfl)))|apply VRs.cons))))))))|refine jw ?_|refine jk ?_|(apply o_guardF;(iterate 3 exact rfl);all_goals intro hc)|(apply yB;exact rfl)|refine jd ?_|refine jf ?_|apply zA|apply zP|apply yP|apply zI|apply zN|apply zH|exact jS|exact jL|exact jW|exact jE|exact True.intro|refine Rc.mk ⟨_,_,pk,?_⟩|exact Or.inl rfl|refine Or.inr (And.intro ?_ ?_)|apply And.intro|exact rfl)
    all_goals first
     |(exfalso;omega)
     |exact jF (k:=by exact⟨by rw[←he];rfl,rfl⟩)
   |some A0 o =>
    repeat'(first|apply zF|apply zB|apply zE|refine jr ?_|refine jg ?_ ?_|(apply o_ar zC;exact rfl;exact rfl)|(apply zM zC;(iterate 3 exact rfl);exact pk)|refine jq ?_ (c:=by exact⟨_,hK _,jN⟩)|(apply o_callE0;(iterate 4 exact rfl);exact⟨hL _,jN⟩;(focus first|exact List.Perm.refl _);(focus(intro ρ D hρ hD;refine⟨?_,?_⟩;(focus repeat(first|exact VR.const rfl));(focus repeat(first|((apply SHR.same);(focus intro x hx;(repeat(first|exact hx|apply List.mem_cons_of_mem));done))|((apply SHR.keep);(focus(repeat(first|with_reducible exact List.mem_cons_self|apply List.mem_cons_of_mem));done))|(apply SHR.cons;(focus first|((apply rho_pick hρ);(exact pk)));(focus repeat(first|exact VR.const rfl|exact VRs.nil|((apply VRs.const);(focus first|exact map_const (fun _=>rfl)))|apply VRs.cons))))))))|(apply o_callE0;(iterate 4 exact rfl);exact⟨hD _,jN⟩;(focus first|exact List.Perm.refl _);(focus(intro ρ D hρ hD;refine⟨?_,?_⟩;(focus repeat(first|exact VR.const rfl));(focus repeat(first|((apply SHR.same);(focus intro x hx;(repeat(first|exact hx|apply List.mem_cons_of_mem));done))|((apply SHR.keep);(focus(repeat(first|with_reducible exact List.mem_cons_self|apply List.mem_cons_of_mem));done))|(apply SHR.cons;(focus first|((apply rho_pick hρ);(exact pk)));(focus repeat(first|exact VR.const rfl|exact VRs.nil|((apply VRs.const);(focus first|exact map_const (fun _=>rfl)))|apply VRs.cons))))))))|refine jw ?_|refine jk ?_|(apply o_guardF;(iterate 3 exact rfl);all_goals intro hc)|(apply yB;exact rfl)|refine jd ?_|refine jf ?_|(apply w_if;exact rfl;all_goals intro hc)|apply zA|apply zP|apply yP|apply zI|apply zN|apply zH|exact jS|exact jL|exact jW|exact jE|exact True.intro|refine Rc.mk ⟨_,_,pk,?_⟩|exact Or.inl rfl|refine Or.inr (And.intro ?_ ?_)|apply And.intro|exact rfl)
    all_goals first
     |(exfalso;omega)
     |(rw[if_neg (by rintro(g|g);cases g;unfold okC at g;dsimp only at g;omega)]at he;exact jF (k:=by exact⟨by rw[←he];rfl,rfl⟩))
     |skip
    have hg:2≤l2+2∧l2+2≤273∧l2+2+o.length≤n∧1≤dd+1∧dd+1≤o.length:=by omega
    rw[if_pos (.inr hg),outR_map,estp_cpy o (by show dd+1≠0;omega)]at he
    dsimp only at he
    obtain⟨N,hN⟩:∃N,N=(l2+2).toNat:=⟨_,rfl⟩
    obtain⟨D,hDD⟩:∃D,D=(dd+1).toNat:=⟨_,rfl⟩
    rw[←hN,←hDD]at he
    refine zZ (S:=Nat × List UInt8) (fun y=>[(1,I n),(6,gptr s 0 4),(7,gptr nd 0 5),(8,gsl A0 0 y.2.length y.2.length 1),(10,I dd),(64,I (l2+2)),(65,I y.1)])
     (fun y=>decB nd d3::msB a ⟨K1,x.P,x.c,L2,D3⟩ ((A0,⟨bytesV y.2,false⟩)::(s,⟨setC a,false⟩)::h))
     (fun y=>y.1≤N∧y.2.length=o.length+y.1∧copyN D (N-y.1) y.2=copyN D N o) (fun y=>N-y.1) (0,o) ⟨Nat.zero_le _,rfl,rfl⟩ jB jK ?_
    rintro⟨k,o2⟩ ⟨hk,hol,hcp⟩
    dsimp only at hk hol hcp ⊢
    by_cases hkN:k<N
    ·rw[show N-k=(N-(k+1))+1 by omega,copyN]at hcp
     have hbt:Value.int .u8 (bat o2 ((o2.length:Int)-dd-1))=byteV o2[o2.length-D]!:=by
      show _=Value.int .u8 _
      congr 1
      unfold bat
      rw[show((o2.length:Int)-dd-1).toNat=o2.length-D by omega,List.getD_eq_getElem?_getD,getElem!_pos o2 _ (by omega),List.getElem?_eq_getElem (by omega)];rfl
     repeat'(first|apply zF|apply zB|apply zE|refine jg ?_ ?_|(apply o_ar zC;exact rfl;exact rfl)|(apply zM zC;(iterate 3 exact rfl);exact pk)|refine jb ?_|(apply o_append zC;(iterate 5 exact rfl);exact⟨by decide⟩;exact up;exact pk)|refine jd ?_|apply zA|apply zG|apply zI|apply zH|exact jV|((with_reducible apply Ln.mk);first|rfl|omega|(simp ;first|done|omega))|exact jW|((with_reducible apply Ce.mk);first|exact cell_bytes (by omega))|exact jU|exact True.intro|intro A|exact rfl)
     all_goals first
      |(exfalso;omega)
      |skip
     rw[hbt]
     exact⟨(k+1,o2++[o2[o2.length-D]!]),⟨hkN,by show(o2++[_]).length=_;rw[List.length_append,List.length_singleton];omega,hcp⟩,by show N-(k+1)<N-k;omega,⟨rfl,rfl,rfl,congrArg some (gslE rfl rfl (by simp) (by simp) rfl),by repeat'(first|exact trivial|refine⟨rfl,?_⟩)⟩,(by repeat(first|with_reducible exact Take.nil|with_reducible apply Take.c|((with_reducible apply Take.cE);first|exact rfl|(apply blkE;(focus first|exact rfl|exact yI rfl|exact yO rfl|exact congrArg (fun v=>[v]) (gslE rfl rfl (by first|rfl|exact ‹_›|omega|(simp ;first|done|omega)) (by first|rfl|exact ‹_›|omega|(simp ;first|done|omega)) rfl))))|with_reducible apply Take.drop))⟩
    ·obtain rfl:k=N:=by omega
     rw[Nat.sub_self,copyN]at hcp
     rw[←hcp]at he
     repeat'(first|apply zF|apply zB|apply zE|refine jg ?_ ?_|refine jf ?_|apply zA|apply zK|apply zG|apply zJ|apply zV|exact jS|fail)
     all_goals first
      |(exfalso;omega)
      |skip
     exact⟨(f',⟨K1,x.P,x.c,L2,D3⟩,d3,o2,gsl A0 0 o2.length o2.length 1,decB nd d3::msB a ⟨K1,x.P,x.c,L2,D3⟩ ((A0,⟨bytesV o2,false⟩)::(s,⟨setC a,false⟩)::h)),⟨by show n-o2.length≤f';omega,hrs.1,hrs.2.1,by show o2.length≤n;omega,.some A0 o2,he⟩,by show f'<f'+1;omega,jB,jK⟩
 ·rw[rdP_end hlt]at he
  have he:(o,true)=R:=he
  cases hb with
  |nil =>
   rw[List.length_nil]at hlt
   repeat'(first|apply zF|apply zB|apply zE|refine jg ?_ ?_|(apply o_toString_nil zC;iterate 7 exact rfl)|refine jf ?_|apply zA|apply zK|apply zJ|apply zN|apply zV|exact jS|fail)
   all_goals first
    |(exfalso;omega)
    |exact jF (k:=by exact⟨by subst he;rfl,rfl⟩)
  |some A0 o =>
   repeat'(first|apply zF|apply zB|apply zE|refine jg ?_ ?_|(apply o_toString zC;(iterate 6 exact rfl);exact pk)|refine jf ?_|apply zA|apply zK|apply zJ|apply zN|apply zV|exact jS|((with_reducible apply Ln.mk);first|rfl|(simp ;first|done|omega))|exact jU|exact True.intro|exact rfl)
   all_goals first
    |(exfalso;omega)
    |exact jF (k:=by exact⟨by subst he;rfl,rfl⟩)

def lzD (D:List UInt8)(most:Int):List UInt8 × Int :=
 if(rdN D 4096).2.2≠0 then([],12)else if most<(rdN D 4096).1 then([],2)
 else if(lzR (rdN D 4096).2.1 (rdN D 4096).1.toNat).2=false then([],12)
 else if lzE (lzR (rdN D 4096).2.1 (rdN D 4096).1.toNat).1=(D,0)then((lzR (rdN D 4096).2.1 (rdN D 4096).1.toNat).1,0)else([],12)
theorem copyN_le {n:Nat}{o:List UInt8}{t:Pc}(h:okC n o t):(estp o t).length≤n:=by
 unfold okC at h
 rw[estp_cpy o (by omega),copyN_len];omega
theorem rdP_len {n:Nat}:∀{f:Nat} {x:Ms} {d:Dec} {o:List UInt8} {r:List Pc × Dec},MsOk x→DecOk d→o.length≤n→n-o.length≤f→rdP n f x d o=some r→(exps r.1 o).length=n
 |0,x,d,o,r,_,_,ho,hf,h=>by
  obtain rfl:=Option.some.inj h
  show o.length=n;omega
 |f+1,x,d,o,r,hx,hd,ho,hf,h=>by
  by_cases hlt:o.length<n
  ·rw[show rdP n (f+1) x d o=_ from if_pos hlt]at h
   obtain⟨h1,h2,h3,h4⟩:=rstp_ok hx hd
   split at h
   ·rename_i hg
    obtain⟨⟨ps,d'⟩,e1,rfl⟩:=Option.map_eq_some_iff.1 h
    have hel:o.length+1≤(estp o (zrd x d).t).length∧(estp o (zrd x d).t).length≤n:=by
     cases hl:(zrd x d).lit with
     |true =>
      have:=h3 hl
      rw[estp_lit o this.2.1,List.length_append,List.length_singleton];omega
     |false =>
      rw[hl]at hg
      rcases hg with hg|hg
      ·cases hg
      ·refine⟨?_,copyN_le hg⟩
       unfold okC at hg
       rw[estp_cpy o (by omega),copyN_len];omega
    exact rdP_len (r:=(ps,d')) h1 h2 hel.2 (by omega) e1
   ·cases h
  ·rw[rdP_end hlt]at h
   obtain rfl:=Option.some.inj h
   show o.length=n;omega
theorem lzR_len {l:List UInt8}{n:Nat}(hl:l.length≤1000000)(h:(lzR l n).2=true):(lzR l n).1.length=n:=by
 unfold lzR at h ⊢
 cases e:rdP n n ms0 (dnew l) []with
 |none=>rw[e]at h;cases h
 |some r=>exact rdP_len ms0_ok (dnew_ok hl) (Nat.zero_le _) (Nat.sub_le _ _) e
theorem Decode_any' (l:List UInt8)(most:Int)(h:SH)(hl:l.length≤1000000):SRun Tryz.prog 121 [S l,I most] h fun r q=>r=.tuple #[S (lzD l most).1,Er (lzD l most).2]∧q=h:=by
 have hR:=fun n h=>rNumber_any n l 4096 h hl
 have hok:=rdN_ok l 4096
 obtain⟨x,hx⟩:∃x,lzD l most=x:=⟨_,rfl⟩
 rw[hx]
 unfold lzD at hx
 generalize rdN l 4096=V at *
 obtain⟨k,d,e⟩:=V
 dsimp only at *
 have hT:=fun n h=>rTake_any n d (d.length:Int) h (by omega) (by omega)
 rw[show((d.length:Int)).toNat=d.length from rfl,List.take_length,List.drop_length]at hT
 by_cases he:e=0
 case neg =>
  rw[if_pos he]at hx
  refine zY Tryz.func121 rfl rfl ?_
  repeat'(first|apply zF|apply zB|apply zE|refine jg ?_ ?_|(refine jc ?_ (c:=by exact⟨_,yN _ _,jN⟩);rintro _ _ ⟨n,rfl,rfl⟩)|refine jq ?_ (c:=by exact⟨_,hR _ _,jN⟩)|refine jq ?_ (c:=by exact⟨_,rErr_any _ _ _ _,jN⟩)|refine jd ?_|apply zA|apply zP|apply zN|exact jS|fail)
  all_goals first
   |contradiction
   |exact jF (k:=by exact⟨by subst hx;rfl,rfl⟩)
 subst he
 rw[if_neg (by decide)]at hx
 have hk:=hok.2 rfl
 by_cases h1:most<k
 case pos =>
  rw[if_pos h1]at hx
  refine zY Tryz.func121 rfl rfl ?_
  repeat'(first|apply zF|apply zB|apply zE|refine jg ?_ ?_|(refine jc ?_ (c:=by exact⟨_,yN _ _,jN⟩);rintro _ _ ⟨n,rfl,rfl⟩)|refine jq ?_ (c:=by exact⟨_,hR _ _,jN⟩)|refine jq ?_ (c:=by exact⟨_,rErr_any _ _ _ _,jN⟩)|(apply zS;exact rfl)|refine jd ?_|apply zA|apply zP|apply zI|apply zN|exact jS|fail)
  all_goals first
   |contradiction
   |exact jF (k:=by exact⟨by subst hx;rfl,rfl⟩)
 rw[if_neg h1]at hx
 obtain⟨m,rfl⟩:=Int.eq_ofNat_of_zero_le hk.1
 rw[Int.toNat_natCast]at hx
 have hRd:=fun h=>lzread_any d m h (by omega) (by omega)
 have hlen:=lzR_len (l:=d) (n:=m) (by omega)
 obtain⟨⟨s,b⟩,hs⟩:∃R,lzR d m=R:=⟨_,rfl⟩
 rw[hs]at hRd hx hlen
 dsimp only at hRd hx hlen
 cases b with
 |false =>
  rw[if_pos rfl]at hx
  refine zY Tryz.func121 rfl rfl ?_
  repeat'(first|apply zF|apply zB|apply zE|refine jg ?_ ?_|(apply yR;exact rfl;exact rfl)|(refine jc ?_ (c:=by exact⟨_,yN _ _,jN⟩);rintro _ _ ⟨n,rfl,rfl⟩)|refine jq ?_ (c:=by exact⟨_,hR _ _,jN⟩)|refine jq ?_ (c:=by exact⟨_,rErr_any _ _ _ _,jN⟩)|refine jq ?_ (c:=by exact⟨_,rLeft_any _ _ _ _,jN⟩)|refine jq ?_ (c:=by exact⟨_,hT _ _,jN⟩)|refine jq ?_ (c:=by exact⟨_,hRd _,jN⟩)|(apply yB;exact rfl)|(apply zS;exact rfl)|refine jf ?_|apply zA|apply zP|apply zI|apply zN|exact jS|fail)
  all_goals first
   |contradiction
   |exact jF (k:=by exact⟨by subst hx;rfl,rfl⟩)
 |true =>
  rw[if_neg (by decide)]at hx
  have hlen:=hlen rfl
  have hE:=fun h=>Encode_any' s h (by omega)
  obtain⟨⟨t,g⟩,ht⟩:∃R,lzE s=R:=⟨_,rfl⟩
  rw[ht]at hE hx
  dsimp only at hE hx
  refine zY Tryz.func121 rfl rfl ?_
  repeat'(first|apply zF|apply zB|apply zE|refine jg ?_ ?_|(apply yR;exact rfl;exact rfl)|(refine jc ?_ (c:=by exact⟨_,yN _ _,jN⟩);rintro _ _ ⟨n,rfl,rfl⟩)|refine jq ?_ (c:=by exact⟨_,hR _ _,jN⟩)|refine jq ?_ (c:=by exact⟨_,rErr_any _ _ _ _,jN⟩)|refine jq ?_ (c:=by exact⟨_,rLeft_any _ _ _ _,jN⟩)|refine jq ?_ (c:=by exact⟨_,hT _ _,jN⟩)|refine jq ?_ (c:=by exact⟨_,hRd _,jN⟩)|refine jq ?_ (c:=by exact⟨_,hE _,jN⟩)|refine jw ?_|refine jk ?_|(apply o_guardFN;(iterate 3 exact rfl);all_goals intro hc)|(apply yB;exact rfl)|(apply zS;exact rfl)|refine jf ?_|(apply w_ifN;exact rfl;all_goals intro hc)|apply zA|apply zP|apply zI|apply zN|exact jS|fail)
  all_goals first
   |contradiction
   |(rw[if_pos (by rw[show t=l by assumption,show g=0 by assumption])]at hx;exact jF (k:=by exact⟨by subst hx;rfl,rfl⟩))
   |(rw[if_neg (fun e=>absurd (congrArg Prod.snd e) (by assumption))]at hx;exact jF (k:=by exact⟨by subst hx;rfl,rfl⟩))
   |(rw[if_neg (fun e=>absurd (congrArg Prod.fst e) (by assumption))]at hx;exact jF (k:=by exact⟨by subst hx;rfl,rfl⟩))

def hd2 (k:Int):List UInt8:=[b8 165,b8 k]
theorem hd2_len (k:Int):(hd2 k).length=2:=rfl
theorem hd2_sub {k:Int}(hk:0≤k∧k≤255):SubAt [Y 165,Y k] 0 (bytesV (hd2 k)):=by
 have e:bytesV (hd2 k)=[Y 165,Y k]:=by
  unfold hd2
  rw[show ∀a b:UInt8,[a,b]=[a]++[b] from fun _ _=>rfl,bytesV_app,bytesV_one (by omega),bytesV_one (by omega)]
  rfl
 rw[e];exact zQ
def frm (k:Int)(b:List UInt8):List UInt8:=hd2 k++(vnum b.length++b)
def sl (t:List UInt8):List UInt8:=t++le4 (crcV t)
abbrev frV (k:Int)(c:List UInt8):Value:=.agg ⟨[I k,S c]⟩
def wrp (k:Int)(c:List UInt8):List UInt8 × Int :=
 if k<0∨15<k then([],2)else if 4096<c.length then([],9)else(if(lzE c).1.length<c.length then sl (frm (k+16) (lzE c).1)else sl (frm k c),0)
theorem Wrap_any (k:Int)(c:List UInt8)(h:SH)(hl:c.length≤9223372036854775807):SRun Tryz.prog 32 [frV k c] h fun r q=>r=.tuple #[S (wrp k c).1,I (wrp k c).2]∧q=h:=by
 unfold wrp
 by_cases hk:k<0∨15<k
 ·rw[if_pos hk]
  rcases hk with hk|hk
  all_goals
   refine zR Tryz.func32 rfl rfl ?_
   repeat'(first|apply zF|apply zB|apply zE|refine jg ?_ ?_|(apply zM zC;(iterate 3 exact rfl);exact pk)|refine jx ?_|refine jw ?_|refine jk ?_|refine ji ?_|(apply o_sT;(iterate 3 exact rfl);omega;exact rfl)|(apply yB;exact rfl)|refine jd ?_|apply zA|apply zP|apply zN|exact jS|exact jL|exact jE|exact True.intro|intro A|exact rfl)
   all_goals first
    |(exfalso;omega)
    |exact jG
 rw[if_neg hk]
 have hE:=fun h=>Encode_any' c h hl
 by_cases h4:4096<c.length
 ·rw[if_pos h4]
  rw[show lzE c=([],9)from if_pos h4]at hE
  refine zR Tryz.func32 rfl rfl ?_
  repeat'(first|apply zF|apply zB|apply zE|refine jg ?_ ?_|(apply zM zC;(iterate 3 exact rfl);exact pk)|refine jx ?_|refine jq ?_ (c:=by exact⟨_,hE _,jN⟩)|refine jw ?_|refine ji ?_|(apply yB;exact rfl)|refine jf ?_|apply zA|apply zP|apply zI|apply zN|exact jS|exact jL|exact jE|exact True.intro|intro A|exact rfl)
  all_goals first
   |(exfalso;omega)
   |contradiction
   |exact jG
 rw[if_neg h4]
 obtain⟨z,hz⟩:∃z,lzE c=(z,0):=⟨_,if_neg h4⟩
 rw[hz]at hE ⊢
 dsimp only at hE ⊢
 by_cases hs:z.length<c.length
 ·rw[if_pos hs]
  have hT:=fun h=>vText_any z h (by omega)
  have hs1:=vnum_len (n:=(z.length:Int)) (by omega)
  have hs2:=(vk_ok (n:=(z.length:Int)) (by omega)).2
  have hS:=fun h=>Seal_any (hd2 (k+16)++(vnum (z.length:Int)++z)) h (by rw[List.length_append,List.length_append,hd2_len];omega)
  have hsl:sl (frm (k+16) z)=hd2 (k+16)++(vnum (z.length:Int)++z)++le4 (crcV (hd2 (k+16)++(vnum (z.length:Int)++z))):=rfl
  rw[hsl]
  have hsub:=hd2_sub (k:=k+16) (by omega)
  generalize le4 (crcV (hd2 (k+16)++(vnum (z.length:Int)++z)))=L at *
  generalize vnum (z.length:Int)=V at *
  refine zR Tryz.func32 rfl rfl ?_
  repeat'(first|apply zF|apply zB|apply zE|refine jr ?_|refine jg ?_ ?_|(apply o_ar zC;exact rfl;exact rfl)|(apply zM zC;(iterate 3 exact rfl);exact pk)|refine jx ?_|refine jb ?_|(apply o_toString zC;(iterate 6 exact rfl);exact pk)|refine jq ?_ (c:=by exact⟨_,hE _,jN⟩)|(apply yS;(iterate 4 exact rfl);exact⟨_,hT (lockS h),by repeat(first|with_reducible exact Take.nil|with_reducible apply yL|with_reducible apply Take.drop)⟩;exact fun _ _ h=>h.1;(focus(repeat(first|exact Flat.c rfl))))|(apply yS;(iterate 4 exact rfl);exact⟨_,hS (lockS h),by repeat(first|with_reducible exact Take.nil|with_reducible apply yL|with_reducible apply Take.drop)⟩;exact fun _ _ h=>h.1;(focus(repeat(first|exact Flat.c rfl))))|refine jw ?_|refine ji ?_|(apply zS;exact rfl)|refine jd ?_|refine jf ?_|apply zA|apply zI|apply zN|((with_reducible apply Sd.mk);first|exact True.intro|(rw[List.length_append,hd2_len];omega))|exact jL|((with_reducible apply Wr.mk);first|exact IntWalk.i64_in _ (by omega)|exact IntWalk.u8_in _ (by omega))|exact jE|((with_reducible apply Su.mk);first|exact hsub)|exact True.intro|exact Rd.mk ⟨_,hT (lockS h),by repeat(first|with_reducible exact Take.nil|with_reducible apply yL|with_reducible apply Take.drop)⟩|exact Or.inl rfl|apply And.intro|apply Or.inr|intro A|exact rfl)
  all_goals first
   |(exfalso;omega)
   |contradiction
   |exact jG
 ·rw[if_neg hs]
  have hT:=fun h=>vText_any c h (by omega)
  have hs1:=vnum_len (n:=(c.length:Int)) (by omega)
  have hs2:=(vk_ok (n:=(c.length:Int)) (by omega)).2
  have hS:=fun h=>Seal_any (hd2 k++(vnum (c.length:Int)++c)) h (by rw[List.length_append,List.length_append,hd2_len];omega)
  have hsl:sl (frm k c)=hd2 k++(vnum (c.length:Int)++c)++le4 (crcV (hd2 k++(vnum (c.length:Int)++c))):=rfl
  rw[hsl]
  have hsub:=hd2_sub (k:=k) (by omega)
  generalize le4 (crcV (hd2 k++(vnum (c.length:Int)++c)))=L at *
  generalize vnum (c.length:Int)=V at *
  refine zR Tryz.func32 rfl rfl ?_
  repeat'(first|apply zF|apply zB|apply zE|refine jr ?_|refine jg ?_ ?_|(apply o_ar zC;exact rfl;exact rfl)|(apply zM zC;(iterate 3 exact rfl);exact pk)|refine jx ?_|refine jb ?_|(apply o_toString zC;(iterate 6 exact rfl);exact pk)|refine jq ?_ (c:=by exact⟨_,hE _,jN⟩)|(apply yS;(iterate 4 exact rfl);exact⟨_,hT (lockS h),by repeat(first|with_reducible exact Take.nil|with_reducible apply yL|with_reducible apply Take.drop)⟩;exact fun _ _ h=>h.1;(focus(repeat(first|exact Flat.c rfl))))|(apply yS;(iterate 4 exact rfl);exact⟨_,hS (lockS h),by repeat(first|with_reducible exact Take.nil|with_reducible apply yL|with_reducible apply Take.drop)⟩;exact fun _ _ h=>h.1;(focus(repeat(first|exact Flat.c rfl))))|refine jw ?_|refine ji ?_|(apply zS;exact rfl)|refine jf ?_|apply zA|apply zI|apply zN|((with_reducible apply Sd.mk);first|exact True.intro|(rw[List.length_append,hd2_len];omega))|exact jL|((with_reducible apply Wr.mk);first|exact IntWalk.u8_in _ (by omega))|exact jE|((with_reducible apply Su.mk);first|exact hsub)|exact True.intro|exact Rd.mk ⟨_,hT (lockS h),by repeat(first|with_reducible exact Take.nil|with_reducible apply yL|with_reducible apply Take.drop)⟩|exact Or.inl rfl|apply And.intro|apply Or.inr|intro A|exact rfl)
  all_goals first
   |(exfalso;omega)
   |contradiction
   |exact jG

def bdy (d b:List UInt8):Option (List UInt8):=if 16≤bat d 1 then(if(lzD b 4096).2=0 then some (lzD b 4096).1 else none)else some b
def prs (d:List UInt8):Option (Int × List UInt8 × Nat × Bool) :=
 if d.length<2∨bat d 0≠165∨32≤bat d 1 then none else
 match txt (d.drop 2)with
 |none=>none
 |some (b,r)=>if r.length<4 then none else if(opn (d.take (d.length-(r.length-4)))).2≠0 then none else
  match bdy d b with
  |none=>none
  |some c=>if wrp (bat d 1%16) c=(d.take (d.length-(r.length-4)),0)then some (bat d 1%16,c,d.length-(r.length-4),decide (16≤bat d 1))else none
def prV :Option (Int × List UInt8 × Nat × Bool)→Value
 |none=>.tuple ⟨[frV 0 [],I 0,B false,B false]⟩
 |some (k,c,n,s)=>.tuple ⟨[frV k c,I n,B s,B true]⟩
theorem txt_len {l b r:List UInt8}(h:txt l=some (b,r)):b.length≤4096∧r.length≤l.length:=by
 obtain⟨k1,k2⟩:=rdN_ok l 4096
 unfold txt at h
 split at h
 ·rename_i g
  have:=k2 g.1
  obtain⟨rfl,rfl⟩:=Prod.mk.inj (Option.some.inj h)
  rw[List.length_take,List.length_drop]
  exact⟨by omega,by omega⟩
 ·cases h
theorem lzD_le {b:List UInt8}(hb:b.length≤1000000)(m:Int):(lzD b m).1.length≤4096:=by
 have h1:=rdN_ok b 4096
 unfold lzD
 split
 ·exact Nat.zero_le _
 ·rename_i g0
  have h2:=h1.2 (Classical.byContradiction g0)
  split
  ·exact Nat.zero_le _
  ·split
   ·exact Nat.zero_le _
   ·rename_i g
    split
    ·have:=lzR_len (l:=(rdN b 4096).2.1) (n:=(rdN b 4096).1.toNat) (by omega) (by simpa using g)
     show(lzR _ _).1.length≤4096
     omega
    ·exact Nat.zero_le _
theorem none_any (h:SH):SRun Tryz.prog 118 [] h fun r q=>r=prV none∧q=h:=by
 refine w_body0 Tryz.func118 rfl rfl ?_
 repeat'(first|apply zF|apply zB|apply zE|refine jg ?_ ?_|(apply yE zC;(iterate 4 exact rfl);exact⟨rfl⟩;exact up)|refine jy ?_|(apply yT zC;exact rfl;exact rfl;(focus first|with_reducible exact pl38);exact rfl;(focus repeat(first|exact BuildR.nil));exact rfl)|apply zA|apply zN|exact jS|exact jL|exact jP|exact True.intro|intro A)
 (apply zL;(exact(show ResS _ _ _ _ [_,_,_,_] from(res_cell zC rfl rfl rfl (by exact pk) (by first|rfl|exact ‹_›|omega|(simp ;first|done|omega)) (by first|rfl|exact ‹_›|omega|(simp ;first|done|omega)) ⟨rfl,⟨rfl,⟨rfl,trivial⟩⟩⟩)));exact⟨rfl,rfl⟩;(focus repeat with_reducible first|exact Take.nil|apply Take.c|apply Take.drop))
set_option maxHeartbeats 4000000 in
theorem parse_any (d:List UInt8)(h:SH)(hl:d.length≤1000000):SRun Tryz.prog 67 [S d] h fun r q=>r=prV (prs d)∧q=h:=by
 obtain⟨R,hR⟩:∃R,prs d=R:=⟨_,rfl⟩
 rw[hR]
 unfold prs at hR
 have hn:∀h,SRun Tryz.prog 118 [] h fun r q=>r=.tuple ⟨[frV 0 [],I 0,B false,B false]⟩∧q=h:=none_any
 have hb0:=bat_255 d 0
 have hb1:=bat_255 d 1
 by_cases h1:d.length<2∨bat d 0≠165∨32≤bat d 1
 ·rw[if_pos h1]at hR
  subst hR
  by_cases g1:d.length<2
  ·refine zR Tryz.func67 rfl rfl ?_
   repeat'(first|apply zF|apply zB|apply zE|refine jg ?_ ?_|(apply yE zC;(iterate 4 exact rfl);exact⟨rfl⟩;exact up)|refine jy ?_|refine jq ?_ (c:=by exact⟨_,hn _,jN⟩)|refine jk ?_|(apply o_sT;(iterate 3 exact rfl);omega;exact rfl)|(apply yB;exact rfl)|apply zA|apply zP|apply zN|exact jS|exact jL|exact jP|exact True.intro|intro A)
   all_goals first
    |(exfalso;omega)
    |(apply zL;(exact(show ResS _ _ _ _ [_,_,_,_] from(res_cell zC rfl rfl rfl (by exact pk) (by first|rfl|exact ‹_›|omega|(simp ;first|done|omega)) (by first|rfl|exact ‹_›|omega|(simp ;first|done|omega)) ⟨rfl,⟨rfl,⟨rfl,trivial⟩⟩⟩)));exact⟨rfl,rfl⟩;(focus repeat with_reducible first|exact Take.nil|apply Take.c|apply Take.drop))
  by_cases g2:bat d 0=165
  ·refine zR Tryz.func67 rfl rfl ?_
   repeat'(first|apply zF|apply zB|apply zE|refine jg ?_ ?_|(apply yE zC;(iterate 4 exact rfl);exact⟨rfl⟩;exact up)|refine jy ?_|refine jq ?_ (c:=by exact⟨_,hn _,jN⟩)|refine jw ?_|refine ji ?_|refine jd ?_|apply zA|apply zP|apply zN|exact jO|exact jL|exact jP|exact True.intro|intro A)
   all_goals first
    |(exfalso;omega)
    |(apply zL;(exact(show ResS _ _ _ _ [_,_,_,_] from(res_cell zC rfl rfl rfl (by exact pk) (by first|rfl|exact ‹_›|omega|(simp ;first|done|omega)) (by first|rfl|exact ‹_›|omega|(simp ;first|done|omega)) ⟨rfl,⟨rfl,⟨rfl,trivial⟩⟩⟩)));exact⟨rfl,rfl⟩;(focus repeat with_reducible first|exact Take.nil|apply Take.c|apply Take.drop))
  ·refine zR Tryz.func67 rfl rfl ?_
   repeat'(first|apply zF|apply zB|apply zE|refine jg ?_ ?_|(apply yE zC;(iterate 4 exact rfl);exact⟨rfl⟩;exact up)|refine jy ?_|refine jq ?_ (c:=by exact⟨_,hn _,jN⟩)|refine jw ?_|refine jk ?_|refine ji ?_|(apply o_sT;(iterate 3 exact rfl);omega;exact rfl)|(apply yB;exact rfl)|apply zA|apply zP|apply zN|exact jO|exact jL|exact jP|exact True.intro|intro A)
   all_goals first
    |(exfalso;omega)
    |(apply zL;(exact(show ResS _ _ _ _ [_,_,_,_] from(res_cell zC rfl rfl rfl (by exact pk) (by first|rfl|exact ‹_›|omega|(simp ;first|done|omega)) (by first|rfl|exact ‹_›|omega|(simp ;first|done|omega)) ⟨rfl,⟨rfl,⟨rfl,trivial⟩⟩⟩)));exact⟨rfl,rfl⟩;(focus repeat with_reducible first|exact Take.nil|apply Take.c|apply Take.drop))
 rw[if_neg h1]at hR
 have hd2:(d.drop 2).length≤1000000:=by rw[List.length_drop];omega
 have hX:=fun n h=>rText_any n (d.drop 2) h hd2
 have hK:=fun n l e h hl=>rTakeG_any n l e 4 h hl
 obtain⟨T,hT⟩:∃T,txt (d.drop 2)=T:=⟨_,rfl⟩
 have htl:=fun b r (g:txt (d.drop 2)=some (b,r))=>txt_len g
 unfold txtR at hX
 rw[hT]at hR hX htl
 cases T with
 |none =>
  dsimp only at hR hX
  subst hR
  have hK2:∀n e h,e≠0→SRun Tryz.prog 69 [gptr n 0 2,I 4] (rdB n (d.drop 2) e::h) fun r q=>r=S []∧q=rdB n (d.drop 2) e::h:=fun n e h he=>by
   have:=hK n (d.drop 2) e h hd2
   rw[show tkR (d.drop 2) e 4=([],d.drop 2,e)from if_pos he]at this
   exact this
  refine zR Tryz.func67 rfl rfl ?_
  repeat'(first|apply zF|apply zB|apply zE|refine jg ?_ ?_|(apply yE zC;(iterate 4 exact rfl);exact⟨rfl⟩;exact up)|refine jy ?_|refine jq ?_ (c:=by exact⟨_,hn _,jN⟩)|(refine jc ?_ (c:=by exact⟨_,yN _ _,jN⟩);rintro _ _ ⟨n,rfl,rfl⟩)|(refine jc ?_ (c:=by exact⟨_,hX _ _,jC⟩);rintro _ _ ⟨e,he,rfl,rfl⟩)|refine jq ?_ (c:=by exact⟨_,hK2 _ _ _ he,jN⟩)|refine jq ?_ (c:=by exact⟨_,rErr_any _ _ _ _,jN⟩)|refine jw ?_|refine ji ?_|(apply yC;exact rfl;exact ‹_›)|refine jf ?_|apply zA|apply zP|apply zI|apply zN|exact jO|exact jL|exact jP|exact True.intro|intro A)
  all_goals first
   |(exfalso;omega)
   |contradiction
   |(apply zL;(exact(show ResS _ _ _ _ [_,_,_,_] from(res_cell zC rfl rfl rfl (by exact pk) (by first|rfl|exact ‹_›|omega|(simp ;first|done|omega)) (by first|rfl|exact ‹_›|omega|(simp ;first|done|omega)) ⟨rfl,⟨rfl,⟨rfl,trivial⟩⟩⟩)));exact⟨rfl,rfl⟩;(focus repeat with_reducible first|exact Take.nil|apply Take.c|apply Take.drop))
 |some T =>
  obtain⟨b,r⟩:=T
  dsimp only at hR hX
  obtain⟨hbl,hrl⟩:=htl b r rfl
  rw[List.length_drop]at hrl
  by_cases h4:r.length<4
  ·rw[if_pos h4]at hR
   subst hR
   have hK2:∀n h,SRun Tryz.prog 69 [gptr n 0 2,I 4] (rdB n r 0::h) fun r' q=>r'=S []∧q=rdB n r 12::h:=fun n h=>by
    have:=hK n r 0 h (by omega)
    rw[show tkR r 0 4=([],r,12)by unfold tkR;rw[if_neg (fun k=>k rfl),if_neg (by omega),if_pos (by omega)]]at this
    exact this
   refine zR Tryz.func67 rfl rfl ?_
   repeat'(first|apply zF|apply zB|apply zE|refine jg ?_ ?_|(apply yE zC;(iterate 4 exact rfl);exact⟨rfl⟩;exact up)|refine jy ?_|refine jq ?_ (c:=by exact⟨_,hn _,jN⟩)|(refine jc ?_ (c:=by exact⟨_,yN _ _,jN⟩);rintro _ _ ⟨n,rfl,rfl⟩)|refine jq ?_ (c:=by exact⟨_,hX _ _,jC⟩)|refine jq ?_ (c:=by exact⟨_,hK2 _ _,jN⟩)|refine jq ?_ (c:=by exact⟨_,rErr_any _ _ _ _,jN⟩)|refine jw ?_|refine ji ?_|(apply yB;exact rfl)|refine jf ?_|apply zA|apply zP|apply zI|apply zN|exact jO|exact jL|exact jP|exact True.intro|intro A)
   all_goals first
    |(exfalso;omega)
    |contradiction
    |(apply zL;(exact(show ResS _ _ _ _ [_,_,_,_] from(res_cell zC rfl rfl rfl (by exact pk) (by first|rfl|exact ‹_›|omega|(simp ;first|done|omega)) (by first|rfl|exact ‹_›|omega|(simp ;first|done|omega)) ⟨rfl,⟨rfl,⟨rfl,trivial⟩⟩⟩)));exact⟨rfl,rfl⟩;(focus repeat with_reducible first|exact Take.nil|apply Take.c|apply Take.drop))
  rw[if_neg h4]at hR
  have hK2:∀n h,SRun Tryz.prog 69 [gptr n 0 2,I 4] (rdB n r 0::h) fun r' q=>r'=S (r.take 4)∧q=rdB n (r.drop 4) 0::h:=fun n h=>by
   have:=hK n r 0 h (by omega)
   rw[show tkR r 0 4=(r.take 4,r.drop 4,0)by unfold tkR;rw[if_neg (fun k=>k rfl),if_neg (by omega),if_neg (by omega)];rfl]at this
   exact this
  have hr4:(r.drop 4).length=r.length-4:=List.length_drop ..
  have hN:((d.length:Int)-((r.drop 4).length:Int)).toNat=d.length-(r.length-4):=by omega
  have hNi:(d.length:Int)-((r.drop 4).length:Int)=((d.length-(r.length-4):Nat):Int):=by omega
  rw[←hN]at hR
  have hO:=fun h=>Open_any (d.take ((d.length:Int)-((r.drop 4).length:Int)).toNat) h (by rw[List.length_take];omega)
  generalize opn (d.take ((d.length:Int)-((r.drop 4).length:Int)).toNat)=O at *
  obtain⟨o1,o2⟩:=O
  dsimp only at hR hO
  by_cases ho:o2=0
  ·subst ho
   rw[if_neg (fun k=>k rfl)]at hR
   have hr16:(bat d 1).tmod 16=bat d 1%16:=Int.tmod_eq_emod_of_nonneg hb1.1
   unfold bdy at hR
   by_cases hs:16≤bat d 1
   ·rw[if_pos hs]at hR
    have hD:=fun h=>Decode_any' b 4096 h (by omega)
    have hle:=lzD_le (b:=b) (by omega) 4096
    obtain⟨⟨c,e⟩,hc⟩:∃V,lzD b 4096=V:=⟨_,rfl⟩
    rw[hc]at hR hD hle
    dsimp only at hR hD hle
    by_cases he:e=0
    ·subst he
     rw[if_pos rfl]at hR
     dsimp only at hR
     have hW:=fun h=>Wrap_any (bat d 1%16) c h (by omega)
     obtain⟨⟨w,e⟩,hw⟩:∃V,wrp (bat d 1%16) c=V:=⟨_,rfl⟩
     rw[hw]at hR hW
     dsimp only at hW
     by_cases hq:e=0∧w=d.take ((d.length:Int)-((r.drop 4).length:Int)).toNat
     ·obtain⟨rfl,hq⟩:=hq
      rw[if_pos (by rw[hq]),hN,decide_eq_true hs]at hR
      subst hR
      clear hw
      subst hq
      refine zR Tryz.func67 rfl rfl ?_
      repeat'(first|apply zF|apply zB|apply zE|refine jg ?_ ?_|(apply o_ar zC;exact rfl;exact rfl)|(apply o_ex;exact rfl;exact rfl)|(apply yQ zC;(iterate 3 exact rfl);exact pk)|(apply zX zC;(iterate 4 exact rfl);exact up)|(apply yE zC;(iterate 4 exact rfl);exact⟨rfl⟩;exact up)|refine jy ?_|(apply yT zC;exact rfl;exact rfl;(focus first|with_reducible exact pl38);exact rfl;(focus repeat(first|exact BuildR.nil|(apply BuildR.one;exact rfl;exact rfl;(first|(focus(repeat(first|exact SetAt.zero|apply SetAt.succ));done)))));exact rfl)|refine jq ?_ (c:=by exact⟨_,hn _,jN⟩)|(refine jc ?_ (c:=by exact⟨_,yN _ _,jN⟩);rintro _ _ ⟨n,rfl,rfl⟩)|refine jq ?_ (c:=by exact⟨_,hX _ _,jC⟩)|refine jq ?_ (c:=by exact⟨_,hK2 _ _,jN⟩)|refine jq ?_ (c:=by exact⟨_,rErr_any _ _ _ _,jN⟩)|refine jq ?_ (c:=by exact⟨_,rLeft_any _ _ _ _,jN⟩)|refine jq ?_ (c:=by exact⟨_,hO _,jN⟩)|refine jq ?_ (c:=by exact⟨_,hD _,jN⟩)|refine jq ?_ (c:=by exact⟨_,hW _,jN⟩)|refine jw ?_|refine ji ?_|(apply zS;exact rfl)|refine jd ?_|refine jf ?_|(apply w_ifN;exact rfl;all_goals intro hc)|apply zA|apply zP|apply zI|apply zN|exact jO|exact jL|exact jW|((with_reducible apply Ex.mk);first|exact Int.tmod_eq_emod_of_nonneg (by omega))|exact jZ|exact jP|exact jU|exact True.intro|intro A|exact rfl)
      all_goals first
       |(exfalso;omega)
       |contradiction
       |(apply zL;(exact(show ResS _ _ _ _ [_,_,_,_] from(res_cell zC rfl rfl rfl (by exact pk) (by first|rfl|exact ‹_›|omega|(simp ;first|done|omega)) (by first|rfl|exact ‹_›|omega|(simp ;first|done|omega)) ⟨rfl,⟨rfl,⟨rfl,trivial⟩⟩⟩)));exact⟨by rw[hNi,decide_eq_true hs];rfl,rfl⟩;(focus repeat with_reducible first|exact Take.nil|apply Take.c|apply Take.drop))
     ·rw[if_neg (fun k=>hq ⟨congrArg Prod.snd k,congrArg Prod.fst k⟩)]at hR
      subst hR
      refine zR Tryz.func67 rfl rfl ?_
      repeat'(first|apply zF|apply zB|apply zE|refine jg ?_ ?_|(apply o_ar zC;exact rfl;exact rfl)|(apply o_ex;exact rfl;exact rfl)|(apply yQ zC;(iterate 3 exact rfl);exact pk)|(apply zX zC;(iterate 4 exact rfl);exact up)|(apply yE zC;(iterate 4 exact rfl);exact⟨rfl⟩;exact up)|refine jy ?_|(apply yT zC;exact rfl;exact rfl;(focus first|with_reducible exact pl38);exact rfl;(focus repeat(first|exact BuildR.nil|(apply BuildR.one;exact rfl;exact rfl;(first|(focus(repeat(first|exact SetAt.zero|apply SetAt.succ));done)))));exact rfl)|refine jq ?_ (c:=by exact⟨_,hn _,jN⟩)|(refine jc ?_ (c:=by exact⟨_,yN _ _,jN⟩);rintro _ _ ⟨n,rfl,rfl⟩)|refine jq ?_ (c:=by exact⟨_,hX _ _,jC⟩)|refine jq ?_ (c:=by exact⟨_,hK2 _ _,jN⟩)|refine jq ?_ (c:=by exact⟨_,rErr_any _ _ _ _,jN⟩)|refine jq ?_ (c:=by exact⟨_,rLeft_any _ _ _ _,jN⟩)|refine jq ?_ (c:=by exact⟨_,hO _,jN⟩)|refine jq ?_ (c:=by exact⟨_,hD _,jN⟩)|refine jq ?_ (c:=by exact⟨_,hW _,jN⟩)|refine jw ?_|refine jk ?_|refine ji ?_|(apply o_guardFN;(iterate 3 exact rfl);all_goals intro hc)|(apply yB;exact rfl)|(apply zS;exact rfl)|refine jd ?_|refine jf ?_|(apply w_ifN;exact rfl;all_goals intro hc)|apply zA|apply zP|apply zI|apply zN|exact jO|exact jL|exact jW|((with_reducible apply Ex.mk);first|exact Int.tmod_eq_emod_of_nonneg (by omega))|exact jZ|exact jP|exact jU|exact True.intro|intro A|exact rfl)
      all_goals first
       |(exfalso;omega)
       |contradiction
       |(exfalso;exact hq ⟨by assumption,by assumption⟩)
       |(apply zL;(exact(show ResS _ _ _ _ [_,_,_,_] from(res_cell zC rfl rfl rfl (by exact pk) (by first|rfl|exact ‹_›|omega|(simp ;first|done|omega)) (by first|rfl|exact ‹_›|omega|(simp ;first|done|omega)) ⟨rfl,⟨rfl,⟨rfl,trivial⟩⟩⟩)));exact⟨rfl,rfl⟩;(focus repeat with_reducible first|exact Take.nil|apply Take.c|apply Take.drop))
    ·rw[if_neg he]at hR
     dsimp only at hR
     subst hR
     refine zR Tryz.func67 rfl rfl ?_
     repeat'(first|apply zF|apply zB|apply zE|refine jg ?_ ?_|(apply o_ar zC;exact rfl;exact rfl)|(apply o_ex;exact rfl;exact rfl)|(apply yE zC;(iterate 4 exact rfl);exact⟨rfl⟩;exact up)|refine jy ?_|(apply yT zC;exact rfl;exact rfl;(focus first|with_reducible exact pl38);exact rfl;(focus repeat(first|exact BuildR.nil|(apply BuildR.one;exact rfl;exact rfl;(first|(focus(repeat(first|exact SetAt.zero|apply SetAt.succ));done)))));exact rfl)|refine jq ?_ (c:=by exact⟨_,hn _,jN⟩)|(refine jc ?_ (c:=by exact⟨_,yN _ _,jN⟩);rintro _ _ ⟨n,rfl,rfl⟩)|refine jq ?_ (c:=by exact⟨_,hX _ _,jC⟩)|refine jq ?_ (c:=by exact⟨_,hK2 _ _,jN⟩)|refine jq ?_ (c:=by exact⟨_,rErr_any _ _ _ _,jN⟩)|refine jq ?_ (c:=by exact⟨_,rLeft_any _ _ _ _,jN⟩)|refine jq ?_ (c:=by exact⟨_,hO _,jN⟩)|refine jq ?_ (c:=by exact⟨_,hD _,jN⟩)|refine jw ?_|refine ji ?_|(apply zS;exact rfl)|refine jd ?_|refine jf ?_|apply zA|apply zP|apply zI|apply zN|exact jO|exact jL|exact jW|((with_reducible apply Ex.mk);first|exact Int.tmod_eq_emod_of_nonneg (by omega))|exact jP|exact True.intro|intro A)
     all_goals first
      |(exfalso;omega)
      |contradiction
      |(apply zL;(exact(show ResS _ _ _ _ [_,_,_,_] from(res_cell zC rfl rfl rfl (by exact pk) (by first|rfl|exact ‹_›|omega|(simp ;first|done|omega)) (by first|rfl|exact ‹_›|omega|(simp ;first|done|omega)) ⟨rfl,⟨rfl,⟨rfl,trivial⟩⟩⟩)));exact⟨rfl,rfl⟩;(focus repeat with_reducible first|exact Take.nil|apply Take.c|apply Take.drop))
   ·rw[if_neg hs]at hR
    dsimp only at hR
    have hW:=fun h=>Wrap_any (bat d 1%16) b h (by omega)
    obtain⟨⟨w,e⟩,hw⟩:∃V,wrp (bat d 1%16) b=V:=⟨_,rfl⟩
    rw[hw]at hR hW
    dsimp only at hW
    by_cases hq:e=0∧w=d.take ((d.length:Int)-((r.drop 4).length:Int)).toNat
    ·obtain⟨rfl,hq⟩:=hq
     rw[if_pos (by rw[hq]),hN,decide_eq_false hs]at hR
     subst hR
     clear hw
     subst hq
     refine zR Tryz.func67 rfl rfl ?_
     repeat'(first|apply zF|apply zB|apply zE|refine jg ?_ ?_|(apply o_ar zC;exact rfl;exact rfl)|(apply o_ex;exact rfl;exact rfl)|(apply yQ zC;(iterate 3 exact rfl);exact pk)|(apply yE zC;(iterate 4 exact rfl);exact⟨rfl⟩;exact up)|refine jy ?_|(apply yT zC;exact rfl;exact rfl;(focus first|with_reducible exact pl38);exact rfl;(focus repeat(first|exact BuildR.nil|(apply BuildR.one;exact rfl;exact rfl;(first|(focus(repeat(first|exact SetAt.zero|apply SetAt.succ));done)))));exact rfl)|refine jq ?_ (c:=by exact⟨_,hn _,jN⟩)|(refine jc ?_ (c:=by exact⟨_,yN _ _,jN⟩);rintro _ _ ⟨n,rfl,rfl⟩)|refine jq ?_ (c:=by exact⟨_,hX _ _,jC⟩)|refine jq ?_ (c:=by exact⟨_,hK2 _ _,jN⟩)|refine jq ?_ (c:=by exact⟨_,rErr_any _ _ _ _,jN⟩)|refine jq ?_ (c:=by exact⟨_,rLeft_any _ _ _ _,jN⟩)|refine jq ?_ (c:=by exact⟨_,hO _,jN⟩)|refine jq ?_ (c:=by exact⟨_,hW _,jN⟩)|refine jw ?_|refine ji ?_|(apply zS;exact rfl)|refine jf ?_|(apply w_ifN;exact rfl;all_goals intro hc)|apply zA|apply zP|apply zI|apply zN|exact jO|exact jL|exact jW|((with_reducible apply Ex.mk);first|exact Int.tmod_eq_emod_of_nonneg (by omega))|exact jP|exact jU|exact True.intro|intro A|exact rfl)
     all_goals first
      |(exfalso;omega)
      |contradiction
      |(apply zL;(exact(show ResS _ _ _ _ [_,_,_,_] from(res_cell zC rfl rfl rfl (by exact pk) (by first|rfl|exact ‹_›|omega|(simp ;first|done|omega)) (by first|rfl|exact ‹_›|omega|(simp ;first|done|omega)) ⟨rfl,⟨rfl,⟨rfl,trivial⟩⟩⟩)));exact⟨by rw[hNi,decide_eq_false hs];rfl,rfl⟩;(focus repeat with_reducible first|exact Take.nil|apply Take.c|apply Take.drop))
    ·rw[if_neg (fun k=>hq ⟨congrArg Prod.snd k,congrArg Prod.fst k⟩)]at hR
     subst hR
     refine zR Tryz.func67 rfl rfl ?_
     repeat'(first|apply zF|apply zB|apply zE|refine jg ?_ ?_|(apply o_ar zC;exact rfl;exact rfl)|(apply o_ex;exact rfl;exact rfl)|(apply yQ zC;(iterate 3 exact rfl);exact pk)|(apply yE zC;(iterate 4 exact rfl);exact⟨rfl⟩;exact up)|refine jy ?_|(apply yT zC;exact rfl;exact rfl;(focus first|with_reducible exact pl38);exact rfl;(focus repeat(first|exact BuildR.nil|(apply BuildR.one;exact rfl;exact rfl;(first|(focus(repeat(first|exact SetAt.zero|apply SetAt.succ));done)))));exact rfl)|refine jq ?_ (c:=by exact⟨_,hn _,jN⟩)|(refine jc ?_ (c:=by exact⟨_,yN _ _,jN⟩);rintro _ _ ⟨n,rfl,rfl⟩)|refine jq ?_ (c:=by exact⟨_,hX _ _,jC⟩)|refine jq ?_ (c:=by exact⟨_,hK2 _ _,jN⟩)|refine jq ?_ (c:=by exact⟨_,rErr_any _ _ _ _,jN⟩)|refine jq ?_ (c:=by exact⟨_,rLeft_any _ _ _ _,jN⟩)|refine jq ?_ (c:=by exact⟨_,hO _,jN⟩)|refine jq ?_ (c:=by exact⟨_,hW _,jN⟩)|refine jw ?_|refine jk ?_|refine ji ?_|(apply o_guardFN;(iterate 3 exact rfl);all_goals intro hc)|(apply yB;exact rfl)|(apply zS;exact rfl)|refine jf ?_|(apply w_ifN;exact rfl;all_goals intro hc)|apply zA|apply zP|apply zI|apply zN|exact jO|exact jL|exact jW|((with_reducible apply Ex.mk);first|exact Int.tmod_eq_emod_of_nonneg (by omega))|exact jP|exact jU|exact True.intro|intro A|exact rfl)
     all_goals first
      |(exfalso;omega)
      |contradiction
      |(exfalso;exact hq ⟨by assumption,by assumption⟩)
      |(apply zL;(exact(show ResS _ _ _ _ [_,_,_,_] from(res_cell zC rfl rfl rfl (by exact pk) (by first|rfl|exact ‹_›|omega|(simp ;first|done|omega)) (by first|rfl|exact ‹_›|omega|(simp ;first|done|omega)) ⟨rfl,⟨rfl,⟨rfl,trivial⟩⟩⟩)));exact⟨rfl,rfl⟩;(focus repeat with_reducible first|exact Take.nil|apply Take.c|apply Take.drop))
  ·rw[if_pos ho]at hR
   subst hR
   refine zR Tryz.func67 rfl rfl ?_
   repeat'(first|apply zF|apply zB|apply zE|refine jg ?_ ?_|(apply o_ar zC;exact rfl;exact rfl)|(apply yE zC;(iterate 4 exact rfl);exact⟨rfl⟩;exact up)|refine jy ?_|refine jq ?_ (c:=by exact⟨_,hn _,jN⟩)|(refine jc ?_ (c:=by exact⟨_,yN _ _,jN⟩);rintro _ _ ⟨n,rfl,rfl⟩)|refine jq ?_ (c:=by exact⟨_,hX _ _,jC⟩)|refine jq ?_ (c:=by exact⟨_,hK2 _ _,jN⟩)|refine jq ?_ (c:=by exact⟨_,rErr_any _ _ _ _,jN⟩)|refine jq ?_ (c:=by exact⟨_,rLeft_any _ _ _ _,jN⟩)|refine jq ?_ (c:=by exact⟨_,hO _,jN⟩)|refine jw ?_|refine ji ?_|(apply zS;exact rfl)|refine jd ?_|refine jf ?_|apply zA|apply zP|apply zI|apply zN|exact jO|exact jL|exact jW|exact jP|exact True.intro|intro A)
   all_goals first
    |(exfalso;omega)
    |contradiction
    |(apply zL;(exact(show ResS _ _ _ _ [_,_,_,_] from(res_cell zC rfl rfl rfl (by exact pk) (by first|rfl|exact ‹_›|omega|(simp ;first|done|omega)) (by first|rfl|exact ‹_›|omega|(simp ;first|done|omega)) ⟨rfl,⟨rfl,⟨rfl,trivial⟩⟩⟩)));exact⟨rfl,rfl⟩;(focus repeat with_reducible first|exact Take.nil|apply Take.c|apply Take.drop))
def unwV :Option (Int × List UInt8 × Nat × Bool)→Value
 |none=>.tuple ⟨[frV 0 [],I 0,I 12]⟩
 |some (k,c,n,_)=>.tuple ⟨[frV k c,I n,I 0]⟩
theorem Unwrap_any (d:List UInt8)(h:SH)(hl:d.length≤1000000):SRun Tryz.prog 33 [S d] h fun r q=>r=unwV (prs d)∧q=h:=by
 have hP:=fun h=>parse_any d h hl
 cases hp:prs d with
 |none =>
  rw[hp]at hP
  refine zR Tryz.func33 rfl rfl ?_
  repeat'(first|apply zF|apply zB|apply zE|refine jg ?_ ?_|(apply yR;exact rfl;exact rfl)|(apply yE zC;(iterate 4 exact rfl);exact⟨rfl⟩;exact up)|refine jy ?_|(apply yT zC;exact rfl;exact rfl;(focus first|with_reducible exact pl38);exact rfl;(focus repeat(first|exact BuildR.nil));exact rfl)|refine jq ?_ (c:=by exact⟨_,hP _,jN⟩)|(apply yB;exact rfl)|apply zA|apply zP|apply zN|exact jS|exact jL|exact jP|exact True.intro|intro A)
  all_goals first
   |contradiction
   |(apply zL;(exact(show ResS _ _ _ _ [_,_,_] from(res_cell zC rfl rfl rfl (by exact pk) (by first|rfl|exact ‹_›|omega|(simp ;first|done|omega)) (by first|rfl|exact ‹_›|omega|(simp ;first|done|omega)) ⟨rfl,⟨rfl,trivial⟩⟩)));exact⟨rfl,rfl⟩;(focus repeat with_reducible first|exact Take.nil|apply Take.c|apply Take.drop))
 |some V =>
  obtain⟨k,c,n,s⟩:=V
  rw[hp]at hP
  refine zR Tryz.func33 rfl rfl ?_
  repeat'(first|apply zF|apply zB|apply zE|refine jg ?_ ?_|(apply yR;exact rfl;exact rfl)|(apply yQ zC;(iterate 3 exact rfl);exact pk)|(apply yE zC;(iterate 4 exact rfl);exact⟨rfl⟩;exact up)|refine jy ?_|refine jq ?_ (c:=by exact⟨_,hP _,jN⟩)|(apply zS;exact rfl)|apply zA|apply zI|apply zN|exact jS|exact jL|exact jP|exact jU|exact True.intro|intro A|exact rfl)
  all_goals first
   |contradiction
   |(apply zL;(exact(show ResS _ _ _ _ [_,_,_] from(res_cell zC rfl rfl rfl (by exact pk) (by first|rfl|exact ‹_›|omega|(simp ;first|done|omega)) (by first|rfl|exact ‹_›|omega|(simp ;first|done|omega)) ⟨rfl,⟨rfl,trivial⟩⟩)));exact⟨rfl,rfl⟩;(focus repeat with_reducible first|exact Take.nil|apply Take.c|apply Take.drop))
end Go.Proofs.YteddogfolceahaaGreatDoor
end
section
set_option maxRecDepth 4000
namespace Go.Gh
open Go.RowKit

theorem rel_row {B0:Nat}{w0:World}{φ:Nat→Go.Gh.Loc}{H:Heap}{w w':World}(r:Rel B0 w0 φ H w)(hbw:Below w.heap.size w w'){g0:Blk}{l0:Go.Gh.Loc}{A0:Nat}{H':Heap}
  (hpl:Place H A0 H' g0) (hlb:w.heap.size≤l0.b) (hl0:l0.base=0)
  (hbr:Ext φ (lens H) (upd φ A0 l0) (lens H')→BRel (upd φ A0 l0) (lens H') g0 l0 w') :
  Ext φ (lens H) (upd φ A0 l0) (lens H')∧Rel B0 w0 (upd φ A0 l0) H' w':=by
 have hne:∀{A n},lens H A=some n→A≠A0:=by
  intro A n hA e
  subst e
  obtain⟨g,h,_⟩:=lens_live hA
  exact hpl.free g h
 have hext:Ext φ (lens H) (upd φ A0 l0) (lens H'):=by
  intro A n hA
  have h:=hne hA
  exact⟨n,by rw[hpl.lens_ne h];exact hA,.inl ⟨rfl,upd_ne h⟩⟩
 have hb:w0.heap.size≤w.heap.size:=r.below.size
 have r2:=r.later hbw
 refine⟨hext,⟨r2.below,r.b0,?_,?_,?_,r.gw⟩⟩
 ·intro A g hA
  by_cases e:A=A0
  ·subst e
   rw[hpl.at_]at hA
   simp only[Option.some.injEq]at hA
   subst hA
   rw[yK]
   exact hbr hext
  ·rw[hpl.ne A e]at hA
   obtain⟨o1,c1,h1,h2,h3,h5⟩:=(r2.blk A g hA).any
   rw[upd_ne e]
   refine⟨o1,c1,h1,h2,h3,fun i v hi=>?_⟩
   obtain⟨v',g1,g2⟩:=h5 i v hi
   exact⟨v',g1,g2.mono hext⟩
 ·intro A g hA hro
  by_cases e:A=A0
  ·subst e
   rw[yK]
   exact⟨by have:=r.b0;omega,hl0⟩
  ·rw[hpl.ne A e]at hA
   rw[upd_ne e]
   exact r.own A g hA hro
 ·intro A A' g g' hA hro hA' he
  by_cases e1:A=A0
  ·subst e1
   by_cases e2:A'=A
   ·exact e2
   ·rw[hpl.ne A' e2]at hA'
    rw[yK,upd_ne e2]at he
    have:=r.lt hA'
    omega
  ·rw[hpl.ne A e1]at hA
   by_cases e2:A'=A0
   ·subst e2
    rw[yK,upd_ne e1]at he
    have:=r.lt hA
    omega
   ·rw[hpl.ne A' e2]at hA'
    rw[upd_ne e1,upd_ne e2]at he
    exact r.inj A A' g g' hA hro hA' he
end Go.Gh
end
section
set_option maxRecDepth 4000
namespace Go.Proofs.YteddogfolceahaaGreatDoor
open Go.Gh Go.RowKit

theorem wrp_len {k:Int}{c:List UInt8}(h:(wrp k c).2=0):(0≤k∧k≤15)∧c.length≤4096∧7≤(wrp k c).1.length∧(wrp k c).1.length≤4120:=by
 unfold wrp at h ⊢
 split at h
 ·exact absurd h (by decide)
 ·split at h
  ·exact absurd h (by decide)
  ·rename_i h1 h2
   rw[if_neg h1,if_neg h2]
   have hf:∀(k:Int) (b:List UInt8),b.length≤4096→7≤(sl (frm k b)).length∧(sl (frm k b)).length≤4120:=fun k b hb=>by
    have hs1:=vnum_len (n:=(b.length:Int)) (by omega)
    have hs2:=(vk_ok (n:=(b.length:Int)) (by omega)).2
    unfold sl frm
    rw[List.length_append,List.length_append,List.length_append,le4_len,hd2_len]
    omega
   refine⟨by omega,by omega,?_⟩
   show 7≤(if(lzE c).1.length<c.length then sl (frm (k+16) (lzE c).1)else sl (frm k c)).length∧(if(lzE c).1.length<c.length then sl (frm (k+16) (lzE c).1)else sl (frm k c)).length≤4120
   split
   ·exact hf _ _ (by omega)
   ·exact hf _ _ (by omega)
theorem prs_ok {d:List UInt8}{k:Int}{c:List UInt8}{n:Nat}{s:Bool}(h:prs d=some (k,c,n,s)):wrp k c=(d.take n,0)∧n≤d.length∧7≤n∧bat d 0=165∧s=decide (16≤bat d 1):=by
 unfold prs at h
 split at h
 ·cases h
 ·rename_i h1
  split at h
  ·cases h
  ·rename_i b r hx
   split at h
   ·cases h
   ·split at h
    ·cases h
    ·split at h
     ·cases h
     ·rename_i h2 h3 _ c' hb
      split at h
      ·rename_i hw
       cases h
       have hl:=wrp_len (k:=bat d 1%16) (c:=c) (by rw[hw])
       rw[hw]at hl
       dsimp only at hl
       rw[List.length_take]at hl
       exact⟨hw,by omega,by omega,by omega,rfl⟩
      ·cases h

def qn (q:Nat):Nat:=q+(2048-q)/32
def lnC :Nat:=4294967295^64
def Paid (e:Enc)(G:Nat):Prop:=(256^e.out.length)^64*lnC≤e.size.toNat^64*2^G
theorem Paid.mono {e:Enc}{G H:Nat}(h:Paid e G)(g:G≤H):Paid e H :=
 Nat.le_trans h (Nat.mul_le_mul_left _ (Nat.pow_le_pow_right (by decide) g))

def PathQ (t:List Int)(v:Int)(q:Nat):Nat→Nat→Prop
 |0,_=>True
 |k+1,j=>j<t.length∧t[j]! = (if v/2^k%2=0 then(q:Int)else 2048-q)∧PathQ t v q k (2*j+(v/2^k%2).toNat)
theorem set_far {t:List Int}{j i:Nat}{x:Int}(h:j≠i):(t.set j x)[i]! = t[i]!:=by
 rw[List.getElem!_eq_getElem?_getD,List.getElem!_eq_getElem?_getD,List.getElem?_set_ne h]
theorem set_here {t:List Int}{j:Nat}{x:Int}(h:j<t.length):(t.set j x)[j]! = x:=by
 rw[List.getElem!_eq_getElem?_getD,List.getElem?_set_self h];rfl
theorem PathQ.set {t:List Int}{v:Int}{q i:Nat}{x:Int}:∀(k j:Nat),i<j→PathQ t v q k j→PathQ (t.set i x) v q k j
 |0,_,_,_=>trivial
 |k+1,j,hij,h=>⟨by rw[List.length_set];exact h.1,by rw[set_far (by omega)];exact h.2.1,PathQ.set k _ (by omega) h.2.2⟩
theorem tenc_low {v:Int}:∀(k:Nat) {t:List Int} {e:Enc} {j i:Nat},i<j→(tenc v k t e j).1[i]! = t[i]!
 |0,_,_,_,_,_=>rfl
 |k+1,t,e,j,i,h=>by
  have:=tenc_low (v:=v) k (t:=t.set j (adp t[j]! (v/2^k%2))) (e:=ebit e t[j]! (v/2^k%2)) (j:=2*j+(v/2^k%2).toNat) (i:=i) (by omega)
  exact this.trans (set_far (by omega))
theorem tenc_len2 {v:Int}:∀(k:Nat) {t:List Int} {e:Enc} {j:Nat},(tenc v k t e j).1.length=t.length
 |0,_,_,_=>rfl
 |k+1,t,e,j=>(tenc_len2 k (t:=t.set j (adp t[j]! (v/2^k%2)))).trans List.length_set
theorem adp_q {q:Nat}(h:1≤q∧q≤2047)(b:Int)(hb:b=0∨b=1):adp (if b=0 then(q:Int)else 2048-q) b=if b=0 then(qn q:Int)else 2048-qn q:=by
 unfold adp qn
 rcases hb with rfl|rfl
 ·rw[if_pos rfl,if_pos rfl,if_pos rfl]
  have:clp (q:Int)=q:=by unfold clp;omega
  rw[this];omega
 ·rw[if_neg (by decide),if_neg (by decide),if_neg (by decide)]
  have:clp (2048-(q:Int))=2048-q:=by unfold clp;omega
  rw[this];omega
theorem PathQ.next {v:Int}{q:Nat}(hq:1≤q∧q≤2047):∀(k:Nat) {t:List Int} {e:Enc} {j:Nat},1≤j→PathQ t v q k j→PathQ (tenc v k t e j).1 v (qn q) k j
 |0,_,_,_,_,_=>trivial
 |k+1,t,e,j,hj,h=>by
  obtain⟨h1,h2,h3⟩:=h
  have hb:=bit01 v k
  show PathQ (tenc v k (t.set j (adp t[j]! (v/2^k%2))) (ebit e t[j]! (v/2^k%2)) (2*j+(v/2^k%2).toNat)).1 v (qn q) (k+1) j
  refine⟨by rw[tenc_len2,List.length_set];exact h1,?_,?_⟩
  ·rw[tenc_low k (by omega),set_here h1,h2]
   exact adp_q hq _ hb
  ·exact PathQ.next hq k (by omega) (PathQ.set k _ (by omega) h3)

def InT (lo:Nat)(t:List Int):Prop:=∀i,i<t.length→(lo:Int)≤t[i]!∧t[i]!≤2048-lo
theorem InT.le {lo lo':Nat}{t:List Int}(h:InT lo t)(hl:lo'≤lo):InT lo' t:=fun i hi=>by have:=h i hi;omega

abbrev Fr1 :Type:=Int × List UInt8
abbrev frC (x:Fr1):List Value:=[I x.1,S x.2]
def encF :List Fr1→List UInt8→List UInt8 × Int
 |[],o=>(o,0)
 |x::r,o=>if(wrp x.1 x.2).2≠0 then([],(wrp x.1 x.2).2)else encF r (o++(wrp x.1 x.2).1)
def decF :Nat→List UInt8→List Fr1→Option (List Fr1)
 |0,_,o=>some o
 |f+1,d,o=>if d=[] then some o else match prs d with
  |none=>none
  |some (k,c,n,_)=>decF f (d.drop n) (o++[(k,c)])
theorem wrp_1 (k:Int)(c:List UInt8):(wrp k c).1.length≤4120:=by
 by_cases h:(wrp k c).2=0
 ·exact(wrp_len h).2.2.2
 ·unfold wrp at h ⊢
  split
  ·exact Nat.zero_le _
  ·split
   ·exact Nat.zero_le _
   ·rename_i h1 h2
    rw[if_neg h1,if_neg h2]at h
    exact absurd rfl h
theorem drop_bangF {α:Type}[Inhabited α]{l:List α}{i:Nat}(h:i<l.length):l.drop i=l[i]!::l.drop (i+1):=by
 rw[getElem!_pos l i h];exact List.drop_eq_getElem_cons h
theorem frC_len (l:List Fr1):(recs frC l).length=2*l.length:=by
 induction l with
 |nil=>rfl
 |cons x r ih=>show(frC x++recs frC r).length=2*(r.length+1);rw[List.length_append,ih];show 2+_=_;omega
theorem EncodeF_any (l:List Fr1)(v:Value)(h:SH)(hv:Has h (recs frC l) 2 l.length v)(hl:l.length≤1000)(hc:∀x∈l,x.2.length≤9223372036854775807) :
  SRun Tryz.prog 13 [v] h fun r q=>r=.tuple #[S (encF l []).1,I (encF l []).2]∧q=h:=by
 obtain⟨ad,fl,rfl,hh⟩:=hv
 have hlb:=frC_len l
 obtain⟨R,hR⟩:∃R,encF l []=R:=⟨_,rfl⟩
 rw[hR]
 refine zR Tryz.func13 rfl rfl ?_
 repeat'(first|apply zF|apply zB|apply zE|refine jg ?_ ?_|apply zA|apply zH|exact jS|fail)
 refine zZ (S:=Nat × List UInt8) (fun s=>[(4,S s.2),(9,.slice ad l.length fl),(10,I l.length),(11,I s.1)]) (fun _=>h) (fun s=>s.1≤l.length∧s.2.length≤4120*s.1∧encF (l.drop s.1) s.2=R) (fun s=>l.length-s.1)
  (0,[]) ⟨Nat.zero_le _,Nat.zero_le _,hR⟩ jB jK ?_
 rintro⟨i,o⟩ ⟨hi,ho,he⟩
 dsimp only at hi ho he ⊢
 by_cases hil:i<l.length
 ·obtain⟨A',ro,h1,rfl,hp⟩:=hh (by omega)
  have hx:=hc _ (bang_mem hil)
  rw[drop_bangF hil]at he
  generalize hz:l[i]! = z at he hx
  have hW:=fun h=>Wrap_any l[i]!.1 l[i]!.2 h (by rw[hz];exact hx)
  rw[hz]at hW
  have hwl:=wrp_1 z.1 z.2
  have he:(if(wrp z.1 z.2).2≠0 then([],(wrp z.1 z.2).2)else encF (l.drop (i+1)) (o++(wrp z.1 z.2).1))=R:=he
  generalize wrp z.1 z.2=T at *
  obtain⟨t,e⟩:=T
  dsimp only at he hW hwl
  have hW:∀h,SRun Tryz.prog 32 [.agg ⟨frC l[i]!⟩] h fun r q=>r=.tuple #[S t,I e]∧q=h:=fun h=>by rw[hz];exact hW h
  by_cases h0:e=0
  ·subst h0
   rw[if_neg (fun k=>k rfl)]at he
   repeat'(first|apply zF|apply zB|apply zE|refine jg ?_ ?_|(apply o_ar zC;exact rfl;exact rfl)|(apply yQ zC;(iterate 3 exact rfl);exact pk)|(apply yE zC;(iterate 4 exact rfl);exact⟨rfl⟩;exact up)|refine jy ?_|refine jq ?_ (c:=by exact⟨_,hW _,jN⟩)|(apply zS;exact rfl)|refine jd ?_|apply zA|apply zG|apply zI|apply zH|exact jO|((with_reducible apply Ln.mk);first|rfl|omega)|exact jW|exact jP|((with_reducible apply Su.mk);first|exact zQ|exact subAt_recZ (fun _=>rfl) (by omega))|exact True.intro|intro A|exact rfl)
   all_goals first
    |(exfalso;omega)
    |contradiction
    |exact⟨(i+1,o++t),⟨hil,by show(o++t).length≤_;rw[List.length_append];omega,he⟩,by show l.length-(i+1)<l.length-i;omega,jB,jK⟩
  ·rw[if_pos h0]at he
   subst he
   repeat'(first|apply zF|apply zB|apply zE|refine jg ?_ ?_|(apply yQ zC;(iterate 3 exact rfl);exact pk)|(apply yE zC;(iterate 4 exact rfl);exact⟨rfl⟩;exact up)|refine jy ?_|refine jq ?_ (c:=by exact⟨_,hW _,jN⟩)|refine jd ?_|apply zA|apply zP|apply yP|apply zI|apply zN|apply zH|exact jO|((with_reducible apply Ln.mk);first|rfl|omega)|exact jP|((with_reducible apply Su.mk);first|exact zQ|exact subAt_recZ (fun _=>rfl) (by omega))|exact True.intro|intro A|exact rfl)
   all_goals first
    |(exfalso;omega)
    |contradiction
    |exact jG
 ·obtain rfl:i=l.length:=by omega
  rw[List.drop_length]at he
  have he:(o,0)=R:=he
  subst he
  repeat'(first|apply zF|apply zB|apply zE|refine jg ?_ ?_|refine jf ?_|apply zA|apply zK|apply zJ|apply zN|apply zV|exact jS|fail)
  all_goals first
   |(exfalso;omega)
   |exact jG
inductive FrO (h:SH):List Fr1→Value→SH→Prop
 |nil:FrO h [] (.slice none 0 0) h
 |some (A:Nat) (l:List Fr1):FrO h l (gsl A 0 (2*l.length) l.length 2) ((A,⟨recs frC l,false⟩)::h)
theorem FrO.has {h q:SH}{l:List Fr1}{v:Value}(g:FrO h l v q):Has q (recs frC l) 2 l.length v∧Take q h:=by
 cases g with
 |nil=>exact⟨⟨none,0,rfl,fun k=>absurd rfl k⟩,.nil⟩
 |some A l=>exact⟨⟨_,_,rfl,fun _=>⟨A,false,h,rfl,.head⟩⟩,.drop .nil⟩
theorem DecodeF_any (d:List UInt8)(h:SH)(hl:d.length≤1000000):SRun Tryz.prog 14 [S d] h fun r q =>
  match decF d.length d []with
  |none=>r=.tuple #[.slice none 0 0,I 12]∧q=h
  |some l=>∃v,r=.tuple #[v,I 0]∧Has q (recs frC l) 2 l.length v∧Take q h:=by
 obtain⟨R,hR⟩:∃R,decF d.length d []=R:=⟨_,rfl⟩
 rw[hR]
 refine zR Tryz.func14 rfl rfl ?_
 repeat'(first|apply zF|apply zB|apply zE|refine jg ?_ ?_|apply zA|apply zH|exact jS|fail)
 refine zZ (S:=Nat × List UInt8 × List Fr1 × Value × SH) (fun s=>[(0,S s.2.1),(4,s.2.2.2.1)]) (fun s=>s.2.2.2.2) (fun s=>s.2.1.length≤s.1∧s.2.1.length≤1000000∧s.2.2.1.length+s.2.1.length≤1000000∧FrO h s.2.2.1 s.2.2.2.1 s.2.2.2.2∧decF s.1 s.2.1 s.2.2.1=R) (fun s=>s.1)
  (d.length,d,[],.slice none 0 0,h) ⟨Nat.le_refl _,hl,by show 0+d.length≤_;omega,.nil,hR⟩ jB jK ?_
 rintro⟨f,d,l,v,q⟩ ⟨hf,hd,hs,hg,he⟩
 dsimp only at hf hd hs hg he ⊢
 by_cases h0:d=[]
 ·subst h0
  have he:some l=R:=by
   cases f with
   |zero=>exact he
   |succ f=>exact he
  subst he
  repeat'(first|apply zF|apply zB|apply zE|refine jg ?_ ?_|(apply zS;exact rfl)|apply zA|apply zK|apply zJ|apply zN|apply zV|exact jS|fail)
  all_goals first
   |contradiction
   |exact jF (k:=by exact⟨v,rfl,hg.has⟩)
 ·obtain⟨f,rfl⟩:∃f',f=f'+1:=⟨f-1,by have:=List.length_pos_iff.2 h0;omega⟩
  have hU:=fun h=>Unwrap_any d h hd
  have he:(match prs d with
   |none=>none
   |some (k,c,n,_)=>decF f (d.drop n) (l++[(k,c)]))=R:=by
   rw[←he]
   exact(if_neg h0).symm
  cases hp:prs d with
  |none =>
   rw[hp]at hU he
   dsimp only at he
   subst he
   have hU:∀h,SRun Tryz.prog 33 [S d] h fun r q=>r=.tuple ⟨[frV 0 [],I 0,I 12]⟩∧q=h:=hU
   repeat'(first|apply zF|apply zB|apply zE|refine jg ?_ ?_|(apply yE zC;(iterate 4 exact rfl);exact⟨rfl⟩;exact up)|refine jy ?_|(refine jc ?_ (c:=by exact⟨_,hU _,jN⟩);rintro _ _ ⟨rfl,rfl⟩)|(apply yB;exact rfl)|refine jd ?_|apply zA|apply zP|apply yP|apply zI|apply zN|apply zH|exact jS|exact jL|exact jP|exact True.intro|intro A)
   all_goals first
    |contradiction
    |(apply zL;(exact(show ResS _ _ _ _ [_,_] from⟨rfl,⟨rfl,trivial⟩⟩));exact⟨rfl,rfl⟩;(focus repeat with_reducible first|exact Take.nil|apply Take.c|apply Take.drop))
   all_goals exact hg.has.2
  |some V =>
   obtain⟨k,c,n,s⟩:=V
   obtain⟨_,p1,p2,_⟩:=prs_ok hp
   rw[hp]at hU he
   dsimp only at he
   have hU:∀h,SRun Tryz.prog 33 [S d] h fun r q=>r=.tuple ⟨[frV k c,I n,I 0]⟩∧q=h:=hU
   have hdl:(d.drop n).length=d.length-n:=List.length_drop
   cases hg with
   |nil =>
    repeat'(first|apply zF|apply zB|apply zE|refine jg ?_ ?_|(apply yQ zC;(iterate 3 exact rfl);exact pk)|(apply yE zC;(iterate 4 exact rfl);exact⟨rfl⟩;exact up)|refine jy ?_|(apply zT zC;(iterate 5 exact rfl);decide;exact rfl;decide;(focus repeat(first|exact CatR.last rfl));exact rfl)|(apply o_append_nil zC;(iterate 5 exact rfl);exact⟨by decide⟩;exact pk)|(refine jc ?_ (c:=by exact⟨_,hU _,jN⟩);rintro _ _ ⟨rfl,rfl⟩)|(apply zS;exact rfl)|refine jd ?_|apply zA|apply zG|apply zI|apply zH|exact jV|exact jL|exact jP|exact jU|exact True.intro|intro A|exact rfl)
    all_goals first
     |exact jX
     |skip
    rename_i q0 a1 a2
    exact⟨(f,d.drop n,[(k,c)],gsl A 0 2 1 2,(A,⟨recs frC [(k,c)],false⟩)::q0),⟨by show(d.drop n).length≤f;omega,by show(d.drop n).length≤_;omega,by show 1+(d.drop n).length≤_;omega,.some A [(k,c)],he⟩,by show f<f+1;omega,jB,(by repeat(first|with_reducible exact Take.nil|with_reducible apply Take.c|((with_reducible apply Take.cE);first|exact rfl|(apply blkE;(focus first|exact rfl|exact yI rfl|exact yO rfl|exact congrArg (fun v=>[v]) (gslE rfl rfl (by first|rfl|exact ‹_›|omega|(simp ;first|done|omega)) (by first|rfl|exact ‹_›|omega|(simp ;first|done|omega)) rfl))))|with_reducible apply Take.drop))⟩
   |some A0 l =>
    have hlb:=frC_len l
    repeat'(first|apply zF|apply zB|apply zE|refine jg ?_ ?_|(apply yQ zC;(iterate 3 exact rfl);exact pk)|(apply yE zC;(iterate 4 exact rfl);exact⟨rfl⟩;exact up)|refine jy ?_|(apply zT zC;(iterate 5 exact rfl);decide;exact rfl;decide;(focus repeat(first|exact CatR.last rfl));exact rfl)|(apply o_append zC;(iterate 5 exact rfl);exact⟨by decide⟩;exact up;exact pk)|(refine jc ?_ (c:=by exact⟨_,hU _,jN⟩);rintro _ _ ⟨rfl,rfl⟩)|(apply zS;exact rfl)|refine jd ?_|apply zA|apply zG|apply zI|apply zH|exact jV|((with_reducible apply Ln.mk);first|rfl|omega)|exact jP|exact jU|exact True.intro|intro A|exact rfl)
    all_goals first
     |exact jX
     |skip
    exact⟨(f,d.drop n,l++[(k,c)],gsl A0 0 (2*(l++[(k,c)]).length) (l++[(k,c)]).length 2,(A0,⟨recs frC (l++[(k,c)]),false⟩)::h),⟨by show(d.drop n).length≤f;omega,by show(d.drop n).length≤_;omega,by show(l++[(k,c)]).length+(d.drop n).length≤_;rw[List.length_append,List.length_singleton];omega,.some A0 (l++[(k,c)]),he⟩,by show f<f+1;omega,
     ⟨rfl,congrArg some (gslE rfl rfl (by simp;omega) (by simp) rfl),trivial⟩,.consE (by repeat(first|exact .head|apply Pick.tail)) (blkE (yI rfl)) (by repeat(first|exact Take.nil|apply Take.drop))⟩

abbrev Lt :List Int:=[0,5,10,15,21]
abbrev Lb :List (List UInt8):=[[48,48],[48,49],[49,48],[49,49],[48,120]]
theorem awT_enc (v:Value)(h:SH)(hv:Has h (nodes Lt) 1 Lt.length v):SRun Tryz.prog 11 [v] h fun r q=>r=.tuple #[S (cod0 Lt),I 0]∧q=h :=
 TEncode_any 0 5 10 [15,21] 5 v h hv (by decide) (by decide +kernel) (by decide +kernel) (by decide +kernel) (by decide +kernel) (by decide +kernel) (by decide +kernel) (by decide +kernel) (by decide +kernel) (by decide +kernel)
  ⟨by decide +kernel,by decide +kernel,by decide +kernel,by decide +kernel,by decide +kernel,by decide +kernel⟩ (by decide +kernel) (by decide +kernel)
theorem awT_dec (h:SH):SRun Tryz.prog 15 [S (cod0 Lt),I 5] h fun r q=>∃A,r=.tuple #[gsl A 0 5 5 1,I 0]∧q=(A,⟨nodes Lt,false⟩)::h :=
 TDecode_any (cod0 Lt) (mEncN (gps (-1) Lt)).1 (gps (-1) Lt) Lt 5 h (by decide +kernel) (by decide +kernel) (by decide +kernel) (by decide +kernel) (by decide +kernel) (by decide +kernel) (by decide +kernel) (by decide +kernel) (fun v h hv=>awT_enc v h hv) (by decide +kernel)
def Db :List UInt8:=vnum 0++plnE Lb
theorem Lb_ok :∀s∈Lb,isV s∧(s.length:Int)=2:=by decide +kernel
theorem awB_enc (v:Value)(h:SH)(hv:Has h (Lb.map sV) 1 Lb.length v):SRun Tryz.prog 12 [I 2,v] h fun r q=>r=.tuple #[S Db,I 0]∧q=h :=
 BEncode_any 2 (plnE Lb) (cntE Lb) (mixE 2 Lb) (rlA (Lb.map sh1)) Lb v h hv (by decide) (by decide) Lb_ok
  (fun h hv=>plain_any 2 Lb v h hv (by decide) (by decide) (by decide) (by decide +kernel) (by decide +kernel))
  (fun h hv=>counter_any 2 Lb v h hv (by decide) (by decide) (by decide) Lb_ok (by decide +kernel) (by decide +kernel) (by decide +kernel) ⟨by decide +kernel,by decide +kernel,by decide +kernel,by decide +kernel,by decide +kernel,by decide +kernel⟩ (by decide +kernel) (by decide +kernel) (by decide +kernel))
  (fun h hv=>mixed_any 2 Lb v h hv (by decide) (by decide) (by decide +kernel) (by decide +kernel) ⟨by decide +kernel,by decide +kernel,by decide +kernel,by decide +kernel,by decide +kernel,by decide +kernel⟩)
  (fun h hv=>words_any 2 Lb v h hv (by decide) (by decide) ⟨by decide +kernel,by decide +kernel,by decide +kernel,by decide +kernel,by decide +kernel,by decide +kernel⟩)
  (by decide +kernel) (by decide +kernel) (by decide +kernel) (by decide +kernel)
theorem awB_dec (h:SH):SRun Tryz.prog 16 [I 2,S Db,I 5] h fun r q=>∃A,r=.tuple #[gsl A 0 5 5 1,I 0]∧q=(A,⟨Lb.map sV,false⟩)::h :=
 BDecode_any 2 Db (plnE Lb) Lb 5 h (by decide +kernel) (by decide +kernel) (by decide)
  (fun nr h=>readPlain_any 2 5 20 (plnE Lb) ((plnE Lb).drop 1) Lb nr h (by decide +kernel) (by decide +kernel) (by decide +kernel) (by decide +kernel) (by decide) (by decide) (by decide +kernel) (by decide +kernel) (by decide) (by decide +kernel) (by decide) (by decide) (by decide +kernel) (by decide +kernel))
  (fun v h hv=>awB_enc v h hv) (by decide)
def Dc :List UInt8:=(encF [(1,cod0 Lt),(2,Db)] []).1
theorem awF_enc (v:Value)(h:SH)(hv:Has h (recs frC [(1,cod0 Lt),(2,Db)]) 2 2 v):SRun Tryz.prog 13 [v] h fun r q=>r=.tuple #[S Dc,I 0]∧q=h:=by
 have:=EncodeF_any [(1,cod0 Lt),(2,Db)] v h hv (by decide) (by decide +kernel)
 rw[show(encF [(1,cod0 Lt),(2,Db)] []).2=0 by decide +kernel]at this
 exact this
theorem awF_dec (h:SH):SRun Tryz.prog 14 [S Dc] h fun r q=>∃A fl ro h1,r=.tuple #[.slice (some ⟨A,0,some 4⟩) 2 fl,I 0]∧Pick q A ⟨[I 1,S (cod0 Lt),I 2,S Db],ro⟩ h1∧Take q h :=
 (DecodeF_any Dc h (by decide +kernel)).mono fun r q k=>by
  rw[show decF Dc.length Dc []=some [(1,cod0 Lt),(2,Db)] by decide +kernel]at k
  obtain⟨v,rfl,⟨ad,fl,rfl,hh⟩,t⟩:=k
  obtain⟨A,ro,h1,rfl,hp⟩:=hh (by decide)
  exact⟨A,fl,ro,h1,rfl,hp,t⟩

theorem hasT5 {q h1:SH}{A:Nat}(p:Pick q A ⟨nodes Lt,false⟩ h1):Has q (nodes Lt) 1 Lt.length (gsl A 0 (5*1) 5 1):=⟨_,_,rfl,fun _=>⟨A,_,_,rfl,p⟩⟩
theorem hasB5 {q h1:SH}{A:Nat}(p:Pick q A ⟨Lb.map sV,false⟩ h1):Has q (Lb.map sV) 1 Lb.length (gsl A 0 (5*1) 5 1):=⟨_,_,rfl,fun _=>⟨A,_,_,rfl,p⟩⟩
theorem hasB5' {q h1:SH}{A:Nat}(p:Pick q A ⟨Lb.map sV,false⟩ h1):Has q (Lb.map sV) 1 Lb.length (gsl A 0 5 5 1):=⟨_,_,rfl,fun _=>⟨A,_,_,rfl,p⟩⟩
theorem hasF2 {q h1:SH}{A:Nat}{a b:List UInt8}(p:Pick q A ⟨recs frC [(1,a),(2,b)],false⟩ h1):Has q (recs frC [(1,a),(2,b)]) 2 2 (gsl A 0 (2*2) 2 2):=⟨_,_,rfl,fun _=>⟨A,_,_,rfl,p⟩⟩
abbrev ltC :List Value:=[.int .i64 0,.int .i64 5,.int .i64 10,.int .i64 15,.int .i64 21]
abbrev lbC :List Value:=[.string (ByteArray.mk #[48,48]),.string (ByteArray.mk #[48,49]),.string (ByteArray.mk #[49,48]),.string (ByteArray.mk #[49,49]),.string (ByteArray.mk #[48,120])]
set_option maxHeartbeats 2000000 in
theorem awakeCodec_any (h:SH):SRun Tryz.prog 4 [] h fun r q=>r=B true∧q=h:=by
 have k1:∀{q h1:SH} {A:Nat},Pick q A ⟨ltC,false⟩ h1→SRun Tryz.prog 11 [gsl A 0 (5*1) 5 1] q fun r q'=>r=.tuple #[S (cod0 Lt),I 0]∧q'=q:=fun p=>awT_enc _ _ (hasT5 p)
 have k2:∀{q h1:SH} {A:Nat},Pick q A ⟨lbC,false⟩ h1→SRun Tryz.prog 12 [I 2,gsl A 0 (5*1) 5 1] q fun r q'=>r=.tuple #[S Db,I 0]∧q'=q:=fun p=>awB_enc _ _ (hasB5 p)
 have k3:∀{q h1:SH} {A:Nat},Pick q A ⟨[I 1,S (cod0 Lt),I 2,S Db],false⟩ h1→SRun Tryz.prog 13 [gsl A 0 (2*2) 2 2] q fun r q'=>r=.tuple #[S Dc,I 0]∧q'=q:=fun p=>awF_enc _ _ (hasF2 p)
 have k4:=awF_dec
 have k5:=awT_dec
 have k6:=awB_dec
 have k7:∀{q h1 h2:SH} {A B:Nat},Pick q A ⟨Lb.map sV,false⟩ h1→Pick q B ⟨lbC,false⟩ h2→SRun Tryz.prog 17 [gsl A 0 5 5 1,gsl B 0 (5*1) 5 1] q fun r q'=>r=.bool true∧q'=q:=fun p p'=>rTexts_any Lb _ _ _ (hasB5' p) (hasB5 p') (by decide) (by decide)
 have hc4:(nodes Lt)[0+(4:Int).toNat*1]?=some (I 21):=rfl
 generalize cod0 Lt=a at *
 generalize Db=b at *
 generalize Dc=c at *
 refine w_body0 Tryz.func4 rfl rfl ?_
 repeat'((fail_if_success (show SWp _ _ (Code.seq (Code.region 6 _ _) _) _ _ _));(fail_if_success (show SWp _ _ (Code.region 6 _ _) _ _ _));first|apply zF|apply zB|apply zE|refine jg ?_ ?_|(apply yT zC;exact rfl;exact rfl;(focus first|with_reducible exact pl38);exact rfl;(focus repeat(first|exact BuildR.nil|(apply BuildR.one;exact rfl;exact rfl;(first|(focus(repeat(first|exact SetAt.zero|apply SetAt.succ));done)))));exact rfl)|(apply zT zC;(iterate 5 exact rfl);decide;exact rfl;decide;(focus repeat(first|exact CatR.nil|exact CatR.last rfl|(apply CatR.one;exact rfl;exact rfl)|(apply CatR.agg;exact rfl)));exact rfl)|(refine jc ?_ (c:=by exact⟨_,k1 (.tail .head),jN⟩);rintro _ _ ⟨rfl,rfl⟩)|(refine jc ?_ (c:=by exact⟨_,k2 .head,jN⟩);rintro _ _ ⟨rfl,rfl⟩)|(refine jc ?_ (c:=by exact⟨_,k3 .head,jC⟩);rintro _ _ ⟨rfl,rfl⟩)|(refine jc ?_ (c:=by exact⟨_,k4 _,jN⟩);rintro _ _ ⟨A9,fl9,ro9,h9,rfl,hp9,ht9⟩)|apply zA|exact jS|intro A)
 rename_i A1 A2 q
 obtain⟨hb,hpb,_⟩:=ht9.pick (.tail .head)
 have hl4:([I 1,S a,I 2,S b]:List Value).length=4:=rfl
 have f1:([I 1,S a,I 2,S b]:List Value)[0+(0:Int).toNat*2+1]?=some (S a):=rfl
 have f2:([I 1,S a,I 2,S b]:List Value)[0+(1:Int).toNat*2+1]?=some (S b):=rfl
 repeat'(first|apply zF|apply zB|apply zE|refine jg ?_ ?_|(apply zM zC;(iterate 3 exact rfl);exact pk)|(refine jc ?_ (c:=by exact⟨_,k5 _,jN⟩);rintro _ _ ⟨A10,rfl,rfl⟩)|(refine jc ?_ (c:=by exact⟨_,k6 _,jN⟩);rintro _ _ ⟨A11,rfl,rfl⟩)|(refine jc ?_ (c:=by exact⟨_,k7 .head (.tail (.tail hpb)),jN⟩);rintro _ _ ⟨rfl,rfl⟩)|refine jw ?_|(apply zS;exact rfl)|apply zA|apply zI|apply zN|exact jO|exact jL|exact jE|exact True.intro|exact rfl)
 (apply zL;(exact(show ResS _ _ _ _ [_] from⟨rfl,trivial⟩));exact⟨rfl,rfl⟩;(focus repeat with_reducible first|exact Take.nil|apply Take.c|apply Take.drop))
 all_goals exact ht9.trans (.drop (.drop (.drop .nil)))

def dva :List UInt8→Nat→Nat
 |[],n=>n
 |b::r,n=>dva r (10*n+(b.toNat-48))
abbrev dv (l:List UInt8):Nat:=dva l 0
def isD (l:List UInt8):Prop:=∀b∈l,48≤b.toNat∧b.toNat≤57
theorem isD_cons {b:UInt8}{l:List UInt8}:isD (b::l)↔(48≤b.toNat∧b.toNat≤57)∧isD l:=by
 unfold isD
 simp
theorem isD_app {a b:List UInt8}:isD (a++b)↔isD a∧isD b:=by
 unfold isD
 constructor
 ·exact fun h=>⟨fun x hx=>h x (List.mem_append_left _ hx),fun x hx=>h x (List.mem_append_right _ hx)⟩
 ·rintro⟨h1,h2⟩ x hx
  rcases List.mem_append.1 hx with h|h
  ·exact h1 x h
  ·exact h2 x h
theorem dva_eq :∀(l:List UInt8) (n:Nat),dva l n=n*10^l.length+dv l
 |[],n=>by show n=n*1+0;omega
 |b::r,n=>by
  show dva r (10*n+(b.toNat-48))=n*10^(r.length+1)+dva r (10*0+(b.toNat-48))
  rw[dva_eq r,dva_eq r (10*0+_),Nat.pow_succ,Nat.add_mul,Nat.mul_zero,Nat.zero_add,←Nat.add_assoc]
  congr 2
  rw[Nat.mul_comm 10 n,Nat.mul_assoc,Nat.mul_comm 10]
theorem dv_cons (b:UInt8)(r:List UInt8):dv (b::r)=(b.toNat-48)*10^r.length+dv r:=by
 show dva r (10*0+(b.toNat-48))=_
 rw[dva_eq,Nat.mul_zero,Nat.zero_add]
theorem dv_app (a b:List UInt8):dv (a++b)=dv a*10^b.length+dv b:=by
 induction a with
 |nil=>show dv b=0*_+_;rw[Nat.zero_mul,Nat.zero_add]
 |cons x r ih =>
  rw[List.cons_append,dv_cons,dv_cons,ih,List.length_append,Nat.pow_add,Nat.add_mul,Nat.mul_assoc,Nat.add_assoc]
theorem dv_lt :∀{l:List UInt8},isD l→dv l<10^l.length
 |[],_=>by show 0<1;decide
 |b::r,h=>by
  obtain⟨h1,h2⟩:=isD_cons.1 h
  have:=dv_lt h2
  rw[dv_cons,List.length_cons,Nat.pow_succ]
  have h3:(b.toNat-48)*10^r.length≤9*10^r.length:=Nat.mul_le_mul_right _ (by omega)
  omega
def nzL (l:List UInt8):Prop:=∀b,l.getLast?=some b→49≤b.toNat
def nzH (l:List UInt8):Prop:=∀b,l.head?=some b→49≤b.toNat
theorem nzL_tail {b:UInt8}{r:List UInt8}(h:nzL (b::r)):nzL r:=by
 intro x hx
 apply h
 cases r with
 |nil=>cases hx
 |cons c t=>rw[List.getLast?_cons_cons];exact hx
theorem nzL_pos :∀{l:List UInt8},nzL l→l≠[]→0<dv l
 |[],_,h=>absurd rfl h
 |[b],h,_=>by
  have:=h b rfl
  rw[dv_cons]
  show 0<(b.toNat-48)*1+0
  omega
 |b::c::r,h,_=>by
  have:=nzL_pos (nzL_tail h) (by simp)
  rw[dv_cons]
  omega
theorem nzH_ge {b:UInt8}{r:List UInt8}(h:nzH (b::r)):10^r.length≤dv (b::r):=by
 have:=h b rfl
 rw[dv_cons]
 have h3:1*10^r.length≤(b.toNat-48)*10^r.length:=Nat.mul_le_mul_right _ (by omega)
 omega
def cmL :List UInt8→List UInt8→Int
 |[],[]=>0
 |[],_::_=>-1
 |_::_,[]=>1
 |a::r,b::t=>if a.toNat<b.toNat then -1 else if b.toNat<a.toNat then 1 else cmL r t
def sgn (z:Int):Int:=if z<0 then -1 else if 0<z then 1 else 0
theorem sgn_neg {z:Int}(h:z<0):sgn z=-1:=if_pos h
theorem sgn_pos {z:Int}(h:0<z):sgn z=1:=by unfold sgn;rw[if_neg (by omega),if_pos h]
theorem sgn_zero :sgn 0=0:=rfl
theorem cmL_val :∀(u v:List UInt8) (n:Nat),isD u→isD v→nzL u→nzL v→u.length≤n→v.length≤n→cmL u v=sgn ((dv u*10^(n-u.length):Nat)-(dv v*10^(n-v.length):Nat))
 |[],[],n,_,_,_,_,_,_=>by
  rw[show dv []=0 from rfl,Nat.zero_mul]
  rfl
 |[],b::t,n,_,_,_,h2,_,_=>by
  have h3:=Nat.mul_pos (nzL_pos h2 (by simp)) (Nat.pow_pos (n:=n-(b::t).length) (show 0<10 by decide))
  rw[show dv []=0 from rfl,Nat.zero_mul,sgn_neg (by omega)]
  rfl
 |a::r,[],n,_,_,h2,_,_,_=>by
  have h3:=Nat.mul_pos (nzL_pos h2 (by simp)) (Nat.pow_pos (n:=n-(a::r).length) (show 0<10 by decide))
  rw[show dv []=0 from rfl,Nat.zero_mul,sgn_pos (by omega)]
  rfl
 |a::r,b::t,n,du,dw,h1,h2,hu,hv=>by
  obtain⟨da,dr⟩:=isD_cons.1 du
  obtain⟨db,dt⟩:=isD_cons.1 dw
  rw[List.length_cons]at hu hv
  obtain⟨m,rfl⟩:∃m,n=m+1:=⟨n-1,by omega⟩
  have e:∀(c:UInt8) (l:List UInt8),l.length≤m→dv (c::l)*10^(m+1-(c::l).length)=(c.toNat-48)*10^m+dv l*10^(m-l.length):=fun c l hl=>by
   rw[dv_cons,List.length_cons,show m+1-(l.length+1)=m-l.length by omega,Nat.add_mul,Nat.mul_assoc,←Nat.pow_add,show l.length+(m-l.length)=m by omega]
  have lt:∀l:List UInt8,isD l→l.length≤m→dv l*10^(m-l.length)<10^m:=fun l hd hl=>by
   have h3:=Nat.mul_lt_mul_of_pos_right (dv_lt hd) (Nat.pow_pos (n:=m-l.length) (show 0<10 by decide))
   rwa [←Nat.pow_add,show l.length+(m-l.length)=m by omega]at h3
  have l1:=lt r dr (by omega)
  have l2:=lt t dt (by omega)
  have ih:=cmL_val r t m dr dt (nzL_tail h1) (nzL_tail h2) (by omega) (by omega)
  rw[e a r (by omega),e b t (by omega)]
  generalize dv r*10^(m-r.length)=X at *
  generalize dv t*10^(m-t.length)=Y at *
  show(if a.toNat<b.toNat then -1 else if b.toNat<a.toNat then 1 else cmL r t)=_
  by_cases g1:a.toNat<b.toNat
  ·have:=Nat.mul_le_mul_right (10^m) (show(a.toNat-48)+1≤b.toNat-48 by omega)
   rw[Nat.add_mul,Nat.one_mul]at this
   rw[if_pos g1,sgn_neg (by omega)]
  ·by_cases g2:b.toNat<a.toNat
   ·have:=Nat.mul_le_mul_right (10^m) (show(b.toNat-48)+1≤a.toNat-48 by omega)
    rw[Nat.add_mul,Nat.one_mul]at this
    rw[if_neg g1,if_pos g2,sgn_pos (by omega)]
   ·rw[if_neg g1,if_neg g2,ih,show a.toNat=b.toNat by omega]
    congr 1
    omega
abbrev Nm :Type:=Bool × List UInt8 × Int
structure okT (a:Nm):Prop where
 d:isD a.2.1
 h:nzH a.2.1
 l:nzL a.2.1
 z:a.2.1=[]→a=(false,[],0)
def vE (E:Int)(a:Nm):Int:=(if a.1=true then -1 else 1)*((dv a.2.1*10^(a.2.2-E).toNat:Nat):Int)
def fst (a:Nm):Int:=a.2.2+a.2.1.length-1
def sg (a:Nm):Int:=if a.2.1.length=0 then 0 else if a.1=true then -1 else 1
def sc3 (x y:Int):Int:=if x<y then -1 else if y<x then 1 else 0
def mag (a b:Nm):Int:=if a.2.1.length=0∨b.2.1.length=0 then sc3 a.2.1.length b.2.1.length else if sc3 (fst a) (fst b)≠0 then sc3 (fst a) (fst b)else cmL a.2.1 b.2.1
def cmN (a b:Nm):Int:=if sc3 (sg a) (sg b)≠0 then sc3 (sg a) (sg b)else sg a*mag a b
def mE (E:Int)(a:Nm):Nat:=dv a.2.1*10^(a.2.2-E).toNat
theorem mE_pos {E:Int}{a:Nm}(h:okT a)(h0:a.2.1≠[]):0<mE E a:=Nat.mul_pos (nzL_pos h.l h0) (Nat.pow_pos (by decide))
theorem mE_ge {E:Int}{a:Nm}(h:okT a)(h0:a.2.1≠[])(hE:E≤a.2.2):10^(fst a-E).toNat≤mE E a:=by
 obtain⟨s,l,e⟩:=a
 cases l with
 |nil=>exact absurd rfl h0
 |cons b r =>
  have:=Nat.mul_le_mul_right (10^(e-E).toNat) (nzH_ge h.h)
  rw[←Nat.pow_add]at this
  unfold fst mE
  dsimp only at hE ⊢
  rw[List.length_cons,show(e+((r.length+1:Nat):Int)-1-E).toNat=r.length+(e-E).toNat by omega]
  exact this
theorem mE_lt {E:Int}{a:Nm}(h:okT a)(hE:E≤a.2.2):mE E a<10^(fst a+1-E).toNat:=by
 obtain⟨s,l,e⟩:=a
 have:=Nat.mul_lt_mul_of_pos_right (dv_lt h.d) (Nat.pow_pos (n:=(e-E).toNat) (show 0<10 by decide))
 rw[←Nat.pow_add]at this
 unfold fst mE
 dsimp only at hE ⊢
 rw[show(e+(l.length:Int)-1+1-E).toNat=l.length+(e-E).toNat by omega]
 exact this
theorem mag_val {E:Int}{a b:Nm}(ha:okT a)(hb:okT b)(a0:a.2.1≠[])(b0:b.2.1≠[])(hEa:E≤a.2.2)(hEb:E≤b.2.2):mag a b=sgn ((mE E a:Int)-mE E b):=by
 have la:=List.length_pos_iff.2 a0
 have lb:=List.length_pos_iff.2 b0
 unfold mag
 rw[if_neg (by omega)]
 have key:∀{x y:Nm},okT x→okT y→y.2.1≠[]→E≤x.2.2→E≤y.2.2→fst x<fst y→mE E x<mE E y:=fun {x y} hx hy y0 ex ey hf=>by
  have h1:=mE_lt hx ex
  have h2:=mE_ge hy y0 ey
  have h3:10^(fst x+1-E).toNat≤10^(fst y-E).toNat:=Nat.pow_le_pow_right (by decide) (by omega)
  omega
 by_cases g1:fst a<fst b
 ·have:=key ha hb b0 hEa hEb g1
  rw[show sc3 (fst a) (fst b)=-1 from if_pos g1,if_pos (by decide),sgn_neg (by omega)]
 ·by_cases g2:fst b<fst a
  ·have:=key hb ha a0 hEb hEa g2
   rw[show sc3 (fst a) (fst b)=1 by unfold sc3;rw[if_neg g1,if_pos g2],if_pos (by decide),sgn_pos (by omega)]
  ·rw[show sc3 (fst a) (fst b)=0 by unfold sc3;rw[if_neg g1,if_neg g2],if_neg (fun g=>g rfl)]
   have hf:fst a=fst b:=by omega
   unfold fst at hf
   have h:=cmL_val a.2.1 b.2.1 (a.2.1.length+(a.2.2-E).toNat) ha.d hb.d ha.l hb.l (by omega) (by omega)
   rw[h,show a.2.1.length+(a.2.2-E).toNat-a.2.1.length=(a.2.2-E).toNat by omega,show a.2.1.length+(a.2.2-E).toNat-b.2.1.length=(b.2.2-E).toNat by omega]
   rfl
theorem vE_sg {E:Int}{a:Nm}(h:okT a):(sg a=0∧vE E a=0∧a.2.1=[])∨(sg a=1∧vE E a=mE E a∧0<mE E a∧a.2.1≠[])∨(sg a=-1∧vE E a=-(mE E a:Int)∧0<mE E a∧a.2.1≠[]):=by
 by_cases h0:a.2.1=[]
 ·refine .inl ⟨?_,?_,h0⟩
  ·unfold sg;rw[h0];rfl
  ·unfold vE;rw[h0,show dv []=0 from rfl,Nat.zero_mul];exact Int.mul_zero _
 ·have hl:=List.length_pos_iff.2 h0
  have hp:=mE_pos (E:=E) h h0
  refine .inr ?_
  cases hs:a.1
  ·refine .inl ⟨?_,?_,hp,h0⟩
   ·unfold sg;rw[hs,if_neg (by omega)];rfl
   ·unfold vE;rw[hs];exact Int.one_mul _
  ·refine .inr ⟨?_,?_,hp,h0⟩
   ·unfold sg;rw[hs,if_neg (by omega)];rfl
   ·unfold vE;rw[hs,if_pos rfl,Int.neg_mul,Int.one_mul];rfl
theorem cmN_val {E:Int}{a b:Nm}(ha:okT a)(hb:okT b)(hEa:E≤a.2.2)(hEb:E≤b.2.2):cmN a b=sgn (vE E a-vE E b):=by
 unfold cmN
 rcases vE_sg (E:=E) ha with⟨a1,a2,a3⟩|⟨a1,a2,a3,a4⟩|⟨a1,a2,a3,a4⟩ <;> rcases vE_sg (E:=E) hb with⟨b1,b2,b3⟩|⟨b1,b2,b3,b4⟩|⟨b1,b2,b3,b4⟩ <;> rw[a1,b1,a2,b2]
 ·rw[show sc3 0 0=0 from rfl,if_neg (fun g=>g rfl),Int.zero_mul]
  rfl
 ·rw[show sc3 0 1=-1 from rfl,if_pos (by decide),sgn_neg (by omega)]
 ·rw[show sc3 0 (-1)=1 from rfl,if_pos (by decide),sgn_pos (by omega)]
 ·rw[show sc3 1 0=1 from rfl,if_pos (by decide),sgn_pos (by omega)]
 ·rw[show sc3 1 1=0 from rfl,if_neg (fun g=>g rfl),mag_val ha hb a4 b4 hEa hEb,Int.one_mul]
 ·rw[show sc3 1 (-1)=1 from rfl,if_pos (by decide),sgn_pos (by omega)]
 ·rw[show sc3 (-1) 0=-1 from rfl,if_pos (by decide),sgn_neg (by omega)]
 ·rw[show sc3 (-1) 1=-1 from rfl,if_pos (by decide),sgn_neg (by omega)]
 ·rw[show sc3 (-1) (-1)=0 from rfl,if_neg (fun g=>g rfl),mag_val ha hb a4 b4 hEa hEb,Int.neg_mul,Int.one_mul]
  unfold sgn
  split
  ·rw[if_neg (by omega),if_pos (by omega)];rfl
  ·split
   ·rw[if_pos (by omega)]
   ·rw[if_neg (by omega),if_neg (by omega)];rfl

def zl :List UInt8→List UInt8
 |[]=>[]
 |b::r=>if b.toNat=48 then zl r else b::r
def zr :List UInt8→List UInt8
 |[]=>[]
 |b::r=>if zr r=[]∧b.toNat=48 then [] else b::zr r
theorem zl_spec :∀l:List UInt8,isD l→dv (zl l)=dv l∧isD (zl l)∧nzH (zl l)∧(zl l).length≤l.length
 |[],h=>⟨rfl,h,fun _ g=>(by cases g),Nat.le_refl _⟩
 |b::r,h=>by
  obtain⟨h1,h2⟩:=isD_cons.1 h
  obtain⟨a1,a2,a3,a4⟩:=zl_spec r h2
  unfold zl
  split
  ·rename_i g
   rw[dv_cons,g,Nat.sub_self,Nat.zero_mul,Nat.zero_add]
   exact⟨a1,a2,a3,Nat.le_succ_of_le a4⟩
  ·rename_i g
   refine⟨rfl,h,fun x hx=>?_,Nat.le_refl _⟩
   have:b=x:=Option.some.inj hx
   subst this
   omega
theorem zr_spec :∀l:List UInt8,isD l→∃n,zr l++List.replicate n 48=l∧dv l=dv (zr l)*10^n∧isD (zr l)∧nzL (zr l)
 |[],h=>⟨0,rfl,rfl,h,fun _ g=>(by cases g)⟩
 |b::r,h=>by
  obtain⟨h1,h2⟩:=isD_cons.1 h
  obtain⟨n,a1,a2,a3,a4⟩:=zr_spec r h2
  unfold zr
  split
  ·rename_i g
   obtain⟨g1,g2⟩:=g
   rw[g1]at a1 a2
   refine⟨n+1,?_,?_,fun _ k=>(by cases k),fun _ k=>(by cases k)⟩
   ·have hb:b=48:=UInt8.toNat_inj.1 g2
    rw[hb,←a1]
    rfl
   ·rw[dv_cons,g2,a2,show dv []=0 from rfl];simp
  ·rename_i g
   refine⟨n,by rw[List.cons_append,a1],?_,isD_cons.2 ⟨h1,a3⟩,?_⟩
   ·have hl:=congrArg List.length a1
    rw[List.length_append,List.length_replicate]at hl
    rw[dv_cons,dv_cons,a2,Nat.add_mul,Nat.mul_assoc,←Nat.pow_add,hl]
   ·intro x hx
    cases hz:zr r with
    |nil =>
     rw[hz]at hx
     have:b=x:=Option.some.inj hx
     subst this
     have:¬b.toNat=48:=fun k=>g ⟨hz,k⟩
     omega
    |cons c t =>
     rw[hz,List.getLast?_cons_cons]at hx
     rw[hz]at a4
     exact a4 x hx
theorem zr_head {l:List UInt8}(h:nzH l):nzH (zr l):=by
 cases l with
 |nil=>exact h
 |cons b r =>
  have:=h b rfl
  intro x hx
  unfold zr at hx
  split at hx
  ·cases hx
  ·have:b=x:=Option.some.inj hx
   subst this
   omega
def trD (a:Nm):Nm:=if zr (zl a.2.1)=[] then(false,[],0)else(a.1,zr (zl a.2.1),a.2.2+(zl a.2.1).length-(zr (zl a.2.1)).length)
theorem trN_ok {a:Nm}(h:isD a.2.1):okT (trD a)∧(∀E,E≤a.2.2→E≤0→E≤(trD a).2.2∧vE E (trD a)=vE E a):=by
 obtain⟨s,l,e⟩:=a
 obtain⟨z1,z2,z3,z4⟩:=zl_spec l h
 obtain⟨n,y1,y2,y3,y4⟩:=zr_spec (zl l) z2
 unfold trD
 dsimp only
 split
 ·rename_i g
  refine⟨⟨fun _ k=>(by cases k),fun _ k=>(by cases k),fun _ k=>(by cases k),fun _=>rfl⟩,fun E h1 h2=>⟨h2,?_⟩⟩
  have:dv l=0:=by rw[←z1,y2,g];exact Nat.zero_mul _
  unfold vE
  dsimp only
  rw[this,show dv []=0 from rfl,Nat.zero_mul,Nat.zero_mul]
  simp
 ·rename_i g
  have hl:=congrArg List.length y1
  rw[List.length_append,List.length_replicate]at hl
  have he:e+((zl l).length:Int)-((zr (zl l)).length:Int)=e+n:=by omega
  rw[he]
  refine⟨⟨y3,zr_head z3,y4,fun k=>absurd k g⟩,fun E h1 h2=>⟨by dsimp only at h1 ⊢;omega,?_⟩⟩
  unfold vE
  dsimp only at h1 ⊢
  rw[←z1,y2,Nat.mul_assoc,←Nat.pow_add,show(e+(n:Int)-E).toNat=n+(e-E).toNat by omega]
theorem zl_id {l:List UInt8}(h:nzH l):zl l=l:=by
 cases l with
 |nil=>rfl
 |cons b r =>
  have:=h b rfl
  exact if_neg (by omega)
theorem zr_id :∀{l:List UInt8},nzL l→zr l=l
 |[],_=>rfl
 |b::r,h=>by
  have ih:=zr_id (nzL_tail h)
  unfold zr
  rw[ih,if_neg]
  rintro⟨rfl,g⟩
  have:=h b rfl
  omega
theorem trN_id {a:Nm}(h:okT a):trD a=a:=by
 unfold trD
 rw[zl_id h.h,zr_id h.l]
 split
 ·rename_i g
  exact(h.z g).symm
 ·obtain⟨s,l,e⟩:=a
  dsimp only
  rw[show e+(l.length:Int)-(l.length:Int)=e by omega]
def algn (l:List UInt8)(k n:Nat):List UInt8:=List.replicate (n-l.length-k) 48++(l++List.replicate k 48)
theorem dv_zeros :∀n,dv (List.replicate n 48)=0
 |0=>rfl
 |n+1=>by
  rw[List.replicate_succ,dv_cons,dv_zeros n]
  exact Nat.zero_mul _
theorem isD_zeros (n:Nat):isD (List.replicate n 48):=fun b hb=>by
 rw[(List.mem_replicate.1 hb).2]
 decide
theorem algn_ok {l:List UInt8}{k n:Nat}(h:isD l)(hn:l.length+k≤n):dv (algn l k n)=dv l*10^k∧isD (algn l k n)∧(algn l k n).length=n:=by
 unfold algn
 refine⟨?_,isD_app.2 ⟨isD_zeros _,isD_app.2 ⟨h,isD_zeros _⟩⟩,?_⟩
 ·rw[dv_app,dv_app,dv_zeros,dv_zeros,List.length_replicate,Nat.zero_mul,Nat.zero_add,Nat.add_zero]
 ·rw[List.length_append,List.length_append,List.length_replicate,List.length_replicate]
  omega
theorem add_stp {s a b c d d' c' X Y R P:Int}(hd:d=a+c+s*b)(hd':d=d'+10*c')(h:X+s*Y=R+c*P):a*P+X+s*(b*P+Y)=d'*P+R+c'*(P*10):=by
 have e:(a+c+s*b)*P=(d'+10*c')*P:=by rw[←hd,hd']
 rw[Int.add_mul,Int.add_mul,Int.add_mul,Int.mul_assoc s b P]at e
 rw[Int.mul_add]
 have e2:10*c'*P=c'*(P*10):=by rw[Int.mul_comm 10 c',Int.mul_assoc,Int.mul_comm 10 P]
 rw[e2]at e
 omega
theorem dv_drop {l:List UInt8}{i:Nat}(hi:i<l.length):(dv (l.drop i):Int)=((l[i].toNat-48:Nat):Int)*((10^(l.length-(i+1)):Nat):Int)+dv (l.drop (i+1)):=by
 rw[List.drop_eq_getElem_cons hi,dv_cons,List.length_drop]
 push_cast
 rfl
end Go.Proofs.YteddogfolceahaaGreatDoor
end
