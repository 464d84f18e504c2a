/- Part 7 of the proof of the law TopOrders: texts merged. No condition. -/
import Derived.Test.YteddogfolceahaaGreatDoorZTopOrdersF
import Derived.Shelf.Strings.Builder1
import Derived.Shelf.Strings.Builder2
import Derived.Shelf.Small.Utf8
import Derived.Shelf.Strings.BuilderF
import Derived.Shelf.Strconv.Itoa0
import Derived.Shelf.Strconv.Itoa1
import Derived.Shelf.LaysM
import Derived.Shelf.Strconv.Itoa2
import Derived.Shelf.Strconv.Itoa3
import Derived.Shelf.Strings.Prefix
import Derived.Shelf.Bits.Mul64
import Derived.Shelf.Strings.Repeat
import Derived.Test.YteddogfolceahaaGreatDoorProg
import Derived.ProofKit
set_option linter.unusedSimpArgs false
set_option linter.unusedVariables false
section
set_option maxRecDepth 4000
namespace Go.Proofs.YteddogfolceahaaGreatDoor
open Go.Gh Go.RowKit

abbrev sV (s:List UInt8):Value:=S s
theorem okLen_any (s:List UInt8)(h:SH):SRun Tryz.prog 156 [S s] h fun r q=>r=B (decide (128<(s.length:Int)))∧q=h:=by
 refine zR Tryz.func156 rfl rfl ?_
 repeat'(first|apply zF|apply zB|apply zE|refine jg ?_ ?_|apply zA|apply zN|exact jS|fail)
 all_goals first
  |exact jG
theorem IndexFunc_no (L:List (List UInt8))(v:Value)(h:SH)(hv:Has h (L.map sV) 1 L.length v)(hl:L.length≤4096)(hs:∀s∈L,s.length≤128) :
  SRun Tryz.prog 197 [v,.func (.func 156) #[] #[]] h fun r q=>r=I (-1)∧q=h:=by
 obtain⟨ad,fl,rfl,hh⟩:=hv
 have hlb:(L.map sV).length=L.length:=by simp
 refine zY Tryz.func197 rfl rfl ?_
 repeat'(first|apply zF|apply zB|apply zE|refine jg ?_ ?_|apply zA|apply zH|exact jS|fail)
 all_goals first|(exfalso;omega)|skip
 refine zZ (S:=Nat) (fun i=>[(0,.slice ad L.length fl),(1,.func (.func 156) #[] #[]),(7,I L.length),(8,I i)]) (fun _=>h) (fun i=>i≤L.length) (fun i=>L.length-i) 0 (Nat.zero_le _) jB jK ?_
 rintro i hi
 by_cases hil:i<L.length
 ·obtain⟨A',ro,h1,rfl,hp⟩:=hh (by omega)
  have hc1:(L.map sV)[0+((i:Int)).toNat*1]?=some (S L[i]!):=yM hil
  have hsi:=ihas_bang hs hil
  generalize L[i]! = s at *
  have hO:=fun h=>okLen_any s h
  rw[decide_eq_false (by omega)]at hO
  repeat'(first|apply zF|apply zB|apply zE|refine jg ?_ ?_|(apply o_ar zC;exact rfl;exact rfl)|(apply zM zC;(iterate 3 exact rfl);exact pk)|refine jq ?_ (c:=by exact⟨_,hO _,jN⟩)|(apply zS;exact rfl)|refine jd ?_|apply zA|apply zG|apply zI|apply zH|exact jO|((with_reducible apply Ln.mk);first|(simp[hlb];first|done|omega))|exact jW|((with_reducible apply Ce.mk);first|exact hc1)|exact True.intro|exact rfl)
  all_goals first
   |exact jX
   |exact⟨i+1,hil,by show L.length-(i+1)<L.length-i;omega,jB,jK⟩
 ·obtain rfl:i=L.length:=by omega
  repeat'(first|apply zF|apply zB|apply zE|refine jg ?_ ?_|refine jf ?_|apply zA|apply zK|apply zJ|apply zN|apply zV|exact jS|fail)
  all_goals first
   |exact jX
   |exact jG
theorem ContainsFunc_no (L:List (List UInt8))(v:Value)(h:SH)(hv:Has h (L.map sV) 1 L.length v)(hl:L.length≤4096)(hs:∀s∈L,s.length≤128) :
  SRun Tryz.prog 155 [v,.func (.func 156) #[] #[]] h fun r q=>r=B false∧q=h:=by
 have hI:=fun h hv=>IndexFunc_no L v h hv hl hs
 refine zY Tryz.func155 rfl rfl ?_
 repeat'(first|apply zF|apply zB|apply zE|refine jg ?_ ?_|refine jq ?_ (c:=by exact⟨_,hI _ hv,jN⟩)|apply zA|apply zN|exact jS|fail)
 all_goals first
  |exact jG
def wds (acc:List (List UInt8)):List (List UInt8)→List (List UInt8)
 |[]=>acc
 |w::r=>if w∈acc then wds acc r else wds (acc++[w]) r
theorem wds_ne :∀(L acc:List (List UInt8)),acc≠[]→wds acc L≠[]
 |[],_,h=>h
 |w::r,acc,h=>by
  show(if w∈acc then wds acc r else wds (acc++[w]) r)≠[]
  split
  ·exact wds_ne r acc h
  ·exact wds_ne r _ (by simp)
def ixo (w:List UInt8):List (List UInt8)→Nat
 |[]=>0
 |a::r=>if a=w then 0 else ixo w r+1
def plcs (W:List (List UInt8)):List (List UInt8 × Value):=W.zipIdx.map fun x=>(x.1,I (x.2:Int))
theorem mget_plcs (W:List (List UInt8))(w:List UInt8):mget (plcs W) w=if w∈W then some (I (ixo w W:Int))else none:=by
 suffices ∀k:Nat,mget ((W.zipIdx k).map fun x:List UInt8 × Nat=>(x.1,I (x.2:Int))) w=if w∈W then some (I ((k+ixo w W:Nat):Int))else none by
  have h:=this 0
  unfold plcs
  rw[h]
  simp only[Nat.zero_add]
 induction W with
 |nil=>intro k;rfl
 |cons a r ih =>
  intro k
  rw[List.zipIdx_cons,List.map_cons]
  show(if a=w then some (I ((k:Nat):Int))else mget ((r.zipIdx (k+1)).map _) w)=_
  rw[ih (k+1)]
  by_cases h:a=w
  ·subst h;rw[if_pos rfl,if_pos List.mem_cons_self];show some (I (k:Int))=some (I ((k+(if a=a then 0 else _):Nat):Int));rw[if_pos rfl,Nat.add_zero]
  ·rw[if_neg h]
   have hx:ixo w (a::r)=ixo w r+1:=if_neg h
   rw[hx]
   have:(w∈a::r)↔w∈r:=by simp[Ne.symm h]
   by_cases hw:w∈r
   ·rw[if_pos hw,if_pos (this.2 hw),show k+1+ixo w r=k+(ixo w r+1)by omega]
   ·rw[if_neg hw,if_neg (fun g=>hw (this.1 g))]
theorem mput_plcs {W:List (List UInt8)}{w:List UInt8}(h:w ∉ W):mput (plcs W) w (I (W.length:Int))=plcs (W++[w]):=by
 unfold plcs
 suffices ∀k:Nat,mput ((W.zipIdx k).map fun x:List UInt8 × Nat=>(x.1,I (x.2:Int))) w (I ((k+W.length:Nat):Int))=((W++[w]).zipIdx k).map fun x:List UInt8 × Nat=>(x.1,I (x.2:Int))by
  have h:=this 0
  simp only[Nat.zero_add]at h
  exact h
 induction W with
 |nil=>intro k;rfl
 |cons a r ih =>
  intro k
  have h1:a≠w:=fun g=>h (by simp[g])
  have h2:w ∉ r:=fun g=>h (by simp[g])
  rw[List.cons_append,List.zipIdx_cons,List.zipIdx_cons,List.map_cons,List.map_cons]
  show(if a=w then _ else(a,I ((k:Nat):Int))::mput ((r.zipIdx (k+1)).map _) w _)=_
  rw[if_neg h1,←ih h2 (k+1),List.length_cons,show k+(r.length+1)=k+1+r.length by omega]
abbrev mS (W:List (List UInt8)):List Value:=mapC (fun l:List UInt8=>S l) (plcs W)
theorem index_any (L:List (List UInt8))(v:Value)(h:SH)(hv:Has h (L.map sV) 1 L.length v)(hl:L.length≤4096)(h0:L≠[]) :
  SRun Tryz.prog 198 [v] h fun r q=>∃A M,r=.tuple #[gsl A 0 (wds [] L).length (wds [] L).length 1,.map (some M)]∧q=(A,⟨(wds [] L).map sV,false⟩)::(M,⟨mS (wds [] L),false⟩)::h:=by
 obtain⟨ad,fl,rfl,hh⟩:=hv
 have hlb:(L.map sV).length=L.length:=by simp
 obtain⟨R,hR⟩:∃R,wds [] L=R:=⟨_,rfl⟩
 rw[hR]
 have hRn:R≠[]:=by
  rw[←hR]
  cases L with
  |nil=>exact absurd rfl h0
  |cons w r=>show(if w∈[] then wds [] r else wds ([]++[w]) r)≠[];rw[if_neg (by simp)];exact wds_ne _ _ (by simp)
 refine zR Tryz.func198 rfl rfl ?_
 repeat'(first|apply zF|apply zB|apply zE|refine jg ?_ ?_|(apply o_makeMap;exact rfl)|apply zA|apply zH|exact jS|intro A)
 all_goals first|(exfalso;omega)|skip
 revert A;intro M
 refine zZ (S:=Nat × List (List UInt8) × Value × SH) (fun s=>[(4,s.2.2.1),(5,.map (some M)),(11,.slice ad L.length fl),(12,I L.length),(13,I s.1)])
  (fun s=>(M,⟨mS s.2.1,false⟩)::s.2.2.2) (fun s=>s.1≤L.length∧GrO sV h s.2.1 s.2.2.1 s.2.2.2∧wds s.2.1 (L.drop s.1)=R∧s.2.1.length≤s.1) (fun s=>L.length-s.1) (0,[],.slice none 0 0,h) ⟨Nat.zero_le _,.nil,hR,Nat.le_refl _⟩ jB (by repeat(first|with_reducible exact Take.nil|with_reducible apply Take.c|((with_reducible apply Take.cE);first|exact rfl|(apply blkE;(focus first|exact rfl|exact yI rfl|exact yO rfl|exact congrArg (fun v=>[v]) (gslE rfl rfl (by first|rfl|exact ‹_›|omega|(simp ;first|done|omega)) (by first|rfl|exact ‹_›|omega|(simp ;first|done|omega)) rfl))))|with_reducible apply Take.drop)) ?_
 rintro⟨i,W,u,q⟩ ⟨hi,hg,hr,hwl⟩
 dsimp only at hi hg hr hwl ⊢
 by_cases hil:i<L.length
 ·obtain⟨A',ro,h1,rfl,hp⟩:=hh (by omega)
  rw[drop_bang hil]at hr
  have hc1:(L.map sV)[0+((i:Int)).toNat*1]?=some (S L[i]!):=yM hil
  have hmg:=mget_plcs W L[i]!
  generalize L[i]! = w at *
  have hr:(if w∈W then wds W (L.drop (i+1))else wds (W++[w]) (L.drop (i+1)))=R:=hr
  have hwb:(W.map sV).length=W.length:=by simp
  by_cases hw:w∈W
  ·rw[if_pos hw]at hr hmg
   have hlk:(mget (plcs W) w).getD (I 0)=I (ixo w W:Int)∧(mget (plcs W) w).isSome=true:=by rw[hmg];exact⟨rfl,rfl⟩
   have hgt:=hg.has.2
   cases hg with
   |nil=>exact absurd hw (by simp)
   |some A1 _ =>
    repeat'(first|apply zF|apply zB|apply zE|refine jg ?_ ?_|(apply o_ar zC;exact rfl;exact rfl)|(apply yR;exact rfl;exact rfl)|(apply zM zC;(iterate 3 exact rfl);exact pk)|(apply o_lookupc (α:=List UInt8) zC;exact rfl;exact pk;exact rfl;exact Tryz.underlying262;exact Tryz.underlying9;exact keyS;exact rfl;exact rfl;(focus first|exact hlk))|(apply zS;exact rfl)|refine jd ?_|apply zA|apply zG|apply zI|apply zH|exact jO|((with_reducible apply Ln.mk);first|(simp[hlb,hwb];first|done|omega))|exact jW|((with_reducible apply Ce.mk);first|exact hc1)|exact True.intro|exact rfl)
    all_goals first
     |exact jX
     |exact⟨(i+1,W,_,_),⟨hil,.some A1 W,hr,by show W.length≤i+1;omega⟩,by show L.length-(i+1)<L.length-i;omega,jB,jK⟩
  ·rw[if_neg hw]at hr hmg
   have hlk:(mget (plcs W) w).getD (I 0)=I 0∧(mget (plcs W) w).isSome=false:=by rw[hmg];exact⟨rfl,rfl⟩
   have hmp:=mput_plcs hw
   cases hg with
   |nil =>
    repeat'(first|apply zF|apply zB|apply zE|refine jg ?_ ?_|(apply o_ar zC;exact rfl;exact rfl)|(apply yR;exact rfl;exact rfl)|(apply zM zC;(iterate 3 exact rfl);exact pk)|refine jb ?_|(apply o_append_nil zC;(iterate 5 exact rfl);exact⟨by decide⟩;exact pk)|(apply o_mapUpdate (α:=List UInt8);exact rfl;exact up;exact rfl;exact rfl;exact Tryz.underlying262;exact Tryz.underlying9;exact keyS)|(apply o_lookupc (α:=List UInt8) zC;exact rfl;exact pk;exact rfl;exact Tryz.underlying262;exact Tryz.underlying9;exact keyS;exact rfl;exact rfl;(focus first|exact hlk))|(apply yB;exact rfl)|refine jd ?_|apply zA|apply zG|apply zI|apply zH|exact jV|((with_reducible apply Ln.mk);first|rfl|(simp[hlb];first|done|omega))|exact jW|((with_reducible apply Ce.mk);first|exact hc1)|exact jU|exact True.intro|intro A|exact rfl)
    all_goals first
     |exact jX
     |exact⟨(i+1,[w],gsl A 0 1 1 1,(A,⟨[S w],false⟩)::h),⟨hil,.ofc (n:=1) (k:=1) rfl rfl rfl,hr,by show 1≤i+1;omega⟩,by show L.length-(i+1)<L.length-i;omega,jB,by show Take _ ((M,⟨mapC (fun l:List UInt8=>S l) (plcs ([]++[w])),false⟩)::_);rw[←hmp];exact jK⟩
   |some A1 _ =>
    repeat'(first|apply zF|apply zB|apply zE|refine jg ?_ ?_|(apply o_ar zC;exact rfl;exact rfl)|(apply yR;exact rfl;exact rfl)|(apply zM zC;(iterate 3 exact rfl);exact pk)|refine jb ?_|(apply o_append zC;(iterate 5 exact rfl);exact⟨by decide⟩;exact up;exact pk)|(apply o_mapUpdate (α:=List UInt8);exact rfl;exact up;exact rfl;exact rfl;exact Tryz.underlying262;exact Tryz.underlying9;exact keyS)|(apply o_lookupc (α:=List UInt8) zC;exact rfl;exact pk;exact rfl;exact Tryz.underlying262;exact Tryz.underlying9;exact keyS;exact rfl;exact rfl;(focus first|exact hlk))|(apply yB;exact rfl)|refine jd ?_|apply zA|apply zG|apply zI|apply zH|exact jV|((with_reducible apply Ln.mk);first|rfl|omega|(simp[hlb,hwb];first|done|omega))|exact jW|((with_reducible apply Ce.mk);first|exact hc1)|exact jU|exact True.intro|intro A|exact rfl)
    all_goals first
     |exact jX
     |exact⟨(i+1,W++[w],gsl A1 0 (W.length+1*1) (W.length+1) 1,(A1,⟨W.map sV++[S w],false⟩)::h),⟨hil,.ofc (n:=W.length+1) (k:=W.length+1*1) (by simp) (by simp) (by omega),hr,by show(W++[w]).length≤i+1;simp;omega⟩,by show L.length-(i+1)<L.length-i;omega,jB,by show Take _ ((M,⟨mapC (fun l:List UInt8=>S l) (plcs (W++[w])),false⟩)::_);rw[←hmp];exact jK⟩
 ·obtain rfl:i=L.length:=by omega
  rw[List.drop_length]at hr
  have hr:W=R:=hr
  subst hr
  cases hg with
  |nil=>exact absurd rfl hRn
  |some A1 _ =>
   repeat'(first|apply zF|apply zB|apply zE|refine jg ?_ ?_|refine jf ?_|apply zA|apply zK|apply zJ|apply zN|apply zV|exact jS|fail)
   all_goals first
    |exact jX
    |exact jF (k:=by exact⟨A1,M,rfl,rfl⟩)
theorem Dictionary_any (L:List (List UInt8))(v:Value)(h:SH)(hv:Has h (L.map sV) 1 L.length v)(hl:L.length≤4096)(h0:L≠[]) :
  SRun Tryz.prog 157 [v] h fun r q=>∃A,r=gsl A 0 (wds [] L).length (wds [] L).length 1∧q=(A,⟨(wds [] L).map sV,false⟩)::h:=by
 have hI:=fun h hv=>index_any L v h hv hl h0
 generalize wds [] L=W at *
 refine zR Tryz.func157 rfl rfl ?_
 repeat'(first|apply zF|apply zB|apply zE|refine jg ?_ ?_|(refine jc ?_ (c:=by exact⟨_,hI _ hv,jN⟩);rintro _ _ ⟨A1,M1,rfl,rfl⟩)|apply zA|apply zN|exact jS|fail)
 all_goals first
  |exact jF (k:=by exact⟨A1,rfl,rfl⟩)

theorem mem_wds :∀(L acc:List (List UInt8)) (w:List UInt8),w∈acc∨w∈L→w∈wds acc L
 |[],acc,w,h=>by
  rcases h with h|h
  ·exact h
  ·cases h
 |a::r,acc,w,h=>by
  show w∈(if a∈acc then wds acc r else wds (acc++[a]) r)
  have h:w∈acc∨w=a∨w∈r:=by
   rcases h with h|h
   ·exact .inl h
   ·exact .inr (List.mem_cons.1 h)
  split
  ·rename_i ha
   refine mem_wds r acc w ?_
   rcases h with h|h|h
   ·exact .inl h
   ·subst h;exact .inl ha
   ·exact .inr h
  ·refine mem_wds r _ w ?_
   rcases h with h|h|h
   ·exact .inl (List.mem_append_left _ h)
   ·subst h;exact .inl (by simp)
   ·exact .inr h
theorem ixo_le (w:List UInt8):∀W,ixo w W≤W.length
 |[]=>Nat.le_refl _
 |a::r=>by
  show(if a=w then 0 else ixo w r+1)≤r.length+1
  have:=ixo_le w r
  split
  ·omega
  ·omega
def bump :List (Int × Int)→List (Int × Int)
 |[]=>[]
 |[x]=>[(x.1,x.2+1)]
 |x::y::r=>x::bump (y::r)
theorem bump_snoc :∀(l:List (Int × Int)) (a c:Int),bump (l++[(a,c)])=l++[(a,c+1)]
 |[],_,_=>rfl
 |[x],_,_=>rfl
 |x::y::r,a,c=>by
  show x::bump (y::r++[(a,c)])=x::(y::r++[(a,c+1)])
  rw[bump_snoc (y::r)]
def rnR (W L:List (List UInt8)):Nat→List (Int × Int)
 |0=>[]
 |i+1=>if 0<i∧L[i-1]! = L[i]! then bump (rnR W L i)else rnR W L i++[(((ixo L[i]! W:Nat):Int),(1:Int))]
theorem snoc_of {α:Type}{l:List α}(h:l≠[]):∃l' x,l=l'++[x]:=⟨l.dropLast,l.getLast h,(List.dropLast_concat_getLast h).symm⟩
theorem rnR_ok (W L:List (List UInt8)):∀i,(0<i→rnR W L i≠[])∧(rnR W L i).length≤i∧∀x∈rnR W L i,0≤x.1∧x.1≤W.length∧1≤x.2∧x.2≤i
 |0=>⟨fun h=>absurd h (by omega),Nat.le_refl _,fun x hx=>by cases hx⟩
 |i+1=>by
  obtain⟨h1,h2,h3⟩:=rnR_ok W L i
  by_cases hc:0<i∧L[i-1]! = L[i]!
  ·have e:rnR W L (i+1)=bump (rnR W L i):=if_pos hc
   obtain⟨l,⟨a,c⟩,hl⟩:=snoc_of (h1 hc.1)
   rw[e,hl,bump_snoc]
   rw[hl]at h2 h3
   refine⟨fun _=>by simp,by simp at h2 ⊢;omega,fun x hx=>?_⟩
   rcases List.mem_append.1 hx with hx|hx
   ·have:=h3 x (List.mem_append_left _ hx);exact⟨this.1,this.2.1,this.2.2.1,by have:=this.2.2.2;omega⟩
   ·obtain rfl:x=(a,c+1):=by simpa using hx
    have:=h3 (a,c) (by simp)
    dsimp only at this ⊢
    exact⟨this.1,this.2.1,by omega,by omega⟩
  ·have e:rnR W L (i+1)=rnR W L i++[(((ixo L[i]! W:Nat):Int),(1:Int))]:=if_neg hc
   rw[e]
   refine⟨fun _=>by simp,by simp;omega,fun x hx=>?_⟩
   rcases List.mem_append.1 hx with hx|hx
   ·have:=h3 x hx;exact⟨this.1,this.2.1,this.2.2.1,by have:=this.2.2.2;omega⟩
   ·obtain rfl:x=(((ixo L[i]! W:Nat):Int),1):=by simpa using hx
    have:=ixo_le L[i]! W
    exact⟨by dsimp only;omega,by dsimp only;omega,Int.le_refl _,by dsimp only;omega⟩
inductive GrP (h:SH):List (Int × Int)→Value→SH→Prop
 |nil:GrP h [] (.slice none 0 0) h
 |some (A:Nat) (l:List (Int × Int)):GrP h l (gsl A 0 (2*l.length) l.length 2) ((A,⟨recs prF l,false⟩)::h)
theorem GrP.ofc {h:SH}{A n k:Nat}{l:List (Int × Int)}{c:List Value}(hc:c=recs prF l)(hn:l.length=n)(hk:k=2*n):GrP h l (gsl A 0 k n 2) ((A,⟨c,false⟩)::h):=by
 subst hc hn hk;exact .some A l
theorem prl (l:List (Int × Int)):(recs prF l).length=2*l.length:=by rw[recs_len (f:=prF) (w:=2) (fun _=>rfl),Nat.mul_comm]
theorem cell_last (l:List (Int × Int))(a c:Int):(recs prF (l++[(a,c)]))[0+(((l++[(a,c)]).length:Int)-1).toNat*2+1]?=some (I c):=by
 have e:(((l++[(a,c)]).length:Int)-1).toNat=l.length:=by simp
 rw[e,recs_app]
 rw[List.getElem?_append_right (by rw[prl];omega),prl,show 0+l.length*2+1-2*l.length=1 by omega];rfl
theorem tset_last (l:List (Int × Int))(a c d:Int):SetAt (recs prF (l++[(a,c)])) (0+(((l++[(a,c)]).length:Int)-1).toNat*2+1) (I d) (recs prF (l++[(a,d)])):=by
 have e:(((l++[(a,c)]).length:Int)-1).toNat=l.length:=by simp
 rw[e,recs_app,recs_app]
 have h1:(recs prF l++recs prF [(a,c)]).set (0+l.length*2+1) (I d)=recs prF l++recs prF [(a,d)]:=by
  rw[List.set_append_right _ _ (by rw[prl];omega),prl,show 0+l.length*2+1-2*l.length=1 by omega];rfl
 rw[←h1]
 exact SetAt.any (by rw[List.length_append,prl];show _<_+2;omega)
set_option maxHeartbeats 2000000 in
theorem Runs_any' (L:List (List UInt8))(v:Value)(h:SH)(hv:Has h (L.map sV) 1 L.length v)(hl:L.length≤4096)(h0:L≠[]) :
  SRun Tryz.prog 158 [v] h fun r q=>∃A,r=gsl A 0 (2*(rnR (wds [] L) L L.length).length) (rnR (wds [] L) L L.length).length 2∧q=(A,⟨recs prF (rnR (wds [] L) L L.length),false⟩)::h:=by
 obtain⟨ad,fl,rfl,hh⟩:=id hv
 have hI:=fun h hv=>index_any L (.slice ad L.length fl) h hv hl h0
 have hmw:=fun w (hw:w∈L)=>mem_wds L [] w (.inr hw)
 have hlb:(L.map sV).length=L.length:=by simp
 have hL0:0<L.length:=List.length_pos_iff.2 h0
 generalize wds [] L=W at *
 have hok:=rnR_ok W L
 refine zR Tryz.func158 rfl rfl ?_
 repeat'(first|apply zF|apply zB|apply zE|refine jg ?_ ?_|(refine jc ?_ (c:=by exact⟨_,hI _ hv,jN⟩);rintro _ _ ⟨A1,M1,rfl,rfl⟩)|apply zA|apply zH|exact jS|fail)
 all_goals first|(exfalso;omega)|skip
 refine zZ (S:=Nat × Value × SH) (fun s=>[(0,.slice ad L.length fl),(4,.map (some M1)),(5,s.2.1),(13,.slice ad L.length fl),(14,I L.length),(15,I s.1)])
  (fun s=>(M1,⟨mS W,false⟩)::s.2.2) (fun s=>s.1≤L.length∧GrP h (rnR W L s.1) s.2.1 s.2.2) (fun s=>L.length-s.1) (0,.slice none 0 0,h) ⟨Nat.zero_le _,.nil⟩ jB jK ?_
 rintro⟨i,u,q⟩ ⟨hi,hg⟩
 dsimp only at hi hg ⊢
 by_cases hil:i<L.length
 ·obtain⟨A',ro,h1,rfl,hp⟩:=hh (by omega)
  obtain⟨k1,k2,k3⟩:=hok i
  have hmem:=hmw _ (mm_bang hil)
  have hmg:=mget_plcs W L[i]!
  rw[if_pos hmem]at hmg
  have hlk:(mget (plcs W) L[i]!).getD (I 0)=I (ixo L[i]! W:Int):=by rw[hmg];rfl
  have hc1:(L.map sV)[0+((i:Int)).toNat*1]?=some (S L[i]!):=yM hil
  have hc2:0<i→(L.map sV)[0+((i:Int)-1).toNat*1]?=some (S L[i-1]!):=fun h=>by
   rw[show((i:Int)-1).toNat=i-1 by omega];exact cell_map (by omega)
  by_cases hc:0<i∧L[i-1]! = L[i]!
  ·have e:rnR W L (i+1)=bump (rnR W L i):=if_pos hc
   have hc2:=hc2 hc.1
   obtain⟨l,⟨a,c⟩,hla⟩:=snoc_of (k1 hc.1)
   rw[hla]at hg k2 k3 e
   rw[bump_snoc]at e
   have hcb:=k3 (a,c) (by simp)
   dsimp only at hcb
   rw[hc.2]at hc2
   have hi0:=hc.1
   clear hc k1 k3 hok
   generalize L[i]! = w at *
   have hcl:=cell_last l a c
   have hsl:=tset_last l a c (c+1)
   have hpl:=prl (l++[(a,c)])
   have hlen:1≤(l++[(a,c)]).length:=by simp
   generalize hO:l++[(a,c)]=O at *
   cases hg with
   |nil=>exact absurd hlen (by decide)
   |some A2 _ =>
    repeat'(first|apply zF|apply zB|apply zE|refine jg ?_ ?_|(apply o_ar zC;exact rfl;exact rfl)|(apply zM zC;(iterate 3 exact rfl);exact pk)|(apply zX zC;(iterate 4 exact rfl);exact up)|refine jw ?_|refine jh ?_|(apply yC;exact rfl;(focus first|with_reducible exact rfl|omega))|apply zA|apply zK|apply zJ|apply zI|apply zV|apply zH|exact jO|((with_reducible apply Ln.mk);first|omega|(simp[hlb,hpl];first|done|omega))|exact jW|((with_reducible apply Ce.mk);first|exact hc1|exact hc2|exact hcl)|((with_reducible apply Se.mk);first|exact hsl)|exact True.intro|exact rfl)
    all_goals first
     |exact jX
     |exact⟨(i+1,gsl A2 0 (2*O.length) O.length 2,(A2,⟨recs prF (l++[(a,c+1)]),false⟩)::h),⟨hil,by show GrP h (rnR W L (i+1)) _ _;rw[e];exact .ofc rfl (by rw[←hO];simp) rfl⟩,by show L.length-(i+1)<L.length-i;omega,jB,jK⟩
  ·have e:rnR W L (i+1)=rnR W L i++[(((ixo L[i]! W:Nat):Int),(1:Int))]:=if_neg hc
   have hne:0<i→L[i-1]!≠L[i]!:=fun h g=>hc ⟨h,g⟩
   have hpl:=prl (rnR W L i)
   have hxl:=ixo_le L[i]! W
   have k1:0<i→rnR W L i≠[]:=k1
   clear hok k3
   generalize rnR W L i=O at *
   generalize L[i]! = w at *
   generalize L[i-1]! = w1 at *
   by_cases hi0:i=0
   ·subst hi0
    cases hg with
    |nil =>
     repeat'(first|apply zF|apply zB|apply zE|refine jg ?_ ?_|(apply o_ar zC;exact rfl;exact rfl)|(apply zM zC;(iterate 3 exact rfl);exact pk)|(apply yT zC;exact rfl;exact rfl;(focus first|with_reducible exact pl209);exact rfl;(focus repeat(first|exact BuildR.nil|(apply BuildR.one;exact rfl;exact rfl;(first|(focus(repeat(first|exact SetAt.zero|apply SetAt.succ));done)))));exact rfl)|(apply zT zC;(iterate 5 exact rfl);decide;exact rfl;decide;(focus repeat(first|exact CatR.last rfl));exact rfl)|(apply o_append_nil zC;(iterate 5 exact rfl);exact⟨by decide⟩;exact pk)|(apply o_lookup (α:=List UInt8) zC;exact rfl;exact pk;exact rfl;exact Tryz.underlying262;exact Tryz.underlying9;exact keyS;exact rfl;exact rfl;(focus first|exact hlk))|refine jk ?_|(apply zS;exact rfl)|refine jd ?_|apply zA|apply zG|apply zI|apply zH|exact jV|((with_reducible apply Ln.mk);first|rfl|(simp[hlb];first|done|omega))|exact jW|((with_reducible apply Ce.mk);first|exact hc1)|exact jU|exact True.intro|intro A|exact rfl)
     all_goals first
      |exact jX
      |exact⟨(1,gsl A 0 2 1 2,(A,⟨[I (ixo w W),I 1],false⟩)::h),⟨by omega,by show GrP h (rnR W L (0+1)) _ _;rw[e];exact .ofc rfl rfl rfl⟩,by omega,jB,jK⟩
    |some A2 _ =>
     repeat'(first|apply zF|apply zB|apply zE|refine jg ?_ ?_|(apply o_ar zC;exact rfl;exact rfl)|(apply zM zC;(iterate 3 exact rfl);exact pk)|(apply yT zC;exact rfl;exact rfl;(focus first|with_reducible exact pl209);exact rfl;(focus repeat(first|exact BuildR.nil|(apply BuildR.one;exact rfl;exact rfl;(first|(focus(repeat(first|exact SetAt.zero|apply SetAt.succ));done)))));exact rfl)|(apply zT zC;(iterate 5 exact rfl);decide;exact rfl;decide;(focus repeat(first|exact CatR.last rfl));exact rfl)|(apply o_append zC;(iterate 5 exact rfl);exact⟨by decide⟩;exact up;exact pk)|(apply o_lookup (α:=List UInt8) zC;exact rfl;exact pk;exact rfl;exact Tryz.underlying262;exact Tryz.underlying9;exact keyS;exact rfl;exact rfl;(focus first|exact hlk))|refine jk ?_|(apply zS;exact rfl)|refine jd ?_|apply zA|apply zG|apply zI|apply zH|exact jV|((with_reducible apply Ln.mk);first|rfl|omega|(simp[hlb,hpl];first|done|omega))|exact jW|((with_reducible apply Ce.mk);first|exact hc1)|exact jU|exact True.intro|intro A|exact rfl)
     all_goals first
      |exact jX
      |exact⟨(1,gsl A2 0 (2*O.length+1*2) (O.length+1) 2,(A2,⟨recs prF O++[I (ixo w W),I 1],false⟩)::h),⟨by omega,by show GrP h (rnR W L (0+1)) _ _;rw[e];exact .ofc (yI rfl) (by simp) (by omega)⟩,by omega,jB,jK⟩
   ·have hc2:=hc2 (by omega)
    have hne:=hne (by omega)
    cases hg with
    |nil=>exact absurd rfl (k1 (by omega))
    |some A2 _ =>
     repeat'(first|apply zF|apply zB|apply zE|refine jg ?_ ?_|(apply o_ar zC;exact rfl;exact rfl)|(apply zM zC;(iterate 3 exact rfl);exact pk)|(apply yT zC;exact rfl;exact rfl;(focus first|with_reducible exact pl209);exact rfl;(focus repeat(first|exact BuildR.nil|(apply BuildR.one;exact rfl;exact rfl;(first|(focus(repeat(first|exact SetAt.zero|apply SetAt.succ));done)))));exact rfl)|(apply zT zC;(iterate 5 exact rfl);decide;exact rfl;decide;(focus repeat(first|exact CatR.last rfl));exact rfl)|(apply o_append zC;(iterate 5 exact rfl);exact⟨by decide⟩;exact up;exact pk)|(apply o_lookup (α:=List UInt8) zC;exact rfl;exact pk;exact rfl;exact Tryz.underlying262;exact Tryz.underlying9;exact keyS;exact rfl;exact rfl;(focus first|exact hlk))|refine jw ?_|refine jh ?_|refine jd ?_|refine jf ?_|apply zA|apply zG|apply zI|apply zH|exact jV|((with_reducible apply Ln.mk);first|rfl|omega|(simp[hlb,hpl];first|done|omega))|exact jW|((with_reducible apply Ce.mk);first|exact hc1|exact hc2)|exact jU|exact True.intro|intro A|exact rfl)
     all_goals first
      |exact jX
      |exact⟨(i+1,gsl A2 0 (2*O.length+1*2) (O.length+1) 2,(A2,⟨recs prF O++[I (ixo w W),I 1],false⟩)::h),⟨hil,by show GrP h (rnR W L (i+1)) _ _;rw[e];exact .ofc (yI rfl) (by simp) (by omega)⟩,by show L.length-(i+1)<L.length-i;omega,jB,jK⟩
 ·obtain rfl:i=L.length:=by omega
  obtain⟨k1,k2,k3⟩:=hok L.length
  generalize rnR W L L.length=O at *
  cases hg with
  |nil=>exact absurd rfl (k1 hL0)
  |some A2 _ =>
   repeat'(first|apply zF|apply zB|apply zE|refine jg ?_ ?_|refine jf ?_|apply zA|apply zK|apply zJ|apply zN|apply zV|exact jS|fail)
   all_goals first
    |exact jX
    |exact jF (k:=by exact⟨A2,rfl,rfl⟩)

def rowL :List Int:=(List.range 4096).map fun i:Nat=>(i:Int)
theorem rowL_ok :rowL.length=4096∧(∀i:Nat,i<4096→rowL[i]! = (i:Int))∧∀x:Int,0≤x→x<4096→x∈rowL:=by
 have h1:rowL.length=4096:=by unfold rowL;rw[List.length_map,List.length_range]
 refine⟨h1,fun i hi=>?_,fun x h0 hx=>?_⟩
 ·rw[getElem!_pos _ i (by rw[h1];exact hi)];unfold rowL;rw[List.getElem_map,List.getElem_range]
 ·unfold rowL
  exact List.mem_map.2 ⟨x.toNat,List.mem_range.2 (by omega),by omega⟩
theorem row_any (h:SH):SRun Tryz.prog 235 [] h fun r q=>∃A,r=gsl A 0 4096 4096 1∧q=(A,⟨nodes rowL,false⟩)::h:=by
 obtain⟨hgl,hbg,_⟩:=rowL_ok
 generalize rowL=X at *
 have hz:zrow (I 0) ((4096:Int).toNat*1)=nodes (X.take 0++List.replicate (X.length-0) 0):=by
  rw[List.take_zero,List.nil_append,Nat.sub_zero,hgl];exact map_zrow (f:=iV) 0 rfl rfl _
 obtain⟨n,hn⟩:∃n,n=4096:=⟨_,rfl⟩
 refine w_body0 Tryz.func235 rfl rfl ?_
 repeat'(first|apply zF|apply zB|apply zE|refine jg ?_ ?_|(apply o_makeSlice zC;(iterate 6 exact rfl);decide;omega;(focus first|exact hz);exact rfl)|apply zA|apply zH|exact jS|intro A)
 all_goals first|(exfalso;omega)|skip
 refine zZ (S:=Nat) (fun i=>[(1,gsl A 0 4096 4096 1),(5,I 4096),(6,I i)])
  (fun i=>(A,⟨nodes (X.take i++List.replicate (X.length-i) 0),false⟩)::h) (fun i=>i≤n) (fun i=>n-i) 0 (Nat.zero_le _) jB jK ?_
 rintro i hi
 by_cases hil:i<n
 ·have hst:=set_prog (X:=X) (z:=0) (i:=i) (by omega)
  rw[hbg i (by omega)]at hst
  have hml:(X.take i++List.replicate (X.length-i) 0).length=4096:=by simp;omega
  have hlen:(nodes (X.take i++List.replicate (X.length-i) 0)).length=4096:=by rw[List.length_map,hml]
  have hset:SetAt (nodes (X.take i++List.replicate (X.length-i) 0)) (0+((i:Int)).toNat*1) (I i) (nodes (X.take (i+1)++List.replicate (X.length-(i+1)) 0)):=by
   rw[←hst];exact setAt_mapZ (by omega)
  repeat'(first|apply zF|apply zB|apply zE|refine jg ?_ ?_|(apply o_ar zC;exact rfl;exact rfl)|(apply zX zC;(iterate 4 exact rfl);exact up)|refine jd ?_|apply zA|apply zG|apply zI|apply zH|exact jO|((with_reducible apply Ln.mk);first|omega)|exact jW|((with_reducible apply Se.mk);first|exact hset)|exact True.intro)
  all_goals first
   |(exfalso;omega)
   |exact⟨i+1,hil,by show n-(i+1)<n-i;omega,jB,jK⟩
 ·have hin:i=n:=by omega
  have hfin:X.take i++List.replicate (X.length-i) 0=X:=by rw[show i=X.length by omega,List.take_length,Nat.sub_self];simp
  rw[hfin]
  repeat'(first|apply zF|apply zB|apply zE|refine jg ?_ ?_|refine jf ?_|apply zA|apply zK|apply zJ|apply zN|apply zV|exact jS|fail)
  all_goals first
   |(exfalso;omega)
   |exact jF (k:=by exact⟨A,rfl,rfl⟩)
def ixn (x:Int):List Int→Nat
 |[]=>0
 |a::r=>if x=a then 0 else ixn x r+1
theorem ixn_lt {x:Int}:∀{X:List Int},x∈X→ixn x X<X.length
 |[],h=>by cases h
 |a::r,h=>by
  show(if x=a then 0 else ixn x r+1)<r.length+1
  by_cases e:x=a
  ·rw[if_pos e];omega
  ·rw[if_neg e]
   have:=ixn_lt (X:=r) ((List.mem_cons.1 h).resolve_left e)
   omega
theorem Index_any (X:List Int)(x:Int)(v:Value)(h:SH)(hv:Has h (nodes X) 1 X.length v)(hl:X.length≤4096)(hx:x∈X) :
  SRun Tryz.prog 201 [v,I x] h fun r q=>r=I (ixn x X)∧q=h:=by
 obtain⟨ad,fl,rfl,hh⟩:=hv
 have hlb:(nodes X).length=X.length:=by simp
 obtain⟨R,hR⟩:∃R,ixn x X=R:=⟨_,rfl⟩
 rw[hR]
 refine zY Tryz.func201 rfl rfl ?_
 repeat'(first|apply zF|apply zB|apply zE|refine jg ?_ ?_|apply zA|apply zH|exact jS|fail)
 all_goals first|(exfalso;omega)|skip
 refine zZ (S:=Nat) (fun i=>[(0,.slice ad X.length fl),(1,I x),(7,I X.length),(8,I i)]) (fun _=>h) (fun i=>i≤X.length∧i+ixn x (X.drop i)=R∧x∈X.drop i) (fun i=>X.length-i) 0 ⟨Nat.zero_le _,by rw[List.drop_zero,hR,Nat.zero_add],by rw[List.drop_zero];exact hx⟩ jB jK ?_
 rintro i ⟨hi,hr,hm⟩
 by_cases hil:i<X.length
 ·obtain⟨A',ro,h1,rfl,hp⟩:=hh (by omega)
  rw[drop_bang hil]at hr hm
  have hc1:(nodes X)[0+((i:Int)).toNat*1]?=some (I X[i]!):=yM hil
  generalize X[i]! = y at *
  have hr:i+(if x=y then 0 else ixn x (X.drop (i+1))+1)=R:=hr
  by_cases hxy:x=y
  ·rw[if_pos hxy]at hr
   repeat'(first|apply zF|apply zB|apply zE|refine jg ?_ ?_|(apply zM zC;(iterate 3 exact rfl);exact pk)|(apply yC;exact rfl;(focus first|exact ‹_›|omega))|apply zA|apply zP|apply yP|apply zI|apply zN|apply zH|exact jO|((with_reducible apply Ln.mk);first|(simp[hlb];first|done|omega))|((with_reducible apply Ce.mk);first|exact hc1)|exact True.intro|exact rfl)
   all_goals first
    |exact jX
    |exact jF (k:=by exact⟨congrArg I (by omega),rfl⟩)
  ·rw[if_neg hxy]at hr
   have hm:=(List.mem_cons.1 hm).resolve_left hxy
   repeat'(first|apply zF|apply zB|apply zE|refine jg ?_ ?_|(apply o_ar zC;exact rfl;exact rfl)|(apply zM zC;(iterate 3 exact rfl);exact pk)|refine jd ?_|refine jf ?_|apply zA|apply zG|apply zI|apply zH|exact jO|((with_reducible apply Ln.mk);first|(simp[hlb];first|done|omega))|exact jW|((with_reducible apply Ce.mk);first|exact hc1)|exact True.intro|exact rfl)
   all_goals first
    |exact jX
    |exact⟨i+1,⟨hil,by omega,hm⟩,by show X.length-(i+1)<X.length-i;omega,jB,jK⟩
 ·exfalso
  rw[show i=X.length by omega,List.drop_length]at hm
  cases hm
theorem Front1_any (X:List Int)(x:Int)(v:Value)(h:SH)(hv:Has h (nodes X) 1 X.length v)(hl:X.length≤4096)(hx:x∈X) :
  SRun Tryz.prog 200 [v,I x] h fun r q=>r=.tuple #[I (ixn x X),I (ixn x X)]∧q=h:=by
 have hI:=fun h hv=>Index_any X x v h hv hl hx
 generalize ixn x X=k at *
 refine zY Tryz.func200 rfl rfl ?_
 repeat'(first|apply zF|apply zB|apply zE|refine jg ?_ ?_|refine jq ?_ (c:=by exact⟨_,hI _ hv,jN⟩)|apply zA|apply zN|exact jS|fail)
 all_goals first
  |exact jG
def mv (X:List Int)(p:Nat):List Int:=X[p]!::(X.take p++X.drop (p+1))
theorem mv_len {X:List Int}{p:Nat}(h:p<X.length):(mv X p).length=X.length:=by
 unfold mv;simp;omega
theorem mv_mem {X:List Int}{p:Nat}(h:p<X.length)(x:Int)(hx:x∈X):x∈mv X p:=by
 have e:X=X.take p++X[p]!::X.drop (p+1):=by rw[←drop_bang h,List.take_append_drop]
 rw[e]at hx
 unfold mv
 rcases List.mem_append.1 hx with hx|hx
 ·exact List.mem_cons_of_mem _ (List.mem_append_left _ hx)
 ·rcases List.mem_cons.1 hx with hx|hx
  ·rw[hx];exact List.mem_cons_self
  ·exact List.mem_cons_of_mem _ (List.mem_append_right _ hx)
theorem move_any (X:List Int)(p:Nat)(A:Nat)(h:SH)(hl:X.length≤4096)(hp:p<X.length) :
  SRun Tryz.prog 236 [gsl A 0 X.length X.length 1,I p] ((A,⟨nodes X,false⟩)::h) fun r q=>r=gsl A 0 X.length X.length 1∧q=(A,⟨nodes (mv X p),false⟩)::h:=by
 have hlb:(nodes X).length=X.length:=by simp
 have hc1:(nodes X)[0+((p:Int)).toNat*1]?=some (I X[p]!):=yM hp
 obtain⟨Y,hY⟩:∃Y,Y=X.take 1++X.take p++X.drop (p+1):=⟨_,rfl⟩
 have hyl:Y.length=X.length:=by rw[hY];simp;omega
 have hylb:(nodes Y).length=X.length:=by rw[List.length_map,hyl]
 have hset:SetAt (nodes Y) (0+(0:Int).toNat*1) (I X[p]!) (nodes (mv X p)):=by
  have e:mv X p=Y.set 0 X[p]!:=by
   cases X with
   |nil=>exact absurd hp (by simp)
   |cons a r=>rw[hY];rfl
  rw[e];exact setAt_map (i:=0) (by omega)
 by_cases hp0:p=0
 ·subst hp0
  have hYX:Y=X:=by
   rw[hY];cases X with
   |nil=>rfl
   |cons a r=>rfl
  rw[hYX]at hset
  refine zY Tryz.func236 rfl rfl ?_
  repeat'(first|apply zF|apply zB|apply zE|refine jr ?_|refine jg ?_ ?_|(apply o_ar zC;exact rfl;exact rfl)|(apply zM zC;(iterate 3 exact rfl);exact pk)|(apply zX zC;(iterate 4 exact rfl);exact up)|(apply o_copy0 zC;iterate 4 exact rfl)|(apply o_slice3e zC;iterate 6 exact rfl)|(apply o_slice3f zC;iterate 5 exact rfl)|apply zA|apply zN|exact jO|((with_reducible apply Ln.mk);first|omega)|exact jW|((with_reducible apply Ce.mk);first|exact hc1)|((with_reducible apply Se.mk);first|exact hset)|exact True.intro|exact rfl)
  all_goals first
   |exact jX
   |exact jG
 ·have htl:(nodes (X.take p)).length=p:=by rw[List.length_map,List.length_take];omega
  have hsub:SubAt (nodes X) 0 (nodes (X.take p)):=fun i u hu=>by
   have e:nodes X=nodes (X.take p)++nodes (X.drop p):=by rw[←List.map_append,List.take_append_drop]
   rw[e,Nat.zero_add,List.getElem?_append_left (List.getElem?_eq_some_iff.1 hu).1];exact hu
  have hput:PutAt (nodes X) (0+(1:Int).toNat*1) (nodes (X.take p)) (nodes Y):=by
   refine⟨by rw[htl,hlb];show 0+1*1+p≤X.length;omega,?_⟩
   unfold lset
   rw[htl,hY]
   show _=(nodes X).take 1++_++(nodes X).drop (1+p)
   rw[Nat.add_comm 1 p]
   simp only[List.map_append,List.map_take,List.map_drop]
  refine zY Tryz.func236 rfl rfl ?_
  repeat'(first|apply zF|apply zB|apply zE|refine jr ?_|refine jg ?_ ?_|(apply o_ar zC;exact rfl;exact rfl)|(apply zM zC;(iterate 3 exact rfl);exact pk)|(apply zX zC;(iterate 4 exact rfl);exact up)|(apply o_copyf zC;(iterate 4 exact rfl);exact up;exact pk)|(apply o_slice3f zC;iterate 5 exact rfl)|(apply o_slice3 zC;iterate 6 exact rfl)|apply zA|apply zN|exact jO|((with_reducible apply Ln.mk);first|omega|(simp[hlb,htl,hylb];first|done|omega))|exact jW|((with_reducible apply Ce.mk);first|exact hc1)|((with_reducible apply Se.mk);first|exact hset)|((with_reducible apply Pu.mk);first|exact hput)|((with_reducible apply Su.mk);first|exact hsub)|exact all_map (fun _=>rfl)|exact True.intro|apply And.intro|exact rfl)
  all_goals first
   |exact jX
   |exact jG

def frs :List Int→List Int→List Int
 |_,[]=>[]
 |X,n::r=>(ixn n X:Int)::frs (mv X (ixn n X)) r
theorem frs_len :∀(L X:List Int),(frs X L).length=L.length
 |[],_=>rfl
 |n::r,X=>congrArg (·+1) (frs_len r _)
theorem each_any (L:List Int)(v:Value)(h:SH)(hv:Has h (nodes L) 1 L.length v)(hl:L.length≤4096)(hb:∀x∈L,0≤x∧x<4096) :
  SRun Tryz.prog 199 [v,.func (.func 200) #[] #[]] h fun r q=>∃A,r=.tuple #[gsl A 0 L.length L.length 1,I 0]∧q=(A,⟨nodes (frs rowL L),false⟩)::h:=by
 obtain⟨ad,fl,rfl,hh⟩:=hv
 have hlb:(nodes L).length=L.length:=by simp
 obtain⟨hr1,_,hr3⟩:=rowL_ok
 have hrow:=row_any
 have hgl:=frs_len L rowL
 obtain⟨R,hR⟩:∃R,frs rowL L=R:=⟨_,rfl⟩
 rw[hR]at hgl ⊢
 generalize rowL=X0 at *
 have hz:zrow (I 0) (((L.length:Nat):Int).toNat*1)=nodes (R.take 0++List.replicate (R.length-0) 0):=by
  rw[List.take_zero,List.nil_append,Nat.sub_zero,hgl];exact map_zrow (f:=iV) 0 rfl rfl _
 refine zY Tryz.func199 rfl rfl ?_
 repeat'(first|apply zF|apply zB|apply zE|refine jg ?_ ?_|refine jf ?_|apply zA|apply zI|apply zH|exact jS|fail)
 all_goals first|(exfalso;omega)|skip
 refine zZ (S:=Nat) (fun i=>[(0,.slice ad L.length fl),(1,.func (.func 200) #[] #[]),(17,.slice ad L.length fl),(18,I L.length),(19,I i)]) (fun _=>h) (fun i=>i≤L.length) (fun i=>L.length-i) 0 (Nat.zero_le _) jB jK ?_
 rintro i hi
 by_cases hil:i<L.length
 ·obtain⟨A',ro,h1,rfl,hp⟩:=hh (by omega)
  have hc1:(nodes L)[0+((i:Int)).toNat*1]?=some (I L[i]!):=yM hil
  have hxi:=ihas_bang hb hil
  generalize L[i]! = x at *
  repeat'(first|apply zF|apply zB|apply zE|refine jg ?_ ?_|(apply o_ar zC;exact rfl;exact rfl)|(apply zM zC;(iterate 3 exact rfl);exact pk)|refine jw ?_|refine ji ?_|refine jd ?_|refine jf ?_|apply zA|apply zG|apply zI|apply zH|exact jO|((with_reducible apply Ln.mk);first|(simp[hlb];first|done|omega))|exact jW|((with_reducible apply Ce.mk);first|exact hc1)|exact True.intro|exact rfl)
  all_goals first
   |(exfalso;omega)
   |exact⟨i+1,hil,by show L.length-(i+1)<L.length-i;omega,jB,jK⟩
 ·obtain rfl:i=L.length:=by omega
  repeat'(first|apply zF|apply zB|apply zE|refine jg ?_ ?_|(apply o_makeSlice zC;(iterate 6 exact rfl);decide;omega;(focus first|exact hz);exact rfl)|(refine jc ?_ (c:=by exact⟨_,hrow _,jN⟩);rintro _ _ ⟨A8,rfl,rfl⟩)|refine jf ?_|apply zA|apply zK|apply zJ|apply zV|apply zH|exact jS|intro A)
  all_goals first|(exfalso;omega)|skip
  revert A;intro A9
  refine zZ (S:=Nat × List Int) (fun s=>[(0,.slice ad L.length fl),(1,.func (.func 200) #[] #[]),(8,gsl A8 0 4096 4096 1),(9,gsl A9 0 (L.length*1) L.length 1),(34,.slice ad L.length fl),(35,I L.length),(36,I s.1)])
   (fun s=>(A8,⟨nodes s.2,false⟩)::(A9,⟨nodes (R.take s.1++List.replicate (R.length-s.1) 0),false⟩)::h) (fun s=>s.1≤L.length∧s.2.length=4096∧(∀x:Int,0≤x→x<4096→x∈s.2)∧R.drop s.1=frs s.2 (L.drop s.1)) (fun s=>L.length-s.1) (0,X0) ⟨Nat.zero_le _,hr1,hr3,hR.symm⟩ jB jK ?_
  rintro⟨i,X⟩ ⟨hi,hxl,hxm,hd⟩
  clear hr1 hr3 hR hrow
  dsimp only at hi hxl hxm hd ⊢
  by_cases hil:i<L.length
  ·obtain⟨A',ro,h1,rfl,hp⟩:=hh (by omega)
   rw[drop_bang hil,drop_bang (show i<R.length by omega)]at hd
   obtain⟨hd1,hd2⟩:=List.cons.inj hd
   have hst:=set_prog (X:=R) (z:=0) (i:=i) (by omega)
   have hxi:=ihas_bang hb hil
   have hc1:(nodes L)[0+((i:Int)).toNat*1]?=some (I L[i]!):=yM hil
   rw[hd1]at hst
   generalize L[i]! = x at *
   have hxx:=hxm x hxi.1 hxi.2
   have hF:=fun v h hv=>Front1_any X x v h hv (by omega) hxx
   have hlt:=ixn_lt hxx
   have hml:=mv_len hlt
   have hmm:=mv_mem hlt
   generalize ixn x X=p at *
   have hM:=fun h=>move_any X p A8 h (by omega) hlt
   rw[hxl]at hM
   generalize hZ:mv X p=Z at *
   have hlm:(R.take i++List.replicate (R.length-i) 0).length=L.length:=by simp;omega
   have hlen:(nodes (R.take i++List.replicate (R.length-i) 0)).length=L.length*1:=by rw[List.length_map,hlm,Nat.mul_one]
   have hset:SetAt (nodes (R.take i++List.replicate (R.length-i) 0)) (0+((i:Int)).toNat*1) (I p) (nodes (R.take (i+1)++List.replicate (R.length-(i+1)) 0)):=by
    rw[←hst];exact setAt_mapZ (by omega)
   repeat'(first|apply zF|apply zB|apply zE|refine jg ?_ ?_|(apply o_ar zC;exact rfl;exact rfl)|(apply zM zC;(iterate 3 exact rfl);exact pk)|(apply zX zC;(iterate 4 exact rfl);exact up)|refine jq ?_ (c:=by exact⟨_,hF _ _ (hasX hxl .head),jN⟩)|refine jq ?_ (c:=by exact⟨_,hM _,jN⟩)|refine jd ?_|apply zA|apply zG|apply zI|apply zH|exact jO|((with_reducible apply Ln.mk);first|omega|(simp[hlb,hlen];first|done|omega))|exact jW|((with_reducible apply Ce.mk);first|exact hc1)|((with_reducible apply Se.mk);first|exact hset)|exact True.intro|exact rfl)
   all_goals first
    |(exfalso;omega)
    |exact⟨(i+1,Z),⟨hil,by rw[←hxl];exact hml,fun y h0 h4=>hmm y (hxm y h0 h4),hd2⟩,by show L.length-(i+1)<L.length-i;omega,jB,jK⟩
  ·have e:i=L.length:=by omega
   subst e
   have hfin:R.take L.length++List.replicate (R.length-L.length) 0=R:=by rw[←hgl,List.take_length,Nat.sub_self];simp
   rw[hfin]
   repeat'(first|apply zF|apply zB|apply zE|refine jg ?_ ?_|refine jf ?_|apply zA|apply zK|apply zJ|apply zN|apply zV|exact jS|fail)
   all_goals first
    |(exfalso;omega)
    |exact jF (k:=by exact⟨A9,congrArg (fun z:Nat=>Value.tuple #[gsl A9 0 z L.length 1,I 0]) (Nat.mul_one _),rfl⟩)
theorem Front_any (L:List Int)(v:Value)(h:SH)(hv:Has h (nodes L) 1 L.length v)(hl:L.length≤4096)(hb:∀x∈L,0≤x∧x<4096) :
  SRun Tryz.prog 159 [v] h fun r q=>∃A,r=.tuple #[gsl A 0 L.length L.length 1,I 0]∧q=(A,⟨nodes (frs rowL L),false⟩)::h:=by
 have hE:=fun h hv=>each_any L v h hv hl hb
 generalize frs rowL L=R at *
 refine zR Tryz.func159 rfl rfl ?_
 repeat'(first|apply zF|apply zB|apply zE|refine jg ?_ ?_|(refine jc ?_ (c:=by exact⟨_,hE _ hv,jN⟩);rintro _ _ ⟨A1,rfl,rfl⟩)|apply zA|apply zN|exact jS|fail)
 all_goals first
  |exact jF (k:=by exact⟨A1,rfl,rfl⟩)

theorem wds_len :∀(L acc:List (List UInt8)),(wds acc L).length≤acc.length+L.length
 |[],acc=>Nat.le_refl _
 |w::r,acc=>by
  show(if w∈acc then wds acc r else wds (acc++[w]) r).length≤acc.length+(r.length+1)
  split
  ·have:=wds_len r acc;omega
  ·have:=wds_len r (acc++[w]);rw[List.length_append]at this;simp at this;omega
theorem wds_mem :∀(L acc:List (List UInt8)) (x:List UInt8),x∈wds acc L→x∈acc∨x∈L
 |[],acc,x,h=>.inl h
 |w::r,acc,x,h=>by
  have h:x∈(if w∈acc then wds acc r else wds (acc++[w]) r):=h
  split at h
  ·rcases wds_mem r acc x h with h|h
   ·exact .inl h
   ·exact .inr (List.mem_cons_of_mem _ h)
  ·rcases wds_mem r _ x h with h|h
   ·rcases List.mem_append.1 h with h|h
    ·exact .inl h
    ·exact .inr (by rw[List.mem_singleton.1 h];exact List.mem_cons_self)
   ·exact .inr (List.mem_cons_of_mem _ h)
def tx (s:List UInt8):List UInt8:=vnum s.length++s
theorem tx_le (s:List UInt8)(h:s.length≤128):(tx s).length≤137:=by
 unfold tx;rw[List.length_append];have:=vnumT_le s.length;omega
theorem flat_tx :∀(W:List (List UInt8)),(∀s∈W,s.length≤128)→(W.flatMap tx).length≤137*W.length
 |[],_=>Nat.le_refl _
 |s::r,h=>by
  have h1:=tx_le s (h s List.mem_cons_self)
  have h2:=flat_tx r fun x hx=>h x (List.mem_cons_of_mem _ hx)
  rw[List.flatMap_cons,List.length_append,List.length_cons]
  omega
def rlH (c:Int)(W:List (List UInt8)):List UInt8:=vnum c++vnum W.length++W.flatMap tx
def ixs (L:List (List UInt8)):List Int:=(rnR (wds [] L) L L.length).map fun x=>x.1
def cts (L:List (List UInt8)):List Int:=(rnR (wds [] L) L L.length).map fun x=>x.2-1
def ixc (c:Int)(L:List (List UInt8)):List Int:=if c=1 then frs rowL (ixs L)else ixs L
def rlE (c:Int)(L:List (List UInt8)):List UInt8:=rlH c (wds [] L)++tx (mEncN (ixc c L)).1++(mEncN (cts L)).1
inductive Gr2 (h:SH):List Int→List Int→Value→Value→SH→Prop
 |nil:Gr2 h [] [] (.slice none 0 0) (.slice none 0 0) h
 |some (A B:Nat) (l m:List Int):Gr2 h l m (gsl A 0 l.length l.length 1) (gsl B 0 m.length m.length 1) ((B,⟨nodes m,false⟩)::(A,⟨nodes l,false⟩)::h)
theorem Gr2.ofc {h:SH}{A B n k n2 k2:Nat}{l m:List Int}{c d:List Value}(hc:c=nodes l)(hd:d=nodes m)(hn:l.length=n)(hk:k=n)(hn2:m.length=n2)(hk2:k2=n2) :
  Gr2 h l m (gsl A 0 k n 1) (gsl B 0 k2 n2 1) ((B,⟨d,false⟩)::(A,⟨c,false⟩)::h):=by
 subst hc hd hn hk hn2 hk2;exact .some A B l m
theorem map_bang {α β:Type}[Inhabited α][Inhabited β]{f:α→β}{l:List α}{i:Nat}(h:i<l.length):(l.map f)[i]! = f l[i]!:=by
 rw[getElem!_pos _ i (by rw[List.length_map];exact h),getElem!_pos l i h,List.getElem_map]
set_option maxHeartbeats 4000000 in
theorem REncodeAs_any (c:Int)(L:List (List UInt8))(v:Value)(h:SH)(hv:Has h (L.map sV) 1 L.length v)(hc01:c=0∨c=1)(hl:L.length≤4000)(h0:L≠[])(hs:∀s∈L,s.length≤128)
  (he:(mEncN (ixc c L)).1.length≤100000) (he2:(mEncN (cts L)).1.length≤100000) :
  SRun Tryz.prog 104 [I c,v] h fun r q=>r=.tuple #[S (rlE c L),I 0]∧q=h:=by
 obtain⟨ad,fl,rfl,hh⟩:=id hv
 have hC:=fun h hv=>ContainsFunc_no L (.slice ad L.length fl) h hv (by omega) hs
 have hD:=fun h hv=>Dictionary_any L (.slice ad L.length fl) h hv (by omega) h0
 have hR:=fun h hv=>Runs_any' L (.slice ad L.length fl) h hv (by omega) h0
 have hlb:(L.map sV).length=L.length:=by simp
 have hwl:(wds [] L).length≤L.length:=by simpa using wds_len L []
 have hws:∀s∈wds [] L,s.length≤128:=fun s hx=>hs s ((wds_mem L [] s hx).resolve_left (by simp))
 have hrk:=rnR_ok (wds [] L) L L.length
 have hL0:0<L.length:=List.length_pos_iff.2 h0
 have hRb:(ixs L).length=(rnR (wds [] L) L L.length).length:=by simp[ixs]
 have hRc:(cts L).length=(rnR (wds [] L) L L.length).length:=by simp[cts]
 have hib:∀x∈ixs L,0≤x∧x<4096:=fun x hx=>by
  obtain⟨y,hy,rfl⟩:=List.mem_map.1 hx
  have:=hrk.2.2 y hy
  omega
 have hF:=fun v h hv=>Front_any (ixs L) v h hv (by omega) hib
 have hN1:=fun v h hv=>EncodeNumbers_any (ixc c L) v h hv (by unfold ixc;split <;> (try rw[frs_len]) <;> (rw[hRb];unfold maxLen;omega))
 have hN2:=fun v h hv=>EncodeNumbers_any (cts L) v h hv (by rw[hRc];unfold maxLen;omega)
 have hne:rnR (wds [] L) L L.length≠[]:=hrk.1 hL0
 have hrl:=hrk.2.1
 have hrx:=hrk.2.2
 clear hrk
 unfold rlE rlH
 have hix:ixs L=(rnR (wds [] L) L L.length).map fun x=>x.1:=rfl
 have hct:cts L=(rnR (wds [] L) L L.length).map fun x=>x.2-1:=rfl
 have hxc:ixc c L=if c=1 then frs rowL (ixs L)else ixs L:=rfl
 generalize ixc c L=XC at *
 generalize ixs L=XI at *
 generalize cts L=CT at *
 generalize wds [] L=W at *
 generalize rnR W L L.length=R at *
 have hT1:=fun h=>vText_any (mEncN XC).1 h (by omega)
 generalize mEncN XC=E1 at *
 generalize mEncN CT=E2 at *
 obtain⟨e1,f1⟩:=E1
 obtain⟨e2,f2⟩:=E2
 dsimp only at he he2 hT1 ⊢
 have k1:=fun h=>Number_any c h (by omega)
 have k2:=fun h=>Number_any (W.length:Int) h (by omega)
 have z1:=vnumT_le c;have z2:=vnumT_le W.length;have z3:=vnumT_le e1.length
 have hwb:(W.map sV).length=W.length:=by simp
 have hpl:=prl R
 have hcc:(decide (c≠0∧c≠1))=false:=decide_eq_false (by omega)
 refine zY Tryz.func104 rfl rfl ?_
 repeat'(first|apply zF|apply zB|apply zE|refine jg ?_ ?_|(refine jc ?_ (c:=by exact⟨_,hC _ hv,jN⟩);rintro _ _ ⟨rfl,rfl⟩)|(refine jc ?_ (c:=by exact⟨_,hD _ hv,jN⟩);rintro _ _ ⟨A6,rfl,rfl⟩)|(refine jc ?_ (c:=by exact⟨_,k1 _,jN⟩);rintro _ _ ⟨rfl,rfl⟩)|(refine jc ?_ (c:=by exact⟨_,k2 _,jN⟩);rintro _ _ ⟨rfl,rfl⟩)|refine jw ?_|refine jk ?_|refine ji ?_|(apply o_guardTN;(iterate 3 exact rfl);all_goals intro hc)|(apply zS;exact rfl)|refine jf ?_|apply zA|apply zI|apply zH|exact jO|fail)
 all_goals try exact jX
 all_goals
  rename SH=>h
  refine zZ (S:=Nat) (fun i=>[(0,I c),(1,.slice ad L.length fl),(7,S (vnum c++vnum W.length++(W.take i).flatMap tx)),(39,gsl A6 0 W.length W.length 1),(40,I W.length),(41,I i)])
   (fun _=>(A6,⟨W.map sV,false⟩)::h) (fun i=>i≤W.length) (fun i=>W.length-i) 0 (Nat.zero_le _) (by simp only[List.take_zero,List.flatMap_nil,List.append_nil];exact jB) jK ?_
  rintro i hi
  have hfl:=flat_tx (W.take i) fun s hx=>hws s (List.mem_of_mem_take hx)
  have htl:(W.take i).length=i:=by rw[List.length_take];omega
  by_cases hil:i<W.length
  ·have hc1:(W.map sV)[0+((i:Int)).toNat*1]?=some (S W[i]!):=yM hil
   have hwi:=hws _ (mm_bang hil)
   have htk:=tk_bang hil
   have hfx:(W.take (i+1)).flatMap tx=(W.take i).flatMap tx++(vnum W[i]!.length++W[i]!):=by rw[htk,List.flatMap_append];simp[tx]
   generalize W[i]! = w at *
   have hT:=fun h=>vText_any w h (by omega)
   have z4:=vnumT_le w.length
   generalize (W.take i).flatMap tx=F at *
   repeat'(first|apply zF|apply zB|apply zE|refine jg ?_ ?_|(apply o_ar zC;exact rfl;exact rfl)|(apply zM zC;(iterate 3 exact rfl);exact pk)|(refine jc ?_ (c:=by exact⟨_,hT _,jN⟩);rintro _ _ ⟨rfl,rfl⟩)|refine jd ?_|apply zA|apply zG|apply zI|apply zH|((with_reducible apply Sd.mk);first|exact True.intro|omega|(simp only[List.length_append];omega))|((with_reducible apply Ln.mk);first|omega)|exact jW|((with_reducible apply Ce.mk);first|exact hc1)|exact True.intro|exact rfl)
   all_goals first
    |exact jX
    |exact⟨i+1,hil,by show W.length-(i+1)<W.length-i;omega,by rw[hfx];simp only[←List.append_assoc];exact jB,jK⟩
  ·obtain rfl:i=W.length:=by omega
   rw[List.take_length]at hfl ⊢
   generalize W.flatMap tx=F at *
   repeat'(first|apply zF|apply zB|apply zE|refine jg ?_ ?_|(refine jc ?_ (c:=by exact⟨_,hR _ (hv.re (.drop .nil)),jN⟩);rintro _ _ ⟨A51,rfl,rfl⟩)|refine jf ?_|apply zA|apply zK|apply zJ|apply zV|apply zH|exact jS|fail)
   all_goals try exact jX
   all_goals
    refine zZ (S:=Nat × Value × Value × SH) (fun s=>[(0,I c),(7,S (vnum c++vnum W.length++F)),(10,s.2.1),(11,s.2.2.1),(51,gsl A51 0 (2*R.length) R.length 2),(52,I R.length),(53,I s.1)])
     (fun s=>(A51,⟨recs prF R,false⟩)::s.2.2.2) (fun s=>s.1≤R.length∧Gr2 h (XI.take s.1) (CT.take s.1) s.2.1 s.2.2.1 s.2.2.2) (fun s=>R.length-s.1) (0,.slice none 0 0,.slice none 0 0,h) ⟨Nat.zero_le _,.nil⟩ jB jK ?_
    rintro⟨j,u1,u2,q⟩ ⟨hj,hg⟩
    dsimp only at hj hg ⊢
    by_cases hjl:j<R.length
    ·have hsub:SubAt (recs prF R) (0+((j:Int)).toNat*2) (prF R[j]!):=subAt_recZ (fun _=>rfl) hjl
     have t1:XI.take (j+1)=XI.take j++[R[j]!.1]:=by rw[tk_bang (by omega),hix,map_bang hjl]
     have t2:CT.take (j+1)=CT.take j++[R[j]!.2-1]:=by rw[tk_bang (by omega),hct,map_bang hjl]
     have hxb:=hrx _ (mm_bang hjl)
     have l1:(XI.take j).length=j:=by rw[List.length_take];omega
     have l2:(CT.take j).length=j:=by rw[List.length_take];omega
     generalize R[j]! = x at *
     obtain⟨a,b⟩:=x
     dsimp only at t1 t2 hxb
     have hsub:SubAt (recs prF R) (0+((j:Int)).toNat*2) [I a,I b]:=hsub
     generalize XI.take j=X1 at *
     generalize CT.take j=C1 at *
     have b1:(nodes X1).length=j:=by rw[List.length_map,l1]
     have b2:(nodes C1).length=j:=by rw[List.length_map,l2]
     cases hg with
     |nil =>
      repeat'(first|apply zF|apply zB|apply zE|refine jr ?_|refine jg ?_ ?_|(apply o_ar zC;exact rfl;exact rfl)|(apply zM zC;(iterate 3 exact rfl);exact pk)|(apply yQ zC;(iterate 3 exact rfl);exact pk)|(apply yE zC;(iterate 4 exact rfl);exact⟨rfl⟩;exact up)|refine jy ?_|refine jb ?_|(apply o_append_nil zC;(iterate 5 exact rfl);exact⟨by decide⟩;exact pk)|refine jd ?_|apply zA|apply zG|apply zI|apply zH|exact jV|((with_reducible apply Ln.mk);first|rfl|omega)|exact jW|exact jE|exact jP|((with_reducible apply Su.mk);first|exact hsub|exact zQ)|exact True.intro|refine Rc.mk ⟨_,_,pk,?_⟩|exact Or.inl rfl|refine Or.inr (And.intro ?_ ?_)|apply And.intro|apply Or.inr|intro A|exact rfl)
      all_goals try exact jX
      rename_i Q3 Q2 Q1 Q0
      exact⟨(j+1,gsl Q1 0 1 1 1,gsl A 0 1 1 1,(A,⟨[I (b-1)],false⟩)::(Q1,⟨[I a],false⟩)::h),⟨hjl,by show Gr2 h (XI.take (j+1)) (CT.take (j+1)) _ _ _;rw[t1,t2];exact .ofc (n:=1) (k:=1) (n2:=1) (k2:=1) rfl rfl rfl rfl rfl rfl⟩,by show R.length-(j+1)<R.length-j;omega,jB,jK⟩
     |some P1 P2 _ _ =>
      repeat'(first|apply zF|apply zB|apply zE|refine jr ?_|refine jg ?_ ?_|(apply o_ar zC;exact rfl;exact rfl)|(apply zM zC;(iterate 3 exact rfl);exact pk)|(apply yQ zC;(iterate 3 exact rfl);exact pk)|(apply yE zC;(iterate 4 exact rfl);exact⟨rfl⟩;exact up)|refine jy ?_|refine jb ?_|(apply o_append zC;(iterate 5 exact rfl);exact⟨by decide⟩;exact up;exact pk)|refine jd ?_|apply zA|apply zG|apply zI|apply zH|exact jV|((with_reducible apply Ln.mk);first|rfl|omega)|exact jW|exact jE|exact jP|((with_reducible apply Su.mk);first|exact hsub|exact zQ)|exact True.intro|refine Rc.mk ⟨_,_,pk,?_⟩|exact Or.inl rfl|refine Or.inr (And.intro ?_ ?_)|apply And.intro|apply Or.inr|intro A|exact rfl)
      all_goals first
       |exact jX
       |exact⟨(j+1,gsl P1 0 (X1.length+1*1) (X1.length+1) 1,gsl P2 0 (C1.length+1*1) (C1.length+1) 1,(P2,⟨nodes C1++[I (b-1)],false⟩)::(P1,⟨nodes X1++[I a],false⟩)::h),⟨hjl,by show Gr2 h (XI.take (j+1)) (CT.take (j+1)) _ _ _;rw[t1,t2];exact .ofc (by simp) (by simp) (by simp) (by omega) (by simp) (by omega)⟩,by show R.length-(j+1)<R.length-j;omega,jB,jK⟩
    ·obtain rfl:j=R.length:=by omega
     have hR1:0<R.length:=List.length_pos_iff.2 hne
     rw[show XI.take R.length=XI by rw[←hRb,List.take_length],show CT.take R.length=CT by rw[←hRc,List.take_length]]at hg
     clear hix hct hrx hne
     cases hg with
     |nil=>exact absurd hRb (by simp;omega)
     |some P1 P2 _ _ =>
      rcases hc01 with rfl|rfl
      ·rw[if_neg (by decide)]at hxc
       subst hxc
       repeat'(first|apply zF|apply zB|apply zE|refine jr ?_|refine jg ?_ ?_|(apply o_ar zC;exact rfl;exact rfl)|(apply zM zC;(iterate 3 exact rfl);exact pk)|(apply yQ zC;(iterate 3 exact rfl);exact pk)|(apply yE zC;(iterate 4 exact rfl);exact⟨rfl⟩;exact up)|refine jy ?_|refine jb ?_|(apply o_append zC;(iterate 5 exact rfl);exact⟨by decide⟩;exact up;exact pk)|(refine jc ?_ (c:=by exact⟨_,hN1 _ _ (hasX rfl (.tail (.tail .head))),jN⟩);rintro _ _ ⟨rfl,rfl⟩)|(refine jc ?_ (c:=by exact⟨_,hN2 _ _ (hasX rfl (.tail .head)),jN⟩);rintro _ _ ⟨rfl,rfl⟩)|(refine jc ?_ (c:=by exact⟨_,hT1 _,jN⟩);rintro _ _ ⟨rfl,rfl⟩)|(apply zS;exact rfl)|refine jd ?_|refine jf ?_|apply zA|apply zK|apply zG|apply zJ|apply zI|apply zN|apply zV|apply zH|((with_reducible apply Sd.mk);first|exact True.intro|omega|(simp only[List.length_append];omega))|((with_reducible apply Ln.mk);first|rfl|omega)|exact jW|exact jE|exact jP|((with_reducible apply Su.mk);first|exact zQ|exact subAt_recZ (fun _=>rfl) (by omega))|exact True.intro|refine Rc.mk ⟨_,_,pk,?_⟩|exact Or.inl rfl|refine Or.inr (And.intro ?_ ?_)|apply And.intro|apply Or.inr|intro A|exact rfl)
       all_goals first
        |exact jX
        |exact jG
      ·rw[if_pos rfl]at hxc
       have hYl:=frs_len XI rowL
       rw[←hxc]at hF hYl
       clear hxc
       repeat'(first|apply zF|apply zB|apply zE|refine jr ?_|refine jg ?_ ?_|(apply o_ar zC;exact rfl;exact rfl)|(apply zM zC;(iterate 3 exact rfl);exact pk)|(apply yQ zC;(iterate 3 exact rfl);exact pk)|(apply yE zC;(iterate 4 exact rfl);exact⟨rfl⟩;exact up)|refine jy ?_|refine jb ?_|(apply o_append zC;(iterate 5 exact rfl);exact⟨by decide⟩;exact up;exact pk)|(refine jc ?_ (c:=by exact⟨_,hF _ _ (hasX rfl (.tail (.tail .head))),jN⟩);rintro _ _ ⟨PF,rfl,rfl⟩)|(refine jc ?_ (c:=by exact⟨_,hN1 _ _ (hasX hYl .head),jN⟩);rintro _ _ ⟨rfl,rfl⟩)|(refine jc ?_ (c:=by exact⟨_,hN2 _ _ (hasX rfl (.tail (.tail .head))),jN⟩);rintro _ _ ⟨rfl,rfl⟩)|(refine jc ?_ (c:=by exact⟨_,hT1 _,jN⟩);rintro _ _ ⟨rfl,rfl⟩)|(apply yB;exact rfl)|refine jd ?_|refine jf ?_|apply zA|apply zK|apply zG|apply zJ|apply zI|apply zN|apply zV|apply zH|((with_reducible apply Sd.mk);first|exact True.intro|omega|(simp only[List.length_append];omega))|((with_reducible apply Ln.mk);first|rfl|omega)|exact jW|exact jE|exact jP|((with_reducible apply Su.mk);first|exact zQ|exact subAt_recZ (fun _=>rfl) (by omega))|exact True.intro|refine Rc.mk ⟨_,_,pk,?_⟩|exact Or.inl rfl|refine Or.inr (And.intro ?_ ?_)|apply And.intro|apply Or.inr|intro A|exact rfl)
       all_goals first
        |exact jX
        |exact jG

structure RlOk (L:List (List UInt8)):Prop where
 ne:L≠[]
 len:L.length≤4000
 el:∀s∈L,s.length≤128
 e0:(mEncN (ixc 0 L)).1.length≤100000
 e1:(mEncN (ixc 1 L)).1.length≤100000
 e2:(mEncN (cts L)).1.length≤100000
def rlA (L:List (List UInt8)):List UInt8:=if(rlE 1 L).length<(rlE 0 L).length then rlE 1 L else rlE 0 L
theorem rlE_le (c:Int){L:List (List UInt8)}(k:RlOk L)(he:(mEncN (ixc c L)).1.length≤100000):(rlE c L).length≤900000:=by
 have h1:(wds [] L).length≤L.length:=by simpa using wds_len L []
 have h2:=flat_tx (wds [] L) fun s hx=>k.el s ((wds_mem L [] s hx).resolve_left (by simp))
 have h3:=k.len;have h4:=k.e2
 have h5:=vnumT_le c;have h6:=vnumT_le (wds [] L).length;have h7:=vnumT_le (mEncN (ixc c L)).1.length
 unfold rlE rlH
 rw[List.length_append,List.length_append,List.length_append,List.length_append]
 have h8:(tx (mEncN (ixc c L)).1).length≤100009:=by unfold tx;rw[List.length_append];omega
 omega
theorem REncode_any (L:List (List UInt8))(v:Value)(h:SH)(hv:Has h (L.map sV) 1 L.length v)(k:RlOk L) :
  SRun Tryz.prog 62 [v] h fun r q=>r=.tuple #[S (rlA L),I 0]∧q=h:=by
 have h0:=fun h hv=>REncodeAs_any 0 L v h hv (.inl rfl) k.len k.ne k.el k.e0 k.e2
 have h1:=fun h hv=>REncodeAs_any 1 L v h hv (.inr rfl) k.len k.ne k.el k.e1 k.e2
 obtain⟨ad,fl,rfl,_⟩:=id hv
 unfold rlA
 generalize rlE 0 L=a at *
 generalize rlE 1 L=b at *
 by_cases hc1:b.length<a.length
 ·rw[if_pos hc1]
  refine zR Tryz.func62 rfl rfl ?_
  repeat'(first|apply zF|apply zB|apply zE|refine jg ?_ ?_|refine jq ?_ (c:=by exact⟨_,h0 _ hv,jN⟩)|refine jq ?_ (c:=by exact⟨_,h1 _ hv,jN⟩)|(apply zS;exact rfl)|refine jd ?_|apply zA|apply zP|apply zI|apply zN|exact jS|fail)
  all_goals first
   |exact jX
   |exact jG
 ·rw[if_neg hc1]
  refine zR Tryz.func62 rfl rfl ?_
  repeat'(first|apply zF|apply zB|apply zE|refine jg ?_ ?_|refine jq ?_ (c:=by exact⟨_,h0 _ hv,jN⟩)|refine jq ?_ (c:=by exact⟨_,h1 _ hv,jN⟩)|(apply zS;exact rfl)|refine jf ?_|apply zA|apply zI|apply zN|exact jS|fail)
  all_goals first
   |exact jX
   |exact jG
def cod2 (L:List Int):List UInt8:=vnum 2++rlA ((gps (-1) L).map vnum)
set_option maxHeartbeats 2000000 in
theorem cod2_any (L:List Int)(v:Value)(T:Nat)(h:SH)(hv:Has h (nodes L) 1 L.length v)(hl:L.length≤4096)(hb:∀x∈L,tok x)(h0:L≠[])(hg:∀x∈gps (-1) L,x≤9223372036854775807)(k:RlOk ((gps (-1) L).map vnum)) :
  SRun Tryz.prog 61 [gptr T 0 1] ((T,⟨[v],false⟩)::h) fun r q=>r=S (cod2 L)∧q=(T,⟨[v],false⟩)::h:=by
 have hG:=fun h hv=>gaps_any L v h hv hl hb
 have hX:=gps_len L (-1)
 have hL0:0<L.length:=List.length_pos_iff.2 h0
 have hrb:(rlA ((gps (-1) L).map vnum)).length≤900000:=by
  unfold rlA;split
  ·exact rlE_le 1 k k.e1
  ·exact rlE_le 0 k k.e0
 have hR:=fun v h hv=>REncode_any ((gps (-1) L).map vnum) v h hv k
 unfold cod2
 generalize rlA ((gps (-1) L).map vnum)=RR at *
 clear k
 generalize gps (-1) L=X at *
 have hxb:(nodes X).length=L.length:=by rw[List.length_map,hX]
 refine zR Tryz.func61 rfl rfl ?_
 repeat'(first|apply zF|apply zB|apply zE|refine jg ?_ ?_|(apply zM zC;(iterate 3 exact rfl);exact pk)|(refine jc ?_ (c:=by exact⟨_,hG _ (hv.re (.drop .nil)),jN⟩);rintro _ _ ⟨A8,rfl,rfl⟩)|apply zA|apply zH|exact jS|exact jL|exact jE|exact True.intro|exact rfl)
 all_goals try exact jX
 refine zZ (S:=Nat × Value × SH) (fun s=>[(2,s.2.1),(8,gsl A8 0 L.length L.length 1),(9,I L.length),(10,I s.1)])
  (fun s=>(A8,⟨nodes X,false⟩)::s.2.2) (fun s=>s.1≤L.length∧GrO sV ((T,⟨[v],false⟩)::h) ((X.take s.1).map vnum) s.2.1 s.2.2) (fun s=>L.length-s.1) (0,.slice none 0 0,(T,⟨[v],false⟩)::h) ⟨Nat.zero_le _,.nil⟩ jB jK ?_
 rintro⟨i,u,q⟩ ⟨hi,hgr⟩
 dsimp only at hi hgr ⊢
 by_cases hil:i<L.length
 ·have hc1:(nodes X)[0+((i:Int)).toNat*1]?=some (I X[i]!):=yM (by omega)
  have htk:(X.take (i+1)).map vnum=(X.take i).map vnum++[vnum X[i]!]:=by rw[tk_bang (by omega),List.map_append];rfl
  have hxi:=ihas_bang hg (i:=i) (by omega)
  generalize X[i]! = x at *
  have hN:=fun h=>Number_any x h hxi
  have hol:((X.take i).map vnum).length=i:=by rw[List.length_map,List.length_take];omega
  generalize (X.take i).map vnum=O at *
  generalize vnum x=y at *
  have hob:(O.map sV).length=O.length:=by simp
  cases hgr with
  |nil =>
   repeat'(first|apply zF|apply zB|apply zE|refine jg ?_ ?_|(apply o_ar zC;exact rfl;exact rfl)|(apply zM zC;(iterate 3 exact rfl);exact pk)|refine jb ?_|(apply o_append_nil zC;(iterate 5 exact rfl);exact⟨by decide⟩;exact pk)|refine jq ?_ (c:=by exact⟨_,hN _,jN⟩)|refine jd ?_|apply zA|apply zG|apply zI|apply zH|exact jV|((with_reducible apply Ln.mk);first|rfl|omega)|exact jW|((with_reducible apply Ce.mk);first|exact hc1)|exact jU|exact True.intro|intro A|exact rfl)
   all_goals first
    |exact jX
    |exact⟨(i+1,gsl A 0 1 1 1,(A,⟨[S y],false⟩)::(T,⟨[v],false⟩)::h),⟨hil,by show GrO sV _ ((X.take (i+1)).map vnum) _ _;rw[htk];exact .ofc (n:=1) (k:=1) rfl rfl rfl⟩,by show L.length-(i+1)<L.length-i;omega,jB,jK⟩
  |some P1 _ =>
   repeat'(first|apply zF|apply zB|apply zE|refine jg ?_ ?_|(apply o_ar zC;exact rfl;exact rfl)|(apply zM zC;(iterate 3 exact rfl);exact pk)|refine jb ?_|(apply o_append zC;(iterate 5 exact rfl);exact⟨by decide⟩;exact up;exact pk)|refine jq ?_ (c:=by exact⟨_,hN _,jN⟩)|refine jd ?_|apply zA|apply zG|apply zI|apply zH|exact jV|((with_reducible apply Ln.mk);first|rfl|omega)|exact jW|((with_reducible apply Ce.mk);first|exact hc1)|exact jU|exact True.intro|intro A|exact rfl)
   all_goals first
    |exact jX
    |exact⟨(i+1,gsl P1 0 (O.length+1*1) (O.length+1) 1,(P1,⟨O.map sV++[S y],false⟩)::(T,⟨[v],false⟩)::h),⟨hil,by show GrO sV _ ((X.take (i+1)).map vnum) _ _;rw[htk];exact .ofc (n:=O.length+1) (k:=O.length+1*1) (by simp) (by simp) (by omega)⟩,by show L.length-(i+1)<L.length-i;omega,jB,jK⟩
 ·obtain rfl:i=L.length:=by omega
  rw[show X.take L.length=X by rw[←hX,List.take_length]]at hgr
  have hl1:(X.map vnum).length=L.length:=by rw[List.length_map,hX]
  generalize X.map vnum=O at *
  have hHs:=hgr.has.1
  have k2:=fun h=>Number_any 2 h (by decide)
  have z2:=vnumT_le 2
  generalize vnum 2=Z at *
  cases hgr with
  |nil=>exact absurd hl1 (by simp;omega)
  |some P1 _ =>
   repeat'(first|apply zF|apply zB|apply zE|refine jg ?_ ?_|refine jq ?_ (c:=by exact⟨_,hR _ _ (hHs.re (.drop .nil)),jN⟩)|refine jq ?_ (c:=by exact⟨_,k2 _,jN⟩)|refine jf ?_|apply zA|apply zK|apply zJ|apply zN|apply zV|exact jO|fail)
   all_goals first
    |exact jX
    |exact jG
abbrev fCod (T N:Nat):List Value:=[.func (.func 55) #[] #[gptr N 0 1,gptr T 0 1],.func (.func 57) #[] #[gptr T 0 1,gptr N 0 1],.func (.func 61) #[] #[gptr T 0 1]]
theorem codings_any (ad:Option Addr)(n fl:Nat)(h:SH):SRun Tryz.prog 29 [.slice ad n fl] h fun r q=>∃T N A,r=gsl A 0 3 3 1∧q=(A,⟨fCod T N,false⟩)::(N,⟨[fNum],false⟩)::(T,⟨[.slice ad n fl],false⟩)::h:=by
 refine zR Tryz.func29 rfl rfl ?_
 repeat'(first|apply zF|apply zB|apply zE|refine jg ?_ ?_|(apply zX zC;(iterate 4 exact rfl);exact up)|refine jy ?_|refine jx ?_|refine jb ?_|(apply o_makeFunc;iterate 3 exact rfl)|apply zA|apply zN|exact jS|exact jL|((with_reducible apply Se.mk);first|(focus(repeat(first|exact SetAt.zero));done))|exact True.intro|intro A)
 rename_i T N
 all_goals first
  |exact jF (k:=by exact⟨T,N,A,rfl,rfl⟩)

abbrev cs :List UInt8:=[48,49,120,122]
def cd (c:Int):Int:=if c=48 then 0 else if c=49 then 1 else if c=120 then 2 else if c=122 then 3 else -1
theorem cd_at :∀{k:Nat},k<4→cd (bat cs (k:Int))=k
 |0,_=>rfl
 |1,_=>rfl
 |2,_=>rfl
 |3,_=>rfl
 |_+4,h=>by omega
theorem cd_none {c:Int}(h:∀k:Nat,k<4→bat cs (k:Int)≠c):cd c=-1:=by
 have h0:=h 0 (by decide);have h1:=h 1 (by decide);have h2:=h 2 (by decide);have h3:=h 3 (by decide)
 change (48:Int)≠c at h0;change (49:Int)≠c at h1;change (120:Int)≠c at h2;change (122:Int)≠c at h3
 unfold cd
 rw[if_neg h0.symm,if_neg h1.symm,if_neg h2.symm,if_neg h3.symm]
theorem cd_in (c:Int):-1≤cd c∧cd c<4:=by unfold cd;(repeat' split) <;> decide
def ch (k:Int):Int:=if 0≤k∧k<4 then bat cs k else 0
theorem Code_any (c:Int)(h:SH):SRun Tryz.prog 84 [.int .u8 c] h fun r q=>r=I (cd c)∧q=h:=by
 refine zR Tryz.func84 rfl rfl ?_
 repeat'(first|apply zF|apply zB|apply zE|refine jg ?_ ?_|apply zA|apply zH|exact jS|fail)
 refine zZ (S:=Nat) (fun k=>[(0,.int .u8 c),(4,I k)]) (fun _=>h) (fun k=>k≤4∧∀j:Nat,j<k→bat cs (j:Int)≠c) (fun k=>4-k) 0 ⟨by omega,fun j hj=>by omega⟩ jB jK ?_
 rintro k ⟨hk,he⟩
 repeat'(first|apply zF|apply zB|apply zE|refine jg ?_ ?_|(apply o_ar zC;exact rfl;exact rfl)|(apply w_if;exact rfl;all_goals intro hc)|apply zA|apply zP|apply zK|apply zG|apply yP|apply zJ|apply zI|apply zN|apply zV|apply zH|((with_reducible apply Sd.mk);first|exact True.intro|(constructor <;> first|omega|(unfold maxLen;omega)))|exact jW|fail)
 ·exact jF (k:=by refine⟨?_,rfl⟩;show I _=I _;rw[←hc,cd_at (by omega)])
 ·exact⟨k+1,⟨by omega,fun j hj=>by
   by_cases e:j=k
   ·subst e;exact hc
   ·exact he j (by omega)⟩,by omega,jB,jK⟩
 ·exact jF (k:=by refine⟨?_,rfl⟩;show I _=I _;rw[cd_none fun j hj=>he j (by omega)])
theorem Char_any (k:Int)(h:SH):SRun Tryz.prog 130 [I k] h fun r q=>r=.tuple #[.int .u8 (ch k),B (decide (0≤k∧k<4))]∧q=h:=by
 by_cases hk:0≤k∧k<4
 ·obtain⟨n,rfl⟩:=Int.eq_ofNat_of_zero_le hk.1
  rw[show ch (n:Int)=bat cs n from if_pos hk,decide_eq_true hk]
  refine zR Tryz.func130 rfl rfl ?_
  repeat'(first|apply zF|apply zB|apply zE|refine jg ?_ ?_|refine jw ?_|refine jf ?_|apply zA|apply zI|apply zN|exact jO|fail)
  all_goals exact jG
 ·rw[show ch k=0 from if_neg hk,decide_eq_false hk]
  refine zR Tryz.func130 rfl rfl ?_
  repeat'(first|apply zF|apply zB|apply zE|refine jg ?_ ?_|refine jw ?_|refine jk ?_|(apply o_guardF;(iterate 3 exact rfl);all_goals intro hc)|(apply yB;exact rfl)|refine jd ?_|apply zA|apply zP|apply zN|exact jS|fail)
  all_goals first|(exfalso;omega)|exact jG
theorem Valid1_any (c:Int)(h:SH):SRun Tryz.prog 186 [.int .u8 c] h fun r q=>r=B (decide (0≤cd c))∧q=h:=by
 refine zR Tryz.func186 rfl rfl ?_
 repeat'(first|apply zF|apply zB|apply zE|refine jg ?_ ?_|refine jq ?_ (c:=by exact⟨_,Code_any c _,jN⟩)|apply zA|apply zN|exact jS|fail)
 all_goals exact jG
def ck (c:Int):Int:=if 0≤cd c then cd c else 2
theorem known1_any (c:Int)(h:SH):SRun Tryz.prog 277 [.int .u8 c] h fun r q=>r=I (ck c)∧q=h:=by
 refine zR Tryz.func277 rfl rfl ?_
 repeat'(first|apply zF|apply zB|apply zE|refine jg ?_ ?_|refine jq ?_ (c:=by exact⟨_,Code_any c _,jN⟩)|(apply w_if;exact rfl;all_goals intro hc)|apply zA|apply zP|apply zI|apply zN|exact jS|fail)
 ·exact jF (k:=by exact⟨by show I _=I _;rw[ck,if_pos (by assumption)],rfl⟩)
 ·exact jF (k:=by exact⟨by show I _=I _;rw[ck,if_neg (by omega)],rfl⟩)
def nv (c:Int):Int:=if c=48 then 49 else if c=49 then 48 else if c=122 then 122 else 120
theorem ck_at (c:Int):∃k:Nat,ck c=k∧k<4∧nv c=bat [49,48,120,122] k:=by
 have:=cd_in c
 unfold ck nv cd
 (repeat' split) <;> first|(exfalso;omega)|exact⟨0,rfl,by decide,rfl⟩|exact⟨1,rfl,by decide,rfl⟩|exact⟨2,rfl,by decide,rfl⟩|exact⟨3,rfl,by decide,rfl⟩
theorem Inverse1_any (c:Int)(h:SH):SRun Tryz.prog 273 [.int .u8 c] h fun r q=>r=.int .u8 (nv c)∧q=h:=by
 obtain⟨k,e,hk,hn⟩:=ck_at c
 have hK:=fun h=>known1_any c h
 rw[e]at hK
 rw[hn]
 obtain rfl|rfl|rfl|rfl:k=0∨k=1∨k=2∨k=3:=by omega
 all_goals
  refine zR Tryz.func273 rfl rfl ?_
  repeat'(first|apply zF|apply zB|apply zE|refine jg ?_ ?_|(apply o_buildArr zC;(iterate 4 exact rfl);(focus repeat(first|exact BuildR.nil|(apply BuildR.one;exact rfl;exact rfl;(first|(focus(repeat(first|exact SetAt.zero|apply SetAt.succ));done)))));exact rfl)|refine jq ?_ (c:=by exact⟨_,hK _,jN⟩)|apply zA|apply zN|exact jO|fail)
  all_goals exact jG

def cn (l:List UInt8)(k:Int):Nat:=l.countP fun b=>decide (cd b.toNat=k)
abbrev cnL (l:List UInt8):List Int:=[(cn l 0:Int),(cn l 1:Int),(cn l 2:Int),(cn l 3:Int)]
abbrev cnV (l:List UInt8):List Value:=[I (cn l 0),I (cn l 1),I (cn l 2),I (cn l 3)]
theorem bat_get {l:List UInt8}{i:Nat}(h:i<l.length):bat l (i:Int)=(l[i].toNat:Int):=by
 unfold bat
 rw[Int.toNat_natCast,List.getD_eq_getElem?_getD,List.getElem?_eq_getElem h];rfl
theorem cn_snoc (l:List UInt8)(b:UInt8)(k:Int):cn (l++[b]) k=cn l k+if cd b.toNat=k then 1 else 0:=by
 unfold cn
 rw[List.countP_append,List.countP_singleton]
 by_cases h:cd b.toNat=k <;> simp[h]
theorem btake_snoc {l:List UInt8}{i:Nat}(h:i<l.length):l.take (i+1)=l.take i++[l[i]]:=by
 rw[List.take_add_one,List.getElem?_eq_getElem h];rfl
theorem cn_step {l:List UInt8}{i:Nat}(h:i<l.length)(k:Int):cn (l.take (i+1)) k=cn (l.take i) k+if cd (bat l (i:Int))=k then 1 else 0:=by
 rw[btake_snoc h,cn_snoc,bat_get h]
theorem cn_le (l:List UInt8)(k:Int):cn l k≤l.length:=List.countP_le_length
theorem cnL_step {l:List UInt8}{i k:Nat}(h:i<l.length)(hk:k<4)(e:cd (bat l (i:Int))=(k:Int)):(cnL (l.take i)).set k ((cnL (l.take i))[k]!+1)=cnL (l.take (i+1)):=by
 unfold cnL
 rw[cn_step h,cn_step h,cn_step h,cn_step h,e]
 obtain rfl|rfl|rfl|rfl:k=0∨k=1∨k=2∨k=3:=by omega
 all_goals simp
theorem cnL_skip {l:List UInt8}{i:Nat}(h:i<l.length)(e:cd (bat l (i:Int))=-1):cnL (l.take (i+1))=cnL (l.take i):=by
 unfold cnL
 rw[cn_step h,cn_step h,cn_step h,cn_step h,e]
 simp
theorem cnL_in (l:List UInt8){k:Nat}(hk:k<4):0≤(cnL l)[k]!∧(cnL l)[k]!≤l.length:=by
 have h0:=cn_le l 0;have h1:=cn_le l 1;have h2:=cn_le l 2;have h3:=cn_le l 3
 obtain rfl|rfl|rfl|rfl:k=0∨k=1∨k=2∨k=3:=by omega
 all_goals (unfold cnL;simp;omega)
theorem Count_any (l:List UInt8)(h:SH)(hl:l.length≤9223372036854775807):SRun Tryz.prog 41 [S l] h fun r q=>r=.agg ⟨cnV l⟩∧q=h:=by
 refine zR Tryz.func41 rfl rfl ?_
 repeat'(first|apply zF|apply zB|apply zE|refine jg ?_ ?_|refine jy ?_|apply zA|apply zH|exact jS|intro A)
 rename_i A2
 refine zZ (S:=Nat) (fun k=>[(0,S l),(7,I l.length),(8,I k),(2,gptr A2 0 4),(3,gptr A 0 4)]) (fun k=>(A,⟨(cnL (l.take k)).map fun n=>I n,false⟩)::(A2,⟨[I 0,I 0,I 0,I 0],false⟩)::h) (fun k=>k≤l.length) (fun k=>l.length-k) 0 (Nat.zero_le _) jB (.consE .head rfl (.cons .head .nil)) ?_
 intro i hi
 by_cases hil:i<l.length
 ·by_cases hc:0≤cd (bat l (i:Int))
  ·obtain⟨k,hk⟩:=Int.eq_ofNat_of_zero_le hc
   have hk4:k<4:=by have:=cd_in (bat l (i:Int));omega
   have hC:=fun h=>Code_any (bat l (i:Int)) h
   rw[hk]at hC
   have hin:=cnL_in (l.take i) hk4
   rw[List.length_take]at hin
   have hst:=cnL_step hil hk4 hk
   have hL:(cnL (l.take i)).length=4:=rfl
   generalize cnL (l.take i)=L at hin hst hL ⊢
   repeat'(first|apply zF|apply zB|apply zE|refine jg ?_ ?_|(apply o_ar zC;exact rfl;exact rfl)|(apply zM zC;(iterate 3 exact rfl);exact pk)|(apply zX zC;(iterate 4 exact rfl);exact up)|(refine jc ?_ (c:=by exact⟨_,hC _,jN⟩);rintro _ _ ⟨rfl,rfl⟩)|(apply yB;exact rfl)|refine jd ?_|apply zA|apply zG|apply zI|apply zH|exact jO|((with_reducible apply Ln.mk);first|(simp ;first|done|omega))|exact jW|((with_reducible apply Ce.mk);first|exact yM (by omega))|((with_reducible apply Se.mk);first|exact setAt_mapZ (by omega))|exact True.intro|exact rfl)
   exact⟨i+1,by show i+1≤_;omega,by show l.length-(i+1)<l.length-i;omega,jB,by rw[←hst];exact jK⟩
  ·have e:cd (bat l (i:Int))=-1:=by have:=cd_in (bat l (i:Int));omega
   repeat'(first|apply zF|apply zB|apply zE|refine jg ?_ ?_|(apply o_ar zC;exact rfl;exact rfl)|(refine jc ?_ (c:=by exact⟨_,Code_any _ _,jN⟩);rintro _ _ ⟨rfl,rfl⟩)|refine jd ?_|refine jf ?_|apply zA|apply zG|apply zI|apply zH|exact jO|exact jW|fail)
   exact⟨i+1,by show i+1≤_;omega,by show l.length-(i+1)<l.length-i;omega,jB,by rw[cnL_skip hil e];exact jK⟩
 ·obtain rfl:i=l.length:=by omega
  repeat'(first|apply zF|apply zB|apply zE|refine jg ?_ ?_|(apply yQ zC;(iterate 3 exact rfl);exact pk)|(apply yE zC;(iterate 4 exact rfl);exact⟨rfl⟩;exact up)|refine jf ?_|apply zA|apply zK|apply zJ|apply zN|apply zV|exact jS|exact jL|exact jP|exact jU|exact True.intro|exact rfl)
  rw[List.take_length]
  (apply zL;(exact(show ResS _ _ _ _ [_] from(res_cell zC rfl rfl rfl (by exact pk) (by first|rfl|exact ‹_›|omega|(simp ;first|done|omega)) (by first|rfl|exact ‹_›|omega|(simp ;first|done|omega)) trivial)));exact⟨rfl,rfl⟩;(focus repeat with_reducible first|exact Take.nil|apply Take.c|apply Take.drop))
def isV (l:List UInt8):Prop:=1≤l.length∧l.length≤128∧∀i:Nat,i<l.length→0≤cd (bat l (i:Int))
theorem cn_sum (l:List UInt8):cn l 0+cn l 1+cn l 2+cn l 3=l.countP fun b=>decide (0≤cd b.toNat):=by
 unfold cn
 induction l with
 |nil=>rfl
 |cons b l ih =>
  have:=cd_in b.toNat
  simp only[List.countP_cons,decide_eq_true_eq]
  obtain e|e|e|e|e:cd b.toNat=-1∨cd b.toNat=0∨cd b.toNat=1∨cd b.toNat=2∨cd b.toNat=3:=by omega
  all_goals (rw[e];simp;omega)
theorem cn_all (l:List UInt8):cn l 0+cn l 1+cn l 2+cn l 3=l.length↔∀i:Nat,i<l.length→0≤cd (bat l (i:Int)):=by
 rw[cn_sum,List.countP_eq_length]
 constructor
 ·intro h i hi
  rw[bat_get hi]
  exact of_decide_eq_true (h _ (List.getElem_mem hi))
 ·intro h b hb
  obtain⟨i,hi,rfl⟩:=List.getElem_of_mem hb
  have:=h i hi
  rw[bat_get hi]at this
  exact decide_eq_true this
theorem isV_iff (l:List UInt8):isV l↔1≤l.length∧l.length≤128∧cn l 0+cn l 1+cn l 2+cn l 3=l.length:=by
 unfold isV;rw[cn_all]
instance (l:List UInt8):Decidable (isV l):=decidable_of_iff _ (isV_iff l).symm
theorem cn_sum_le (l:List UInt8):cn l 0+cn l 1+cn l 2+cn l 3≤l.length:=by rw[cn_sum];exact List.countP_le_length
theorem isV_dec (l:List UInt8):decide (isV l)=decide (1≤l.length∧l.length≤128∧cn l 0+cn l 1+cn l 2+cn l 3=l.length):=decide_eq_decide.2 (isV_iff l)
theorem is_any (l:List UInt8)(h:SH)(hl:l.length≤9223372036854775807):SRun Tryz.prog 19 [S l] h fun r q=>r=B (decide (isV l))∧q=h:=by
 have hs:=cn_sum_le l
 have hz:l=[]↔l.length=0:=List.length_eq_zero_iff.symm
 rw[isV_dec]
 refine zR Tryz.func19 rfl rfl ?_
 repeat'(first|apply zF|apply zB|apply zE|refine jg ?_ ?_|(apply o_ar zC;exact rfl;exact rfl)|(apply zM zC;(iterate 3 exact rfl);exact pk)|(apply yE zC;(iterate 4 exact rfl);exact⟨rfl⟩;exact up)|refine jy ?_|(refine jc ?_ (c:=by exact⟨_,Count_any l _ hl,jN⟩);rintro _ _ ⟨rfl,rfl⟩)|refine jw ?_|refine jk ?_|(apply o_guardF;(iterate 3 exact rfl);all_goals intro hc)|(apply yB;exact rfl)|(apply w_if;exact rfl;all_goals intro hc)|apply zA|apply zP|apply zI|apply zN|exact jO|exact jL|exact jW|exact jE|exact jP|exact True.intro|intro A|exact rfl)
 ·exact jF (k:=by exact⟨congrArg B (decide_eq_false (by omega)).symm,rfl⟩)
 ·rename_i h1 _
  rw[hz]at h1
  exact jF (k:=by exact⟨congrArg B (decide_eq_decide.2 (by omega)),rfl⟩)
 ·rw[hz]at hc
  exact jF (k:=by exact⟨congrArg B (decide_eq_false (by omega)).symm,rfl⟩)
def isK (l:List UInt8):Prop:=isV l∧cn l 2+cn l 3=0
instance (l:List UInt8):Decidable (isK l):=inferInstanceAs (Decidable (_∧_))
theorem isK_iff (l:List UInt8):isK l↔isV l∧∀i:Nat,i<l.length→bat l (i:Int)=48∨bat l (i:Int)=49:=by
 unfold isK
 constructor
 ·rintro⟨hv,h2⟩
  refine⟨hv,fun i hi=>?_⟩
  have h3:=hv.2.2 i hi
  have n2:cn l 2=0:=by omega
  have n3:cn l 3=0:=by omega
  unfold cn at n2 n3
  rw[List.countP_eq_zero]at n2 n3
  have g2:=n2 _ (List.getElem_mem hi)
  have g3:=n3 _ (List.getElem_mem hi)
  rw[decide_eq_true_eq,←bat_get hi]at g2 g3
  generalize bat l (i:Int)=c at *
  unfold cd at *
  (repeat' split at g2) <;> (repeat' split at g3) <;> (repeat' split at h3) <;> omega
 ·rintro⟨hv,h2⟩
  refine⟨hv,?_⟩
  have n:∀k:Int,(k=2∨k=3)→cn l k=0:=fun k hk=>by
   unfold cn
   rw[List.countP_eq_zero]
   intro b hb
   obtain⟨i,hi,rfl⟩:=List.getElem_of_mem hb
   have:=h2 i hi
   rw[bat_get hi]at this
   rw[decide_eq_true_eq]
   rcases this with e|e <;> rw[e] <;> rcases hk with rfl|rfl <;> decide
  rw[n 2 (.inl rfl),n 3 (.inr rfl)]
theorem known_any (l:List UInt8)(h:SH)(hl:l.length≤9223372036854775807):SRun Tryz.prog 21 [S l] h fun r q=>r=B (decide (isK l))∧q=h:=by
 have hs:=cn_sum_le l
 refine zR Tryz.func21 rfl rfl ?_
 repeat'(first|apply zF|apply zB|apply zE|refine jg ?_ ?_|(apply o_ar zC;exact rfl;exact rfl)|(apply zM zC;(iterate 3 exact rfl);exact pk)|(apply yE zC;(iterate 4 exact rfl);exact⟨rfl⟩;exact up)|refine jy ?_|refine jq ?_ (c:=by exact⟨_,Count_any l _ hl,jN⟩)|refine jq ?_ (c:=by exact⟨_,is_any l _ hl,jN⟩)|refine jw ?_|refine jk ?_|(apply o_guardT;(iterate 3 exact rfl);all_goals intro hc)|apply zA|apply zN|exact jO|exact jL|exact jW|exact jE|exact jP|exact True.intro|intro A|exact rfl)
 all_goals first
  |exact jF (k:=by exact⟨congrArg B (decide_eq_decide.2 (by unfold isK;omega)),rfl⟩)
  |exact jF (k:=by exact⟨congrArg B (decide_eq_false (fun g=>by have:=g.1;contradiction)).symm,rfl⟩)
  |exact jF (k:=by exact⟨congrArg B (decide_eq_decide.2 ⟨fun g=>⟨by assumption,by omega⟩,fun g=>by have:=g.2;omega⟩),rfl⟩)

theorem w_and1i (v:Int):IntKind.i64.wrap ((BitVec.ofInt IntKind.i64.bits v&&&BitVec.ofInt IntKind.i64.bits 1).toNat:Int)=v%2:=w_mask v (k:=1) (by decide)
theorem w_and1b {v:Int}(h:0≤v∧v<256):IntKind.u8.wrap ((BitVec.ofInt IntKind.u8.bits v&&&BitVec.ofInt IntKind.u8.bits 1).toNat:Int)=v%2:=by
 have:((BitVec.ofInt 8 v&&&BitVec.ofInt 8 1).toNat:Int)=v%2:=by
  rw[BitVec.toNat_and,BitVec.toNat_ofInt,show(BitVec.ofInt 8 1).toNat=1 from rfl,Nat.and_one_is_mod]
  omega
 show IntKind.u8.wrap ((BitVec.ofInt 8 v&&&BitVec.ofInt 8 1).toNat:Int)=_
 rw[this]
 exact IntWalk.u8_in _ (by omega)
theorem ex_half (v:Int)(k:IntKind)(hk:1≤k.bits):v/2^(min (Int.toNat 1) k.bits)=v/2:=by
 rw[show min (Int.toNat 1) k.bits=1 from Nat.min_eq_left hk];rfl
def fnum :Nat→Int→List UInt8
 |0,_=>[]
 |w+1,n=>fnum w (n/2)++[b8 (48+n%2)]
theorem fnum_len :∀(w:Nat) (n:Int),(fnum w n).length=w
 |0,_=>rfl
 |w+1,n=>by simp[fnum,fnum_len w]
theorem set_last (j:Nat)(b:UInt8)(T:List UInt8):(List.replicate (j+1) 0++T).set ((j:Int)).toNat b=List.replicate j 0++b::T:=by
 rw[Int.toNat_natCast,List.replicate_succ',List.append_assoc,List.set_append_right _ _ (by simp)]
 simp
theorem FromNumber_any (w n:Int)(h:SH):SRun Tryz.prog 6 [I w,I n] h fun r q =>
  r=.tuple #[S (if 1≤w∧w≤128 then fnum w.toNat n else []),I (if 1≤w∧w≤128 then 0 else 1)]∧q=h:=by
 by_cases hw:1≤w∧w≤128
 ·rw[if_pos hw,if_pos hw]
  obtain⟨W,rfl⟩:=Int.eq_ofNat_of_zero_le (show 0≤w by omega)
  have hzr:zrow (.int .u8 0) (W*1)=bytesV (List.replicate W 0):=map_zrow (f:=byteV) 0 rfl rfl W
  refine zY Tryz.func6 rfl rfl ?_
  repeat'(first|apply zF|apply zB|apply zE|refine jg ?_ ?_|(apply o_ar zC;exact rfl;exact rfl)|(apply o_makeSlice zC;(iterate 6 exact rfl);decide;omega;(focus first|exact hzr);exact rfl)|refine jw ?_|refine ji ?_|refine jf ?_|apply zA|apply zI|apply zH|exact jS|exact jW|intro A)
  refine zZ (S:=Nat × Int × List UInt8) (fun x=>[(0,I W),(1,I x.2.1),(6,gsl A 0 (W*1) W 1),(7,I ((x.1:Int)-1))]) (fun x=>(A,⟨bytesV (List.replicate x.1 0++x.2.2),false⟩)::h)
   (fun x=>x.1+x.2.2.length=W∧fnum W n=fnum x.1 x.2.1++x.2.2) (fun x=>x.1) (W,n,[]) ⟨by simp,by simp⟩ jB (.consE .head (by simp) .nil) ?_
  rintro⟨k,m,T⟩ ⟨h1,h2⟩
  dsimp only at h1 h2 ⊢
  cases k with
  |zero =>
   have e:T=fnum W n:=by rw[h2];rfl
   repeat'(first|apply zF|apply zB|apply zE|refine jg ?_ ?_|(apply o_toString zC;(iterate 6 exact rfl);exact pk)|(apply zS;exact rfl)|apply zA|apply zK|apply zJ|apply zN|apply zV|exact jS|((with_reducible apply Ln.mk);first|(simp ;first|done|omega))|exact jU|exact True.intro|exact rfl)
   exact jF (k:=by exact⟨by show Value.tuple #[S ([]++T),_]=_;rw[List.nil_append,e];rfl,rfl⟩)
  |succ j =>
   rw[show(((j+1:Nat):Int)-1)=(j:Int)by omega]
   have hlen:(List.replicate (j+1) (0:UInt8)++T).length=W:=by simp;omega
   have hm:0≤48+m%2∧48+m%2<256:=by omega
   have hset:=set_last j (b8 (48+m%2)) T
   generalize List.replicate (j+1) (0:UInt8)++T=X at hlen hset ⊢
   repeat'(first|apply zF|apply zB|apply zE|refine jg ?_ ?_|(apply o_ar zC;exact rfl;exact rfl)|(apply o_ex;exact rfl;exact rfl)|(apply zX zC;(iterate 4 exact rfl);exact up)|(apply yB;exact rfl)|apply zA|apply zG|apply zI|apply zH|exact jO|((with_reducible apply Ln.mk);first|(simp ;first|done|omega))|((with_reducible apply Wr.mk);first|exact w_and1i _|exact IntWalk.i64_in _ (by omega)|exact IntWalk.u8_in _ (by omega))|((with_reducible apply Ex.mk);first|exact ex_half _ _ (by decide))|((with_reducible apply Se.mk);first|exact setAt_bytes (by omega) (by omega))|exact True.intro)
   exact⟨(j,m/2,b8 (48+m%2)::T),⟨by simp;omega,by rw[h2];simp[fnum]⟩,by show j<j+1;omega,jB,by rw[hset];exact jK⟩
 ·rw[if_neg hw,if_neg hw]
  refine zY Tryz.func6 rfl rfl ?_
  repeat'(first|apply zF|apply zB|apply zE|refine jg ?_ ?_|refine jw ?_|refine jk ?_|(apply o_guardF;(iterate 3 exact rfl);all_goals intro hc)|(apply yB;exact rfl)|refine jd ?_|apply zA|apply zP|apply zN|exact jS|fail)
  all_goals first|(exfalso;omega)|exact jG
def dsum (a b:List UInt8):Nat→Int→List UInt8
 |0,_=>[]
 |k+1,c=>dsum a b k ((bat a (k:Int)-48+bat b (k:Int)-48+c)/2)++[b8 (48+(bat a (k:Int)-48+bat b (k:Int)-48+c)%2)]
theorem sum_any (a b:List UInt8)(c:Int)(h:SH)(ha:a.length≤128)(hb:b.length=a.length)(hc:c=0∨c=1)(hda:∀i:Nat,i<a.length→bat a (i:Int)=48∨bat a (i:Int)=49)(hdb:∀i:Nat,i<a.length→bat b (i:Int)=48∨bat b (i:Int)=49) :
  SRun Tryz.prog 185 [S a,S b,.int .u8 c] h fun r q=>r=S (dsum a b a.length c)∧q=h:=by
 refine w_body3 Tryz.func185 rfl rfl ?_
 repeat'(first|apply zF|apply zB|apply zE|refine jg ?_ ?_|(apply o_ar zC;exact rfl;exact rfl)|refine jy ?_|apply zA|apply zH|exact jS|exact jW|intro A)
 refine zZ (S:=Nat × Int × List UInt8) (fun x=>[(0,S a),(1,S b),(2,.int .u8 x.2.1),(7,gptr A 0 128),(8,I ((x.1:Int)-1))]) (fun x=>(A,⟨bytesV (List.replicate x.1 0++(x.2.2++List.replicate (128-a.length) 0)),false⟩)::h)
  (fun x=>x.1+x.2.2.length=a.length∧(x.2.1=0∨x.2.1=1)∧dsum a b a.length c=dsum a b x.1 x.2.1++x.2.2) (fun x=>x.1) (a.length,c,[]) ⟨by simp,hc,by simp⟩ jB (.consE .head (by rw[List.nil_append,List.replicate_append_replicate,show a.length+(128-a.length)=128 by omega];rfl) .nil) ?_
 rintro⟨k,m,T⟩ ⟨h1,h3,h2⟩
 dsimp only at h1 h2 h3 ⊢
 cases k with
 |zero =>
  have e:T=dsum a b a.length c:=by rw[h2];rfl
  have hlT:T.length=a.length:=by omega
  have hsub:SubAt (bytesV (List.replicate 0 0++(T++List.replicate (128-a.length) 0))) 0 (bytesV T):=fun i v hi=>by
   have hlt:=(List.getElem?_eq_some_iff.1 hi).1
   rw[Nat.zero_add,show bytesV (List.replicate 0 0++(T++List.replicate (128-a.length) 0))=bytesV T++bytesV (List.replicate (128-a.length) 0)by simp[bytesV],List.getElem?_append_left hlt]
   exact hi
  have hlT2:T.length=((a.length:Int)).toNat:=by omega
  repeat'(first|apply zF|apply zB|apply zE|refine jg ?_ ?_|(apply o_toString zC;(iterate 6 exact rfl);exact pk)|(apply zS;exact rfl)|apply zA|apply zK|apply zJ|apply zN|apply zV|((with_reducible apply Sd.mk);first|exact True.intro|(constructor <;> first|omega|(unfold maxLen;omega)))|((with_reducible apply Ln.mk);first|exact hlT2|(simp ;first|done|omega))|((with_reducible apply Su.mk);first|exact hsub)|exact True.intro|exact rfl)
  rw[←e]
  exact jG
 |succ j =>
  rw[show(((j+1:Nat):Int)-1)=(j:Int)by omega]
  have hlen:(List.replicate (j+1) (0:UInt8)++(T++List.replicate (128-a.length) 0)).length=128:=by simp;omega
  have g1:=hda j (by omega)
  have g2:=hdb j (by omega)
  obtain⟨s,hs⟩:∃s,s=bat a (j:Int)-48+bat b (j:Int)-48+m:=⟨_,rfl⟩
  have hset:=set_last j (b8 (48+s%2)) (T++List.replicate (128-a.length) 0)
  generalize List.replicate (j+1) (0:UInt8)++(T++List.replicate (128-a.length) 0)=X at hlen hset ⊢
  repeat'(first|apply zF|apply zB|apply zE|refine jr ?_|refine jg ?_ ?_|(apply o_ar zC;exact rfl;exact rfl)|(apply o_ex;exact rfl;exact rfl)|(apply zX zC;(iterate 4 exact rfl);exact up)|(apply yB;exact rfl)|apply zA|apply zG|apply zI|apply zH|exact jO|((with_reducible apply Ln.mk);first|(simp ;first|done|omega))|((with_reducible apply Wr.mk);first|exact w_and1b (by omega)|exact IntWalk.i64_in _ (by omega)|exact IntWalk.u8_in _ (by omega))|((with_reducible apply Ex.mk);first|exact ex_half _ _ (by decide))|((with_reducible apply Se.mk);first|exact setAt_bytes (by omega) (by omega))|exact True.intro)
  rw[←hs]
  exact⟨(j,s/2,b8 (48+s%2)::T),⟨by simp;omega,by show s/2=0∨s/2=1;omega,by rw[h2];simp[dsum,←hs]⟩,by show j<j+1;omega,jB,by rw[hset];exact jK⟩
end Go.Proofs.YteddogfolceahaaGreatDoor
end
section
set_option maxRecDepth 4000
namespace Go.Gh
open Go.RowKit

theorem vrel_det {φ:Nat→Loc}{L:Lens}{as0:List Value}{vs:Array Value}(hc:as0.all yJ=true)(h:VRel φ L as0 vs):vs=as0.toArray:=by
 obtain⟨hs,hg⟩:=h
 refine Array.ext (by simpa using hs) fun i hi hi'=>?_
 have hl:i<as0.length:=by simpa using hi'
 obtain⟨v,g1,g2⟩:=hg i as0[i] (by simp[hl])
 have:=Val.det ((List.all_eq_true.1 hc) as0[i] (List.getElem_mem hl)) g2
 rw[Array.getElem?_eq_getElem hi]at g1
 simp only[Option.some.injEq]at g1
 rw[g1,this];simp
theorem srun_lib {P:Program}{f:FuncId}{as0:List Value}{v:Value}{h:SH}(hc:as0.all yJ=true)(hv:yJ v=true)
  (k:∀w:World,Calls P f as0.toArray w fun e w'=>e=.returned v∧Below w.heap.size w w'):SRun P f as0 h fun r q=>r=v∧q=h:=by
 unfold SRun
 intro H i
 unfold Run
 intro B0 w0 φs Ls φ w vs he hr hvs
 rw[vrel_det hc hvs]
 refine(k w).mono ?_
 rintro e w' ⟨rfl,hb⟩
 exact⟨φ,v,H,v,he,hr.later hb,rfl,Val.const hv,h,⟨rfl,rfl⟩,i⟩
theorem srun_libG {P:Program}{f:FuncId}{as0:List Value}{v:Value}{h:SH}(hc:as0.all yJ=true)(hv:yJ v=true)
  (k:∀w:World,GW w.heap.size w→Calls P f as0.toArray w fun e w'=>e=.returned v∧Below w.heap.size w w'):SRun P f as0 h fun r q=>r=v∧q=h:=by
 unfold SRun
 intro H i
 unfold Run
 intro B0 w0 φs Ls φ w vs he hr hvs
 rw[vrel_det hc hvs]
 refine(k w (hr.gw.on hr.below (Nat.le_trans hr.b0 hr.below.size))).mono ?_
 rintro e w' ⟨rfl,hb⟩
 exact⟨φ,v,H,v,he,hr.later hb,rfl,Val.const hv,h,⟨rfl,rfl⟩,i⟩
end Go.Gh
end
section
namespace Go.Proofs
open Go.Shelf
def Tryz.laysM171_ren :Go.Shelf.Ren:=⟨fun|171=>50|243=>97|246=>150|283=>192|284=>193|285=>194|286=>195|129=>213|317=>231|318=>232|319=>233|320=>234|337=>271|338=>272|n=>n,fun|3=>3|9=>9|2=>2|4=>4|171=>255|0=>0|53=>181|37=>48|5=>5|173=>258|212=>296|51=>157|20=>20|213=>297|46=>49|232=>318|233=>319|n=>n,fun|17=>1|18=>4|19=>5|n=>n⟩
theorem Tryz.laysM171 :Go.Proofs.LaysM.n171 Tryz.prog Tryz.laysM171_ren:={
 mixed:=by kernel_rfl
 f129:=Tryz.func213.trans (congrArg some (by kernel_rfl))
 f171:=Tryz.func50.trans (congrArg some (by kernel_rfl))
 f243:=Tryz.func97.trans (congrArg some (by kernel_rfl))
 f246:=Tryz.func150.trans (congrArg some (by kernel_rfl))
 f283:=Tryz.func192.trans (congrArg some (by kernel_rfl))
 f284:=Tryz.func193.trans (congrArg some (by kernel_rfl))
 f285:=Tryz.func194.trans (congrArg some (by kernel_rfl))
 f286:=Tryz.func195.trans (congrArg some (by kernel_rfl))
 f317:=Tryz.func231.trans (congrArg some (by kernel_rfl))
 f318:=Tryz.func232.trans (congrArg some (by kernel_rfl))
 f319:=Tryz.func233.trans (congrArg some (by kernel_rfl))
 f320:=Tryz.func234.trans (congrArg some (by kernel_rfl))
 f337:=Tryz.func271.trans (congrArg some (by kernel_rfl))
 f338:=Tryz.func272.trans (congrArg some (by kernel_rfl))
 t0:=Tryz.underlying0
 a0:=Tryz.isAgg0
 z0:=Tryz.sizeOf0
 v0:=Tryz.zeroValue0
 t2:=Tryz.underlying2
 a2:=Tryz.isAgg2
 z2:=Tryz.sizeOf2
 v2:=Tryz.zeroValue2
 t3:=Tryz.underlying3
 a3:=Tryz.isAgg3
 z3:=Tryz.sizeOf3
 v3:=Tryz.zeroValue3
 t4:=Tryz.underlying4
 a4:=Tryz.isAgg4
 z4:=Tryz.sizeOf4
 v4:=Tryz.zeroValue4
 t5:=Tryz.underlying5
 a5:=Tryz.isAgg5
 z5:=Tryz.sizeOf5
 v5:=Tryz.zeroValue5
 t9:=Tryz.underlying9
 a9:=Tryz.isAgg9
 z9:=Tryz.sizeOf9
 v9:=Tryz.zeroValue9
 t20:=Tryz.underlying20
 a20:=Tryz.isAgg20
 z20:=Tryz.sizeOf20
 v20:=Tryz.zeroValue20
 t37:=Tryz.underlying48
 a37:=Tryz.isAgg48
 z37:=Tryz.sizeOf48
 v37:=Tryz.zeroValue48
 t46:=Tryz.underlying49
 a46:=Tryz.isAgg49
 z46:=Tryz.sizeOf49
 v46:=Tryz.zeroValue49
 t51:=Tryz.underlying157
 a51:=Tryz.isAgg157
 z51:=Tryz.sizeOf157
 v51:=Tryz.zeroValue157
 t53:=Tryz.underlying181
 a53:=Tryz.isAgg181
 z53:=Tryz.sizeOf181
 v53:=Tryz.zeroValue181
 t171:=Tryz.underlying255
 a171:=Tryz.isAgg255
 z171:=Tryz.sizeOf255
 v171:=Tryz.zeroValue255
 t173:=Tryz.underlying258
 a173:=Tryz.isAgg258
 z173:=Tryz.sizeOf258
 v173:=Tryz.zeroValue258
 t212:=Tryz.underlying296
 a212:=Tryz.isAgg296
 z212:=Tryz.sizeOf296
 v212:=Tryz.zeroValue296
 t213:=Tryz.underlying297
 a213:=Tryz.isAgg297
 z213:=Tryz.sizeOf297
 t232:=Tryz.underlying318
 a232:=Tryz.isAgg318
 z232:=Tryz.sizeOf318
 v232:=Tryz.zeroValue318
 t233:=Tryz.underlying319
 a233:=Tryz.isAgg319
 z233:=Tryz.sizeOf319
 v233:=Tryz.zeroValue319
 g17:=by kernel_rfl
 g18:=by kernel_rfl
 g19:=by kernel_rfl
 i0:=by kernel_rfl
 i2:=by kernel_rfl
 i3:=by kernel_rfl
 i4:=by kernel_rfl
 i5:=by kernel_rfl
 i9:=by kernel_rfl
 i20:=by kernel_rfl
 i37:=by kernel_rfl
 i46:=by kernel_rfl
 i51:=by kernel_rfl
 i53:=by kernel_rfl
 i171:=by kernel_rfl
 i173:=by kernel_rfl
 i212:=by kernel_rfl
 i232:=by kernel_rfl
 i233:=by kernel_rfl
 m17:=by kernel_rfl
 m18:=by kernel_rfl
 m19:=by kernel_rfl }
open Go.RowKit Go.Sort Go.Lib in
theorem Tryz.strconv_Itoa (n:Int)(h0:-9223372036854775808≤n)(h1:n≤9223372036854775807)(w:World)(htab:Lib.TabIs Tryz.prog w "internal/strconv.uint64pow10" .u64 Lib.pow10Tab) :
  Calls Tryz.prog 50 #[.int .i64 n] w fun e w'=>e=.returned (.string ⟨(Lib.itoa n).toArray⟩)∧∃k os,w'=grow (w.drewN k) os:=Any.strconv_Itoa Tryz.laysM171 n h0 h1 w htab
def Tryz.lays212_ren :Go.Shelf.Ren:=⟨fun|212=>85|263=>136|264=>137|n=>n,fun|46=>49|51=>157|146=>179|53=>181|148=>182|n=>n,fun|n=>n⟩
theorem Tryz.lays212 :Go.Proofs.Lays.n212 Tryz.prog Tryz.lays212_ren:={
 mixed:=by kernel_rfl
 f212:=Tryz.func85.trans (congrArg some (by kernel_rfl))
 f263:=Tryz.func136.trans (congrArg some (by kernel_rfl))
 f264:=Tryz.func137.trans (congrArg some (by kernel_rfl))
 t46:=Tryz.underlying49
 a46:=Tryz.isAgg49
 z46:=Tryz.sizeOf49
 v46:=Tryz.zeroValue49
 t51:=Tryz.underlying157
 a51:=Tryz.isAgg157
 z51:=Tryz.sizeOf157
 v51:=Tryz.zeroValue157
 t53:=Tryz.underlying181
 a53:=Tryz.isAgg181
 z53:=Tryz.sizeOf181
 v53:=Tryz.zeroValue181
 t146:=Tryz.underlying179
 a146:=Tryz.isAgg179
 z146:=Tryz.sizeOf179
 v146:=Tryz.zeroValue179
 t148:=Tryz.underlying182
 a148:=Tryz.isAgg182
 z148:=Tryz.sizeOf182
 v148:=Tryz.zeroValue182 }
open Go.RowKit Go.Lib in
theorem Tryz.bits_Mul (x y:Nat)(hx:x<18446744073709551616)(hy:y<18446744073709551616)(w:World) :
  Calls Tryz.prog 85 #[.int .u64 x,.int .u64 y] w fun e w'=>e=.returned (.tuple #[.int .u64 ((x*y/18446744073709551616:Nat):Int),.int .u64 ((x*y%18446744073709551616:Nat):Int)])∧w'=w:=Any.bits_Mul Tryz.lays212 x y hx hy w
def Tryz.lays105_ren :Go.Shelf.Ren:=⟨fun|105=>42|212=>85|99=>86|165=>87|166=>88|170=>89|169=>90|263=>136|264=>137|206=>138|240=>139|241=>140|276=>187|277=>142|n=>n,fun|9=>9|3=>3|4=>4|20=>20|0=>0|46=>49|109=>120|5=>5|72=>125|76=>129|51=>157|146=>179|53=>181|148=>182|70=>123|37=>48|75=>128|127=>184|164=>250|80=>63|n=>n,fun|n=>n⟩
theorem Tryz.lays105 :Go.Proofs.Lays.n105 Tryz.prog Tryz.lays105_ren:={
 mixed:=by kernel_rfl
 f99:=Tryz.func86.trans (congrArg some (by kernel_rfl))
 f105:=Tryz.func42.trans (congrArg some (by kernel_rfl))
 f165:=Tryz.func87.trans (congrArg some (by kernel_rfl))
 f166:=Tryz.func88.trans (congrArg some (by kernel_rfl))
 f169:=Tryz.func90.trans (congrArg some (by kernel_rfl))
 f170:=Tryz.func89.trans (congrArg some (by kernel_rfl))
 f206:=Tryz.func138.trans (congrArg some (by kernel_rfl))
 f212:=Tryz.func85.trans (congrArg some (by kernel_rfl))
 f240:=Tryz.func139.trans (congrArg some (by kernel_rfl))
 f241:=Tryz.func140.trans (congrArg some (by kernel_rfl))
 f263:=Tryz.func136.trans (congrArg some (by kernel_rfl))
 f264:=Tryz.func137.trans (congrArg some (by kernel_rfl))
 f276:=Tryz.func187.trans (congrArg some (by kernel_rfl))
 f277:=Tryz.func142.trans (congrArg some (by kernel_rfl))
 t0:=Tryz.underlying0
 a0:=Tryz.isAgg0
 z0:=Tryz.sizeOf0
 v0:=Tryz.zeroValue0
 t3:=Tryz.underlying3
 a3:=Tryz.isAgg3
 z3:=Tryz.sizeOf3
 v3:=Tryz.zeroValue3
 t4:=Tryz.underlying4
 a4:=Tryz.isAgg4
 z4:=Tryz.sizeOf4
 v4:=Tryz.zeroValue4
 t5:=Tryz.underlying5
 a5:=Tryz.isAgg5
 z5:=Tryz.sizeOf5
 v5:=Tryz.zeroValue5
 t9:=Tryz.underlying9
 a9:=Tryz.isAgg9
 z9:=Tryz.sizeOf9
 v9:=Tryz.zeroValue9
 t20:=Tryz.underlying20
 a20:=Tryz.isAgg20
 z20:=Tryz.sizeOf20
 v20:=Tryz.zeroValue20
 t37:=Tryz.underlying48
 a37:=Tryz.isAgg48
 z37:=Tryz.sizeOf48
 v37:=Tryz.zeroValue48
 t46:=Tryz.underlying49
 a46:=Tryz.isAgg49
 z46:=Tryz.sizeOf49
 v46:=Tryz.zeroValue49
 t51:=Tryz.underlying157
 a51:=Tryz.isAgg157
 z51:=Tryz.sizeOf157
 v51:=Tryz.zeroValue157
 t53:=Tryz.underlying181
 a53:=Tryz.isAgg181
 z53:=Tryz.sizeOf181
 v53:=Tryz.zeroValue181
 t70:=Tryz.underlying123
 a70:=Tryz.isAgg123
 z70:=Tryz.sizeOf123
 v70:=Tryz.zeroValue123
 t72:=Tryz.underlying125
 a72:=Tryz.isAgg125
 z72:=Tryz.sizeOf125
 v72:=Tryz.zeroValue125
 t75:=Tryz.underlying128
 a75:=Tryz.isAgg128
 z75:=Tryz.sizeOf128
 v75:=Tryz.zeroValue128
 t76:=Tryz.underlying129
 a76:=Tryz.isAgg129
 z76:=Tryz.sizeOf129
 v76:=Tryz.zeroValue129
 t109:=Tryz.underlying120
 a109:=Tryz.isAgg120
 z109:=Tryz.sizeOf120
 v109:=Tryz.zeroValue120
 t127:=Tryz.underlying184
 a127:=Tryz.isAgg184
 z127:=Tryz.sizeOf184
 v127:=Tryz.zeroValue184
 t146:=Tryz.underlying179
 a146:=Tryz.isAgg179
 z146:=Tryz.sizeOf179
 v146:=Tryz.zeroValue179
 t148:=Tryz.underlying182
 a148:=Tryz.isAgg182
 z148:=Tryz.sizeOf182
 v148:=Tryz.zeroValue182
 t164:=Tryz.underlying250
 a164:=Tryz.isAgg250
 z164:=Tryz.sizeOf250
 v164:=Tryz.zeroValue250 }
theorem Tryz.Builder_Extra_105 :Builder.Extra Tryz.prog Tryz.lays105_ren:={
 sizeBuilder:=by kernel_rfl
 liesBuilder:=by kernel_rfl
 t5:=Tryz.underlying5
 a5:=Tryz.isAgg5
 z5:=Tryz.sizeOf5
 v5:=Tryz.zeroValue5
 infoByte:=by kernel_rfl
 cellsByte:=by kernel_rfl
 sizeByte:=by kernel_rfl
 neB5:=by decide }
open Go.RowKit Go.Lib in
theorem Tryz.strings_Repeat (s:ByteArray)(c:Nat)(w:World)(hc:c≤9223372036854775807)(hlen:s.size*c≤140737488355328) :
  Calls Tryz.prog 42 #[.string s,.int .i64 c] w fun e w'=>e=.returned (.string ⟨(Lib.repeatL s.data.toList c).toArray⟩)∧Below w.heap.size w w':=Any.strings_Repeat Tryz.lays105 Tryz.Builder_Extra_105 s c w hc hlen
end Go.Proofs
end
section
set_option maxRecDepth 4000
namespace Go.Proofs.YteddogfolceahaaGreatDoor
open Go.Gh Go.RowKit

theorem Repeat_any (l:List UInt8)(n:Nat)(h:SH)(hn:n≤9223372036854775807)(hl:l.length*n≤140737488355328):SRun Tryz.prog 42 [S l,I n] h fun r q=>r=S (Lib.repeatL l n)∧q=h :=
 srun_lib rfl rfl fun w=>Tryz.strings_Repeat ⟨⟨l⟩⟩ n w hn hl

def emap (F:Int→Int)(l:List UInt8):List UInt8:=l.map fun b=>b8 (F b.toNat)
theorem emap_len (F:Int→Int)(l:List UInt8):(emap F l).length=l.length:=List.length_map _
theorem emap_set {F:Int→Int}{l:List UInt8}{i:Nat}(h:i<l.length):(emap F (l.take i)++l.drop i).set ((i:Int)).toNat (b8 (F (bat l (i:Int))))=emap F (l.take (i+1))++l.drop (i+1):=by
 have hl:(emap F (l.take i)).length=i:=by rw[emap_len,List.length_take];omega
 rw[Int.toNat_natCast,List.set_append_right _ _ (by omega),hl,Nat.sub_self,List.drop_eq_getElem_cons h,List.set_cons_zero,bat_get h,btake_snoc h]
 simp only[emap,List.map_append,List.map_cons,List.map_nil,List.append_assoc,List.singleton_append]
theorem emap_at {F:Int→Int}{l:List UInt8}{i:Nat}(h:i<l.length):bat (emap F (l.take i)++l.drop i) (i:Int)=bat l (i:Int):=by
 have hl:(emap F (l.take i)).length=i:=by rw[emap_len,List.length_take];omega
 unfold bat
 rw[Int.toNat_natCast,List.getD_eq_getElem?_getD,List.getD_eq_getElem?_getD,List.getElem?_append_right (by omega),hl,Nat.sub_self,List.getElem?_drop,Nat.add_zero]
theorem each1_any (l:List UInt8)(id:FuncId)(cap:Value)(F:Int→Int)(h:SH)(hl:l.length≤9223372036854775807)(hen:enters Tryz.prog id=true)(hF:∀c,0≤c∧c<256→0≤F c∧F c<256)
  (hf:∀(c:Int) (x:Nat × Blk),0≤c∧c<256→SRun Tryz.prog id [.int .u8 c,cap] (x::h) fun r q=>r=.int .u8 (F c)∧q=x::h) :
  SRun Tryz.prog 43 [S l,.func (.func id) ⟨[]⟩ ⟨[cap]⟩] h fun r q=>r=S (emap F l)∧q=h:=by
 refine zY Tryz.func43 rfl rfl ?_
 repeat'(first|apply zF|apply zB|apply zE|refine jg ?_ ?_|(apply o_toBytes zC;iterate 7 exact rfl)|apply zA|apply zH|((with_reducible apply Sd.mk);first|exact True.intro|(unfold maxLen;omega))|intro A)
 refine zZ (S:=Nat) (fun i=>[(0,S l),(1,.func (.func id) ⟨[]⟩ ⟨[cap]⟩),(5,gsl A 0 l.length l.length 1),(10,gsl A 0 l.length l.length 1),(11,I l.length),(12,I i)]) (fun i=>(A,⟨bytesV (emap F (l.take i)++l.drop i),false⟩)::h)
  (fun i=>i≤l.length) (fun i=>l.length-i) 0 (Nat.zero_le _) jB (by repeat(first|with_reducible exact Take.nil|with_reducible apply Take.c|((with_reducible apply Take.cE);first|exact rfl|(apply blkE;(focus first|exact rfl|exact yI rfl|exact yO rfl|exact congrArg (fun v=>[v]) (gslE rfl rfl (by first|rfl|exact ‹_›|omega|(simp ;first|done|omega)) (by first|rfl|exact ‹_›|omega|(simp ;first|done|omega)) rfl))))|with_reducible apply Take.drop)) ?_
 intro i hi
 by_cases hil:i<l.length
 ·have hX:(emap F (l.take i)++l.drop i).length=l.length:=by rw[List.length_append,emap_len,List.length_take,List.length_drop];omega
  have hat:=emap_at (F:=F) hil
  have hst:=emap_set (F:=F) hil
  generalize emap F (l.take i)++l.drop i=X at hX hat hst ⊢
  have hb:0≤bat X (i:Int)∧bat X (i:Int)<256:=⟨bat_lo _ _,bat_hi _ _⟩
  have hFb:=hF _ hb
  rw[←hat]at hst
  repeat'(first|apply zF|apply zB|apply zE|refine jg ?_ ?_|(apply o_ar zC;exact rfl;exact rfl)|(apply zM zC;(iterate 3 exact rfl);exact pk)|(apply zX zC;(iterate 4 exact rfl);exact up)|(apply zD;exact rfl;exact rfl;(focus first|assumption);exact rfl;exact⟨_,hf _ _ hb,jN⟩;rintro _ _ ⟨rfl,rfl⟩)|refine jd ?_|apply zA|apply zG|apply zI|apply zH|exact jO|((with_reducible apply Ln.mk);first|(simp ;first|done|omega))|exact jW|((with_reducible apply Ce.mk);first|exact cell_bytes (by omega))|((with_reducible apply Se.mk);first|exact setAt_bytes (by omega) (by omega))|exact True.intro|exact rfl)
  exact⟨i+1,by show i+1≤_;omega,by show l.length-(i+1)<l.length-i;omega,jB,by rw[←hst];exact jK⟩
 ·obtain rfl:i=l.length:=by omega
  rw[List.take_length,List.drop_length,List.append_nil]
  have hlen:=emap_len F l
  repeat'(first|apply zF|apply zB|apply zE|refine jg ?_ ?_|(apply o_toString zC;(iterate 6 exact rfl);exact pk)|refine jf ?_|apply zA|apply zK|apply zJ|apply zN|apply zV|exact jS|((with_reducible apply Ln.mk);first|exact ‹_›|(simp ;first|done|omega))|exact jU|exact True.intro|exact rfl)
  exact jG
theorem each0_any (l:List UInt8)(id:FuncId)(F:Int→Int)(h:SH)(hl:l.length≤9223372036854775807)(hen:enters Tryz.prog id=true)(hF:∀c,0≤c∧c<256→0≤F c∧F c<256)
  (hf:∀(c:Int) (x:Nat × Blk),0≤c∧c<256→SRun Tryz.prog id [.int .u8 c] (x::h) fun r q=>r=.int .u8 (F c)∧q=x::h) :
  SRun Tryz.prog 43 [S l,.func (.func id) ⟨[]⟩ ⟨[]⟩] h fun r q=>r=S (emap F l)∧q=h:=by
 refine zY Tryz.func43 rfl rfl ?_
 repeat'(first|apply zF|apply zB|apply zE|refine jg ?_ ?_|(apply o_toBytes zC;iterate 7 exact rfl)|apply zA|apply zH|((with_reducible apply Sd.mk);first|exact True.intro|(unfold maxLen;omega))|intro A)
 refine zZ (S:=Nat) (fun i=>[(0,S l),(1,.func (.func id) ⟨[]⟩ ⟨[]⟩),(5,gsl A 0 l.length l.length 1),(10,gsl A 0 l.length l.length 1),(11,I l.length),(12,I i)]) (fun i=>(A,⟨bytesV (emap F (l.take i)++l.drop i),false⟩)::h)
  (fun i=>i≤l.length) (fun i=>l.length-i) 0 (Nat.zero_le _) jB (by repeat(first|with_reducible exact Take.nil|with_reducible apply Take.c|((with_reducible apply Take.cE);first|exact rfl|(apply blkE;(focus first|exact rfl|exact yI rfl|exact yO rfl|exact congrArg (fun v=>[v]) (gslE rfl rfl (by first|rfl|exact ‹_›|omega|(simp ;first|done|omega)) (by first|rfl|exact ‹_›|omega|(simp ;first|done|omega)) rfl))))|with_reducible apply Take.drop)) ?_
 intro i hi
 by_cases hil:i<l.length
 ·have hX:(emap F (l.take i)++l.drop i).length=l.length:=by rw[List.length_append,emap_len,List.length_take,List.length_drop];omega
  have hat:=emap_at (F:=F) hil
  have hst:=emap_set (F:=F) hil
  generalize emap F (l.take i)++l.drop i=X at hX hat hst ⊢
  have hb:0≤bat X (i:Int)∧bat X (i:Int)<256:=⟨bat_lo _ _,bat_hi _ _⟩
  have hFb:=hF _ hb
  rw[←hat]at hst
  repeat'(first|apply zF|apply zB|apply zE|refine jg ?_ ?_|(apply o_ar zC;exact rfl;exact rfl)|(apply zM zC;(iterate 3 exact rfl);exact pk)|(apply zX zC;(iterate 4 exact rfl);exact up)|(apply zD;exact rfl;exact rfl;(focus first|assumption);exact rfl;exact⟨_,hf _ _ hb,jN⟩;rintro _ _ ⟨rfl,rfl⟩)|refine jd ?_|apply zA|apply zG|apply zI|apply zH|exact jO|((with_reducible apply Ln.mk);first|(simp ;first|done|omega))|exact jW|((with_reducible apply Ce.mk);first|exact cell_bytes (by omega))|((with_reducible apply Se.mk);first|exact setAt_bytes (by omega) (by omega))|exact True.intro|exact rfl)
  exact⟨i+1,by show i+1≤_;omega,by show l.length-(i+1)<l.length-i;omega,jB,by rw[←hst];exact jK⟩
 ·obtain rfl:i=l.length:=by omega
  rw[List.take_length,List.drop_length,List.append_nil]
  have hlen:=emap_len F l
  repeat'(first|apply zF|apply zB|apply zE|refine jg ?_ ?_|(apply o_toString zC;(iterate 6 exact rfl);exact pk)|refine jf ?_|apply zA|apply zK|apply zJ|apply zN|apply zV|exact jS|((with_reducible apply Ln.mk);first|exact ‹_›|(simp ;first|done|omega))|exact jU|exact True.intro|exact rfl)
  exact jG
theorem brun_rep (b:UInt8)(k:Nat):Lib.repeatL [b] k=List.replicate k b:=by
 have:=Lib.repeatL_replicate b 1 k
 rwa [Nat.mul_one]at this
theorem Run_any (b:UInt8)(k:Int)(h:SH)(hk:0≤k∧k≤100000):SRun Tryz.prog 42 [S [b],I k] h fun r q=>r=S (List.replicate k.toNat b)∧q=h:=by
 obtain⟨n,rfl⟩:=Int.eq_ofNat_of_zero_le hk.1
 rw[Int.toNat_natCast,←brun_rep]
 exact Repeat_any [b] n h (by omega) (by simp;omega)
def bf (c:Int)(d:Int):Int:=if d=120∨d=122 then c else d
theorem bound1_any (c d:Int)(A:Nat)(h h1:SH)[Pick h A ⟨[.int .u8 c],false⟩ h1]:SRun Tryz.prog 44 [.int .u8 d,gptr A 0 1] h fun r q=>r=.int .u8 (bf c d)∧q=h:=by
 refine zY Tryz.func44 rfl rfl ?_
 repeat'(first|apply zF|apply zB|apply zE|refine jg ?_ ?_|(apply zM zC;(iterate 3 exact rfl);exact pk)|refine jw ?_|refine jk ?_|(apply o_guardF;(iterate 3 exact rfl);all_goals intro hc)|(apply yB;exact rfl)|(apply w_if;exact rfl;all_goals intro hc)|apply zA|apply zP|apply zI|apply zN|exact jS|exact jL|exact jE|exact True.intro|exact rfl)
 all_goals exact jF (k:=by exact⟨by show Value.int _ _=Value.int _ _;unfold bf;simp[*],rfl⟩)
def bnd (c:Int)(l:List UInt8):List UInt8:=List.replicate (128-l.length) 48++emap (bf c) l
theorem bbnd_any (l:List UInt8)(c:Int)(h:SH)(hl:l.length≤128)(hc:0≤c∧c<256):SRun Tryz.prog 20 [S l,.int .u8 c] h fun r q=>r=S (bnd c l)∧q=h:=by
 have hF:∀d,0≤d∧d<256→0≤bf c d∧bf c d<256:=fun d hd=>by unfold bf;split <;> omega
 have hR:∀h,SRun Tryz.prog 42 [S [48],I ((128:Int)-l.length)] h fun r q=>r=S (List.replicate (128-l.length) 48)∧q=h:=fun h=>by
  have:=Run_any 48 ((128:Int)-l.length) h (by omega)
  rwa [show((128:Int)-l.length).toNat=128-l.length by omega]at this
 have h1:=emap_len (bf c) l
 have h2:(List.replicate (128-l.length) (48:UInt8)).length=128-l.length:=List.length_replicate
 refine zY Tryz.func20 rfl rfl ?_
 repeat'(first|apply zF|apply zB|apply zE|refine jg ?_ ?_|(apply o_ar zC;exact rfl;exact rfl)|refine jx ?_|(apply o_makeFunc;iterate 3 exact rfl)|refine jq ?_ (c:=by exact⟨_,hR _,jN⟩)|refine jq ?_ (c:=by exact⟨_,each1_any l _ _ (bf c) _ (by omega) rfl hF (fun d x _=>bound1_any c d _ _ _),jN⟩)|apply zA|apply zN|exact jO|exact jW|intro A)
 all_goals exact jG

theorem nv_in (c:Int):0≤nv c∧nv c<256:=by unfold nv;(repeat' split) <;> omega
def inv (l:List UInt8):List UInt8:=if isV l then emap nv l else []
theorem Inverse_any (l:List UInt8)(h:SH)(hl:l.length≤9223372036854775807):SRun Tryz.prog 237 [S l] h fun r q=>r=S (inv l)∧q=h:=by
 by_cases hv:isV l
 ·rw[show inv l=emap nv l from if_pos hv]
  refine zR Tryz.func237 rfl rfl ?_
  repeat'(first|apply zF|apply zB|apply zE|refine jg ?_ ?_|(apply o_not;exact rfl;exact rfl)|refine jq ?_ (c:=by exact⟨_,is_any l _ hl,jN⟩)|refine jq ?_ (c:=by exact⟨_,each0_any l _ nv _ hl rfl (fun c _=>nv_in c) (fun c x _=>Inverse1_any c _),jN⟩)|(apply w_ifN;exact rfl;all_goals intro hc)|apply zA|apply zP|apply zI|apply zN|exact jS|fail)
  all_goals first|contradiction|exact jG
 ·rw[show inv l=[] from if_neg hv]
  refine zR Tryz.func237 rfl rfl ?_
  repeat'(first|apply zF|apply zB|apply zE|refine jg ?_ ?_|(apply o_not;exact rfl;exact rfl)|refine jq ?_ (c:=by exact⟨_,is_any l _ hl,jN⟩)|refine jd ?_|apply zA|apply zP|apply zN|exact jS|fail)
  all_goals first|contradiction|exact jG
theorem bat_emap (F:Int→Int)(l:List UInt8)(i:Nat)(hi:i<l.length)(hF:0≤F (bat l (i:Int))∧F (bat l (i:Int))<256):bat (emap F l) (i:Int)=F (bat l (i:Int)):=by
 rw[bat_get (show i<(emap F l).length by rw[emap_len];exact hi),bat_get hi]at *
 simp only[emap,List.getElem_map]
 exact b8_val hF
def addOk (a b:List UInt8):Prop:=isK a∧isK b∧a.length=b.length
instance (a b:List UInt8):Decidable (addOk a b):=inferInstanceAs (Decidable (_∧_∧_))
theorem Add_any (a b:List UInt8)(h:SH)(ha:a.length≤9223372036854775807)(hb:b.length≤9223372036854775807):SRun Tryz.prog 132 [S a,S b] h fun r q=>r=.tuple #[S (if addOk a b then dsum a b a.length 0 else []),B (decide (addOk a b))]∧q=h:=by
 by_cases hk:addOk a b
 ·rw[if_pos hk,decide_eq_true hk]
  obtain⟨h1,h2,h3⟩:=hk
  have g1:=(isK_iff a).1 h1
  have g2:=(isK_iff b).1 h2
  refine zY Tryz.func132 rfl rfl ?_
  repeat'(first|apply zF|apply zB|apply zE|refine jg ?_ ?_|(apply o_not;exact rfl;exact rfl)|refine jq ?_ (c:=by exact⟨_,known_any _ _ ha,jN⟩)|refine jq ?_ (c:=by exact⟨_,known_any _ _ hb,jN⟩)|refine jq ?_ (c:=by exact⟨_,sum_any a b 0 _ g1.1.2.1 h3.symm (.inl rfl) g1.2 (fun i hi=>g2.2 i (by omega)),jN⟩)|refine jw ?_|refine jk ?_|(apply o_guardFN;(iterate 3 exact rfl);all_goals intro hc)|(apply yB;exact rfl)|refine jf ?_|apply zA|apply zP|apply zI|apply zN|exact jS|fail)
  all_goals first|contradiction|(exfalso;omega)|exact jG
 ·rw[if_neg hk,decide_eq_false hk]
  refine zY Tryz.func132 rfl rfl ?_
  repeat'((fail_if_success (show SWp _ _ (Code.seq (Code.region 3 _ _) _) _ _ _));(fail_if_success (show SWp _ _ (Code.region 3 _ _) _ _ _));first|apply zF|apply zB|apply zE|refine jg ?_ ?_|(apply o_not;exact rfl;exact rfl)|refine jq ?_ (c:=by exact⟨_,known_any _ _ ha,jN⟩)|refine jq ?_ (c:=by exact⟨_,known_any _ _ hb,jN⟩)|refine jw ?_|refine jk ?_|(apply o_guardFN;(iterate 3 exact rfl);all_goals intro hc)|(apply yB;exact rfl)|(apply w_ifN;exact rfl;all_goals intro hc)|apply zA|apply zP|apply zI|apply zN|exact jS|fail)
  all_goals first
   |exact jG
   |(exfalso;exact hk ⟨by assumption,by assumption,by omega⟩)
theorem Difference_any (a b:List UInt8)(h:SH)(ha:a.length≤9223372036854775807)(hb:b.length≤9223372036854775807):SRun Tryz.prog 203 [S a,S b] h fun r q=>r=.tuple #[S (if addOk a b then dsum b (emap nv a) b.length 1 else []),B (decide (addOk a b))]∧q=h:=by
 by_cases hk:addOk a b
 ·rw[if_pos hk,decide_eq_true hk]
  obtain⟨h1,h2,h3⟩:=hk
  have g1:=(isK_iff a).1 h1
  have g2:=(isK_iff b).1 h2
  have hI:=fun h=>Inverse_any a h ha
  rw[show inv a=emap nv a from if_pos g1.1]at hI
  have hd:∀i:Nat,i<b.length→bat (emap nv a) (i:Int)=48∨bat (emap nv a) (i:Int)=49:=fun i hi=>by
   rw[bat_emap nv a i (by omega) (nv_in _)]
   rcases g1.2 i (by omega)with e|e <;> rw[e] <;> decide
  refine zY Tryz.func203 rfl rfl ?_
  repeat'(first|apply zF|apply zB|apply zE|refine jg ?_ ?_|(apply o_not;exact rfl;exact rfl)|refine jq ?_ (c:=by exact⟨_,known_any _ _ ha,jN⟩)|refine jq ?_ (c:=by exact⟨_,known_any _ _ hb,jN⟩)|refine jq ?_ (c:=by exact⟨_,hI _,jN⟩)|refine jq ?_ (c:=by exact⟨_,sum_any b (emap nv a) 1 _ g2.1.2.1 (by rw[emap_len];exact h3) (.inr rfl) g2.2 hd,jN⟩)|refine jw ?_|refine jk ?_|(apply o_guardFN;(iterate 3 exact rfl);all_goals intro hc)|(apply yB;exact rfl)|refine jf ?_|apply zA|apply zP|apply zI|apply zN|exact jS|fail)
  all_goals first|contradiction|(exfalso;omega)|exact jG
 ·rw[if_neg hk,decide_eq_false hk]
  refine zY Tryz.func203 rfl rfl ?_
  repeat'((fail_if_success (show SWp _ _ (Code.seq (Code.region 3 _ _) _) _ _ _));(fail_if_success (show SWp _ _ (Code.region 3 _ _) _ _ _));first|apply zF|apply zB|apply zE|refine jg ?_ ?_|(apply o_not;exact rfl;exact rfl)|refine jq ?_ (c:=by exact⟨_,known_any _ _ ha,jN⟩)|refine jq ?_ (c:=by exact⟨_,known_any _ _ hb,jN⟩)|refine jw ?_|refine jk ?_|(apply o_guardFN;(iterate 3 exact rfl);all_goals intro hc)|(apply yB;exact rfl)|(apply w_ifN;exact rfl;all_goals intro hc)|apply zA|apply zP|apply zI|apply zN|exact jS|fail)
  all_goals first
   |exact jG
   |(exfalso;exact hk ⟨by assumption,by assumption,by omega⟩)

def cmpR (a b:List UInt8):Int × Bool :=
 if ¬(isV a∧isV b)then(0,false)else if Op.bytesLess (bnd 49 a) (bnd 48 b)=true then(-1,true)
 else if(!(Op.bytesLess (bnd 48 a) (bnd 49 b) || (bnd 48 a == bnd 49 b)))=true then(1,true)else(0,decide (isK a) && decide (isK b))
theorem Compare_any (a b:List UInt8)(h:SH)(ha:a.length≤9223372036854775807)(hb:b.length≤9223372036854775807):SRun Tryz.prog 7 [S a,S b] h fun r q=>r=.tuple #[I (cmpR a b).1,B (cmpR a b).2]∧q=h:=by
 by_cases hv:isV a∧isV b
 ·have e:cmpR a b=if Op.bytesLess (bnd 49 a) (bnd 48 b)=true then(-1,true)else if(!(Op.bytesLess (bnd 48 a) (bnd 49 b) || (bnd 48 a == bnd 49 b)))=true then(1,true)else(0,decide (isK a) && decide (isK b)):=if_neg (fun g=>g hv)
  obtain⟨va,vb⟩:=hv
  have hB1:=fun h=>bbnd_any a 49 h va.2.1 (by decide)
  have hB2:=fun h=>bbnd_any b 48 h vb.2.1 (by decide)
  have hB3:=fun h=>bbnd_any a 48 h va.2.1 (by decide)
  have hB4:=fun h=>bbnd_any b 49 h vb.2.1 (by decide)
  refine zY Tryz.func7 rfl rfl ?_
  repeat'(first|apply zF|apply zB|apply zE|refine jg ?_ ?_|(apply o_not;exact rfl;exact rfl)|refine jq ?_ (c:=by exact⟨_,is_any _ _ ha,jN⟩)|refine jq ?_ (c:=by exact⟨_,is_any _ _ hb,jN⟩)|refine jq ?_ (c:=by exact⟨_,known_any _ _ ha,jN⟩)|refine jq ?_ (c:=by exact⟨_,known_any _ _ hb,jN⟩)|refine jq ?_ (c:=by exact⟨_,hB1 _,jN⟩)|refine jq ?_ (c:=by exact⟨_,hB2 _,jN⟩)|refine jq ?_ (c:=by exact⟨_,hB3 _,jN⟩)|refine jq ?_ (c:=by exact⟨_,hB4 _,jN⟩)|refine jw ?_|refine jk ?_|(apply o_guardFN;(iterate 3 exact rfl);all_goals intro hc)|(apply o_guardT;(iterate 3 exact rfl);all_goals intro hc)|(apply yB;exact rfl)|(apply w_ifN;exact rfl;all_goals intro hc)|(apply w_ifB;exact rfl;all_goals intro hc)|apply zA|apply zP|apply zG|apply yP|apply zI|apply zN|apply zH|exact jS|fail)
  all_goals first|contradiction|exact jF (k:=by exact⟨by rw[e];simp[*];rfl,rfl⟩)
 ·rw[show cmpR a b=(0,false)from if_pos hv]
  refine zY Tryz.func7 rfl rfl ?_
  repeat'((fail_if_success (show SWp _ _ (Code.seq (Code.region 3 _ _) _) _ _ _));(fail_if_success (show SWp _ _ (Code.region 3 _ _) _ _ _));first|apply zF|apply zB|apply zE|refine jg ?_ ?_|(apply o_not;exact rfl;exact rfl)|refine jq ?_ (c:=by exact⟨_,is_any _ _ ha,jN⟩)|refine jq ?_ (c:=by exact⟨_,is_any _ _ hb,jN⟩)|refine jw ?_|refine jk ?_|(apply o_guardFN;(iterate 3 exact rfl);all_goals intro hc)|(apply yB;exact rfl)|(apply w_ifN;exact rfl;all_goals intro hc)|apply zA|apply zP|apply yP|apply zN|apply zH|exact jS|fail)
  all_goals first
   |exact jG
   |(exfalso;exact hv ⟨by assumption,by assumption⟩)
def sc (x:List UInt8):Prop:=(bat x 0=bat x 1∧bat x 0≠49)∨(bat x 0=48∧bat x 1=49)
instance (x:List UInt8):Decidable (sc x):=inferInstanceAs (Decidable (_∨_))
def bsh :List UInt8→List UInt8
 |a::b::r=>if sc (a::b::r)then bsh (b::r)else a::b::r
 |l=>l
theorem Shorten_any (l:List UInt8)(h:SH)(hl:l.length≤9223372036854775807):SRun Tryz.prog 166 [S l] h fun r q=>r=S (if isV l then bsh l else [])∧q=h:=by
 by_cases hv:isV l
 ·rw[if_pos hv]
  refine zR Tryz.func166 rfl rfl ?_
  repeat'((fail_if_success (show SWp _ _ (Code.seq (Code.region 3 _ _) _) _ _ _));(fail_if_success (show SWp _ _ (Code.region 3 _ _) _ _ _));first|apply zF|apply zB|apply zE|refine jg ?_ ?_|(apply o_not;exact rfl;exact rfl)|(refine jc ?_ (c:=by exact⟨_,is_any _ _ hl,jN⟩);rintro _ _ ⟨rfl,rfl⟩)|(apply w_ifN;exact rfl;all_goals intro hc)|apply zA|apply zP|apply zI|apply zN|apply zH|exact jS|fail)
  all_goals first
   |contradiction
   |skip
  rename_i q
  refine zZ (S:=List UInt8) (fun x=>[(0,S x)]) (fun _=>q) (fun x=>bsh x=bsh l∧1≤x.length∧x.length≤l.length) (fun x=>x.length) l ⟨rfl,hv.1,Nat.le_refl _⟩ jB jK ?_
  rintro x ⟨hs,h1,h2⟩
  match x,hs,h1,h2 with
  |[a],hs,h1,h2 =>
   rw[←hs]
   repeat'(first|apply zF|apply zB|apply zE|refine jr ?_|refine jg ?_ ?_|refine jk ?_|(apply o_skip_undef;iterate 3 exact rfl)|(apply zS;exact rfl)|apply zA|apply zK|apply zJ|apply zN|apply zV|exact jS|fail)
   all_goals first|(exfalso;omega)|(exfalso;revert h1 h2;simp at *;done)|exact jG
  |a::b::r,hs,h1,h2 =>
   obtain⟨x,hx⟩:∃x,x=a::b::r:=⟨_,rfl⟩
   have hxl:x.length=r.length+2:=by rw[hx];rfl
   have hd:x.drop 1=b::r:=by rw[hx];rfl
   have hsx:bsh x=if sc x then bsh (b::r)else x:=by rw[hx];rfl
   rw[←hx]at hs h1 h2 ⊢
   have hgo:sc x→bsh (b::r)=bsh l:=fun g=>by rw[←hs,hsx,if_pos g]
   have hno:¬sc x→bsh l=x:=fun g=>by rw[←hs,hsx,if_neg g]
   unfold sc at hgo hno
   repeat'(first|apply zF|apply zB|apply zE|refine jr ?_|refine jg ?_ ?_|refine jw ?_|refine jk ?_|(apply o_skip_undef;iterate 3 exact rfl)|refine jh ?_|(apply o_sF;(iterate 3 exact rfl);omega;exact rfl)|(apply o_guardFN;(iterate 3 exact rfl);all_goals intro hc)|(apply o_guardT;(iterate 3 exact rfl);all_goals intro hc)|(apply yB;exact rfl)|(apply zS;exact rfl)|(apply w_if;exact rfl;all_goals intro hc)|apply zA|apply zK|apply zG|apply zJ|apply zI|apply zN|apply zV|apply zH|exact jO|fail)
   all_goals first
    |(exfalso;omega)
    |exact⟨b::r,⟨hgo (by omega),by simp,by show r.length+1≤_;omega⟩,by show r.length+1<_;omega,(by rw[show List.drop (Int.toNat 1) x=b::r from hd];exact jB),jK⟩
    |(rw[hno (by omega)];exact jG)
 ·rw[if_neg hv]
  refine zR Tryz.func166 rfl rfl ?_
  repeat'((fail_if_success (show SWp _ _ (Code.seq (Code.region 3 _ _) _) _ _ _));(fail_if_success (show SWp _ _ (Code.region 3 _ _) _ _ _));first|apply zF|apply zB|apply zE|refine jg ?_ ?_|(apply o_not;exact rfl;exact rfl)|(refine jc ?_ (c:=by exact⟨_,is_any _ _ hl,jN⟩);rintro _ _ ⟨rfl,rfl⟩)|refine jd ?_|apply zA|apply zP|apply zN|exact jS|fail)
  all_goals first
   |contradiction
   |exact jG

theorem subAt_b1 {v:Int}(h:0≤v∧v<256):SubAt [.int .u8 v] 0 (bytesV [b8 v]):=by rw[bytesV_one h];exact zQ
def chs (l:List UInt8):Prop:=1≤l.length∧cn l 0+cn l 1+cn l 2+cn l 3=l.length
instance (l:List UInt8):Decidable (chs l):=inferInstanceAs (Decidable (_∧_))

def allR (w c:Int):List UInt8:=if 1≤w∧w≤128∧0≤cd c then List.replicate w.toNat (b8 c)else []
theorem All_any (w c:Int)(h:SH)(hc:0≤c∧c<256):SRun Tryz.prog 133 [I w,.int .u8 c] h fun r q=>r=S (allR w c)∧q=h:=by
 by_cases hk:1≤w∧w≤128∧0≤cd c
 ·rw[show allR w c=List.replicate w.toNat (b8 c)from if_pos hk]
  have hR:=fun h=>Run_any (b8 c) w h (by omega)
  obtain⟨h1,h2,h3⟩:=hk
  refine zY Tryz.func133 rfl rfl ?_
  repeat'(first|apply zF|apply zB|apply zE|refine jg ?_ ?_|(apply o_not;exact rfl;exact rfl)|refine jb ?_|(apply o_toString zC;(iterate 6 exact rfl);exact pk)|refine jq ?_ (c:=by exact⟨_,Valid1_any _ _,jN⟩)|refine jq ?_ (c:=by exact⟨_,hR _,jN⟩)|refine jw ?_|refine ji ?_|refine jf ?_|apply zA|apply zI|apply zN|exact jS|((with_reducible apply Ln.mk);first|exact(rfl:[b8 _].length=1)|rfl)|((with_reducible apply Su.mk);first|exact subAt_b1 (by omega))|exact True.intro|intro A|exact rfl)
  all_goals first|contradiction|(exfalso;omega)|exact jG
 ·rw[show allR w c=[] from if_neg hk]
  refine zY Tryz.func133 rfl rfl ?_
  repeat'((fail_if_success (show SWp _ _ (Code.seq (Code.region 3 _ _) _) _ _ _));(fail_if_success (show SWp _ _ (Code.region 3 _ _) _ _ _));first|apply zF|apply zB|apply zE|refine jg ?_ ?_|(apply o_not;exact rfl;exact rfl)|refine jq ?_ (c:=by exact⟨_,Valid1_any _ _,jN⟩)|refine jw ?_|refine jk ?_|(apply o_guardF;(iterate 3 exact rfl);all_goals intro hc)|(apply yB;exact rfl)|refine jd ?_|apply zA|apply zP|apply zN|exact jS|fail)
  all_goals first|(exfalso;omega)|exact jG

def zmap (F:Int→Int→Int)(a b:List UInt8):List UInt8:=List.zipWith (fun x y=>b8 (F x.toNat y.toNat)) a b
theorem zmap_len (F:Int→Int→Int){a b:List UInt8}(h:a.length=b.length):(zmap F a b).length=a.length:=by unfold zmap;rw[List.length_zipWith];omega
theorem zmap_snoc (F:Int→Int→Int){a b:List UInt8}{i:Nat}(ha:i<a.length)(hb:i<b.length):zmap F (a.take i) (b.take i)++[b8 (F (bat a (i:Int)) (bat b (i:Int)))]=zmap F (a.take (i+1)) (b.take (i+1)):=by
 unfold zmap
 rw[btake_snoc ha,btake_snoc hb,List.zipWith_append (by rw[List.length_take,List.length_take];omega),bat_get ha,bat_get hb]
 rfl
theorem fill_at (X:List UInt8){n i:Nat}(hX:X.length=i)(h:i<n)(b:UInt8):(X++List.replicate (n-i) 0).set ((i:Int)).toNat b=(X++[b])++List.replicate (n-(i+1)) 0:=by
 rw[Int.toNat_natCast,List.set_append_right _ _ (by omega),hX,Nat.sub_self,show n-i=(n-(i+1))+1 by omega,List.replicate_succ,List.set_cons_zero]
 simp
theorem ch_in (k:Int):0≤ch k∧ch k<256:=by
 unfold ch;split
 ·exact⟨bat_lo _ _,bat_hi _ _⟩
 ·decide
def mxc (x y:Int):Int:=ch ((cd x+cd y)%2+2*((cd x/2+cd y/2)%2))
def mxR (a b:List UInt8):List UInt8 × Int:=if ¬(isV a∧isV b)then([],1)else if a.length≠b.length then([],8)else(zmap mxc a b,0)
theorem w_xor {x y:Int}(hx:0≤x∧x<4)(hy:0≤y∧y<4):IntKind.i64.wrap ((BitVec.ofInt IntKind.i64.bits x^^^BitVec.ofInt IntKind.i64.bits y).toNat:Int)=(x+y)%2+2*((x/2+y/2)%2):=by
 obtain rfl|rfl|rfl|rfl:x=0∨x=1∨x=2∨x=3:=by omega
 all_goals (obtain rfl|rfl|rfl|rfl:y=0∨y=1∨y=2∨y=3:=by omega) <;> decide
theorem Mix_any (a b:List UInt8)(h:SH)(ha:a.length≤9223372036854775807)(hb:b.length≤9223372036854775807):SRun Tryz.prog 134 [S a,S b] h fun r q=>r=.tuple #[S (mxR a b).1,I (mxR a b).2]∧q=h:=by
 by_cases hk:isV a∧isV b
 ·obtain⟨ka,kb⟩:=hk
  have h128:=ka.2.1
  have da:=ka.2.2
  have db:=kb.2.2
  by_cases hl:a.length=b.length
  ·rw[show mxR a b=(zmap mxc a b,0)by unfold mxR;rw[if_neg (fun g=>g ⟨ka,kb⟩),if_neg (fun g=>g hl)]]
   have hzr:zrow (.int .u8 0) (a.length*1)=bytesV (List.replicate a.length 0):=map_zrow (f:=byteV) 0 rfl rfl a.length
   refine zY Tryz.func134 rfl rfl ?_
   repeat'((fail_if_success (show SWp _ _ (Code.seq (Code.region 5 _ _) _) _ _ _));(fail_if_success (show SWp _ _ (Code.region 5 _ _) _ _ _));first|apply zF|apply zB|apply zE|refine jg ?_ ?_|(apply o_not;exact rfl;exact rfl)|(refine jc ?_ (c:=by exact⟨_,is_any _ _ ha,jN⟩);rintro _ _ ⟨rfl,rfl⟩)|(refine jc ?_ (c:=by exact⟨_,is_any _ _ hb,jN⟩);rintro _ _ ⟨rfl,rfl⟩)|refine jw ?_|refine jk ?_|(apply o_guardFN;(iterate 3 exact rfl);all_goals intro hc)|(apply yB;exact rfl)|refine jf ?_|(apply w_ifN;exact rfl;all_goals intro hc)|apply zA|apply zP|apply zI|apply zN|exact jS|fail)
   all_goals first
    |exact jX
    |skip
   rename_i q
   repeat'(first|apply zF|apply zB|apply zE|refine jg ?_ ?_|(apply o_makeSlice zC;(iterate 6 exact rfl);decide;omega;(focus first|exact hzr);exact rfl)|apply zA|apply zH|exact jS|intro A)
   refine zZ (S:=Nat) (fun i=>[(0,S a),(1,S b),(6,gsl A 0 (a.length*1) a.length 1),(25,I a.length),(26,I i)]) (fun i=>(A,⟨bytesV (zmap mxc (a.take i) (b.take i)++List.replicate (a.length-i) 0),false⟩)::q) (fun i=>i≤a.length) (fun i=>a.length-i) 0 (Nat.zero_le _) jB (.consE .head (by simp[zmap]) .nil) ?_
   intro i hi
   by_cases hil:i<a.length
   ·have hX:(zmap mxc (a.take i) (b.take i)).length=i:=by rw[zmap_len _ (by rw[List.length_take,List.length_take];omega),List.length_take];omega
    have hst:=zmap_snoc mxc hil (show i<b.length by omega)
    have hfi:=fill_at (n:=a.length) _ hX hil (b8 (mxc (bat a (i:Int)) (bat b (i:Int))))
    rw[hst]at hfi
    have hXl:(zmap mxc (a.take i) (b.take i)++List.replicate (a.length-i) 0).length=a.length:=by rw[List.length_append,hX,List.length_replicate];omega
    have g1:=da i hil
    have g2:=db i (by omega)
    have hc1:=cd_in (bat a (i:Int))
    have hc2:=cd_in (bat b (i:Int))
    have hc:0≤mxc (bat a (i:Int)) (bat b (i:Int))∧mxc (bat a (i:Int)) (bat b (i:Int))<256:=ch_in _
    have hC:=fun h=>Char_any ((cd (bat a (i:Int))+cd (bat b (i:Int)))%2+2*((cd (bat a (i:Int))/2+cd (bat b (i:Int))/2)%2)) h
    rw[show ch ((cd (bat a (i:Int))+cd (bat b (i:Int)))%2+2*((cd (bat a (i:Int))/2+cd (bat b (i:Int))/2)%2))=mxc (bat a (i:Int)) (bat b (i:Int))from rfl]at hC
    generalize zmap mxc (a.take i) (b.take i)++List.replicate (a.length-i) 0=X at hXl hfi ⊢
    generalize mxc (bat a (i:Int)) (bat b (i:Int))=c at *
    repeat'(first|apply zF|apply zB|apply zE|refine jr ?_|refine jg ?_ ?_|(apply o_ar zC;exact rfl;exact rfl)|(apply zX zC;(iterate 4 exact rfl);exact up)|(apply yS;(iterate 4 exact rfl);exact⟨_,Code_any _ _,jN⟩;exact fun _ _ h=>h.1;(focus(repeat(first|exact Flat.c rfl))))|(apply yS;(iterate 4 exact rfl);exact⟨_,hC _,jN⟩;exact fun _ _ h=>h.1;(focus(repeat(first|exact Flat.c rfl))))|refine jd ?_|apply zA|apply zG|apply zI|apply zH|exact jO|((with_reducible apply Ln.mk);first|(simp ;first|done|omega))|((with_reducible apply Wr.mk);first|exact w_xor (by omega) (by omega)|exact IntWalk.i64_in _ (by omega))|((with_reducible apply Se.mk);first|exact setAt_bytes (by omega) (by omega))|exact True.intro|exact Or.inl rfl|apply And.intro)
    all_goals first
     |exact⟨i+1,hil,by show a.length-(i+1)<a.length-i;omega,jB,by rw[←hfi];exact jK⟩
   ·obtain rfl:i=a.length:=by omega
    rw[Nat.sub_self,List.replicate_zero,List.append_nil,List.take_length,List.take_of_length_le (by omega)]
    have hX:(zmap mxc a b).length=a.length:=zmap_len _ hl
    generalize zmap mxc a b=X at hX ⊢
    repeat'(first|apply zF|apply zB|apply zE|refine jg ?_ ?_|(apply o_toString zC;(iterate 6 exact rfl);exact pk)|refine jf ?_|apply zA|apply zK|apply zJ|apply zN|apply zV|exact jS|((with_reducible apply Ln.mk);first|exact ‹_›|(simp ;first|done|omega))|exact jU|exact True.intro|exact rfl)
    all_goals first|(exfalso;omega)|exact jG
  ·rw[show mxR a b=([],8)by unfold mxR;rw[if_neg (fun g=>g ⟨ka,kb⟩),if_pos hl]]
   refine zY Tryz.func134 rfl rfl ?_
   repeat'((fail_if_success (show SWp _ _ (Code.seq (Code.region 5 _ _) _) _ _ _));(fail_if_success (show SWp _ _ (Code.region 5 _ _) _ _ _));first|apply zF|apply zB|apply zE|refine jg ?_ ?_|(apply o_not;exact rfl;exact rfl)|(refine jc ?_ (c:=by exact⟨_,is_any _ _ ha,jN⟩);rintro _ _ ⟨rfl,rfl⟩)|(refine jc ?_ (c:=by exact⟨_,is_any _ _ hb,jN⟩);rintro _ _ ⟨rfl,rfl⟩)|refine jw ?_|refine jk ?_|(apply o_guardFN;(iterate 3 exact rfl);all_goals intro hc)|(apply yB;exact rfl)|refine jd ?_|(apply w_ifN;exact rfl;all_goals intro hc)|apply zA|apply zP|apply zI|apply zN|exact jS|fail)
   all_goals first|contradiction|(exfalso;omega)|exact jG
 ·rw[show mxR a b=([],1)by unfold mxR;rw[if_pos hk]]
  refine zY Tryz.func134 rfl rfl ?_
  repeat'((fail_if_success (show SWp _ _ (Code.seq (Code.region 3 _ _) _) _ _ _));(fail_if_success (show SWp _ _ (Code.region 3 _ _) _ _ _));first|apply zF|apply zB|apply zE|refine jg ?_ ?_|(apply o_not;exact rfl;exact rfl)|(refine jc ?_ (c:=by exact⟨_,is_any _ _ ha,jN⟩);rintro _ _ ⟨rfl,rfl⟩)|(refine jc ?_ (c:=by exact⟨_,is_any _ _ hb,jN⟩);rintro _ _ ⟨rfl,rfl⟩)|refine jw ?_|refine jk ?_|(apply o_guardFN;(iterate 3 exact rfl);all_goals intro hc)|(apply yB;exact rfl)|(apply w_ifN;exact rfl;all_goals intro hc)|apply zA|apply zP|apply zI|apply zN|exact jS|fail)
  all_goals first
   |exact jG
   |(exfalso;exact hk ⟨by assumption,by assumption⟩)
end Go.Proofs.YteddogfolceahaaGreatDoor
end
section
set_option maxRecDepth 4000
namespace Go.Gh
open Go.RowKit Go.ChangeShapes

theorem vrel_const {φ:Nat→Loc}{L:Lens}:∀{as0:List Value},as0.all yJ=true→VRel φ L as0 as0.toArray
 |as0,h=>⟨by simp,fun i v hi=>⟨v,by simpa using hi,Val.const ((List.all_eq_true.1 h) v (List.mem_of_getElem? hi))⟩⟩

theorem calls_of {P:Program}{f:FuncId}{as0:List Value}(h:SRun P f as0 [] fun r _=>r=B true)(hc:as0.all yJ=true)(W:World)(hg:GW W.heap.size W:=by exact GW.any _ _) :
  Calls P f as0.toArray W fun e W'=>e=.returned (.bool true)∧Below W.heap.size W W':=by
 unfold SRun at h
 have h1:=h [] (.start (fun x hx=>(by cases hx)) List.nodup_nil)
 unfold Run at h1
 have h2:=h1 W.heap.size W (fun _=>⟨0,0,0,false⟩) (lens []) (fun _=>⟨0,0,0,false⟩) W as0.toArray (.refl _ _)
  ⟨Below.refl _ _,Nat.le_refl _,fun A g hA=>(by cases hA),fun A g hA=>(by cases hA),fun A A' g _ hA=>(by cases hA),hg⟩ (vrel_const hc)
 refine h2.mono ?_
 rintro e W' ⟨φ',r,H',v,g1,g2,rfl,g4,q,rfl,g5⟩
 cases g4
 exact⟨rfl,g2.below⟩

section
variable {H:Type} {enc:TypeId × Value→H} {P:Program}
theorem trodAll_below (hl:laidOutB P=true){W W':World}(hb:Below W.heap.size W W'):∀{ts:List TypeId} {vs:List Value} {ds:List (DataW H)} {ps:List MemPlace},
  (ts.all fun t=>P.readableRec t && decide (t<P.types.size))=true→DataW.TrodAll enc P W 0 (fun _=>true) true ts vs ds ps→(∀x∈ps,x.block<W.heap.size) →
  DataW.TrodAll enc P W' 0 (fun b=>decide (b<W.heap.size)) true ts vs ds ps:=by
 intro ts
 induction ts with
 |nil=>intro vs ds ps _ h _;cases vs <;> cases ds <;> first|exact h|exact h.elim
 |cons t ts ih =>
  intro vs ds ps hr h hlt
  simp only[List.all_cons,Bool.and_eq_true,decide_eq_true_eq]at hr
  cases vs with
  |nil=>exact h.elim
  |cons v vs =>
   cases ds with
   |nil=>exact h.elim
   |cons d ds =>
    obtain⟨p,q,h1,h2,rfl⟩:=h
    exact⟨p,q,Below.trod hl hr.1.1 hr.1.2 h1 hb (fun x hx=>hlt x (List.mem_append_left _ hx)),ih (by simpa using hr.2) h2 (fun x hx=>hlt x (List.mem_append_right _ hx)),rfl⟩

theorem post_law {f:Func}{s:ChangeSpec}{W W':World}{args:Array Value}{ds gs:List (DataW H)}{before:List MemPlace}{tb:TypeId}(hl:laidOutB P=true)
  (hW:DataW.Whole enc P f.params.toList s.vars false W args.toList ds gs before) (hv:s.vars=[]) (hr:(f.params.toList.all fun t=>P.readableRec t && decide (t<P.types.size))=true)
  (ht:f.resultTypes=#[tb]) (hk:P.underlying tb=some .bool) (hs:(s.fn H ds).results=[.lit (.bool true)]∧(s.fn H ds).args=ds∧(s.fn H ds).vars=[]) (hb:Below W.heap.size W W') :
  s.post enc P f false true false false W args (.bool true) W':=by
 have hlt:∀p∈before,p.block<W.heap.size:=fun p hp=>hW.lt p hp
 have hW1:=hW
 obtain⟨p,q,h1,h2,h3,h4,h5⟩:=hW1
 rw[hv]at h2
 have hg:gs=[]∧q=[]:=by
  cases gs with
  |nil=>exact⟨rfl,h2⟩
  |cons g gs=>exact h2.elim
 obtain⟨rfl,rfl⟩:=hg
 rw[List.append_nil]at h3
 subst h3
 refine⟨ds,[],before,[],before,[],hW,?_,?_,?_,World.keptBut_mono (fun x hx=>⟨hx,.inr (.inl hx)⟩) (hb.frame (·∈before)),fun h=>by cases h⟩
 ·rw[List.append_nil,hs.1,ht]
  exact⟨[],[],shut_bool hk true,rfl,rfl⟩
 ·rw[List.append_nil,hs.2.1]
  exact trodAll_below hl hb hr h1 hlt
 ·rw[List.append_nil,hs.2.2,hv];rfl
end
end Go.Gh
namespace Go.Gh
open Go.RowKit
theorem wf_i64 {n:Int}(h:(Lit.int .i64 n).wf=true):-9223372036854775808≤n∧n≤9223372036854775807:=by simp[Lit.wf,IntKind.min,IntKind.max,IntKind.signed,IntKind.bits]at h;omega
theorem len_max {l:List UInt8}(h:(⟨⟨l⟩⟩:ByteArray).size≤maxLen):l.length≤9223372036854775807:=by
 have:(⟨⟨l⟩⟩:ByteArray).size=l.length:=rfl
 unfold maxLen at h;omega
end Go.Gh
end
