/- Part 12 of the proof of the law TopCheapest: texts merged. No condition. -/
import Derived.Test.YteddogfolceahaaGreatZTopCheapestK
set_option linter.unusedSimpArgs false
set_option linter.unusedVariables false
section
set_option maxRecDepth 4000
namespace Go.Proofs.YteddogfolceahaaGreat
open Go.Gh Go.RowKit

abbrev Cts :=List (List UInt8 × Int)
def cinc :Cts→List UInt8→Cts
 |[],d=>[(d,1)]
 |e::r,d=>if e.1=d then(d,e.2+1)::r else e::cinc r d
def cgt :Cts→List UInt8→Int
 |[],_=>0
 |e::r,d=>if e.1=d then e.2 else cgt r d
def cM (C:Cts):List (List UInt8 × Value):=C.map fun e=>(e.1,I e.2)
def kys (C:Cts):List (List UInt8):=C.map fun e=>e.1
theorem mget_cM :∀(C:Cts) (d:List UInt8),(mget (cM C) d).getD (I 0)=I (cgt C d)
 |[],_=>rfl
 |e::r,d=>by
  show(if e.1=d then some (I e.2)else mget (cM r) d).getD (I 0)=I (if e.1=d then e.2 else cgt r d)
  split
  ·rfl
  ·exact mget_cM r d
theorem mput_cM :∀(C:Cts) (d:List UInt8),mput (cM C) d (I (cgt C d+1))=cM (cinc C d)
 |[],_=>rfl
 |e::r,d=>by
  by_cases h:e.1=d
  ·have h1:cgt (e::r) d=e.2:=if_pos h
   have h2:cinc (e::r) d=(d,e.2+1)::r:=if_pos h
   rw[h1,h2]
   show(if e.1=d then(d,I (e.2+1))::cM r else(e.1,I e.2)::mput (cM r) d _)=_
   rw[if_pos h];rfl
  ·have h1:cgt (e::r) d=cgt r d:=if_neg h
   have h2:cinc (e::r) d=e::cinc r d:=if_neg h
   rw[h1,h2]
   show(if e.1=d then _ else(e.1,I e.2)::mput (cM r) d (I (cgt r d+1)))=_
   rw[if_neg h,mput_cM r d];rfl
def cok (n:Int)(C:Cts):Prop:=∀e∈C,1≤e.2∧e.2≤n
theorem cok_inc {n:Int}(h0:0≤n):∀{C:Cts} {d:List UInt8},cok n C→cok (n+1) (cinc C d)
 |[],d,_=>fun e he=>by
  obtain rfl:e=(d,1):=List.mem_singleton.1 he
  exact⟨Int.le_refl _,by show 1≤n+1;omega⟩
 |a::r,d,h=>by
  have h1:=h a List.mem_cons_self
  have h2:cok n r:=fun e he=>h e (List.mem_cons_of_mem _ he)
  intro e he
  by_cases hd:a.1=d
  ·rw[show cinc (a::r) d=(d,a.2+1)::r from if_pos hd]at he
   rcases List.mem_cons.1 he with rfl|he
   ·exact⟨by show 1≤a.2+1;omega,by show a.2+1≤n+1;omega⟩
   ·have:=h2 e he;exact⟨this.1,by omega⟩
  ·rw[show cinc (a::r) d=a::cinc r d from if_neg hd]at he
   rcases List.mem_cons.1 he with rfl|he
   ·exact⟨h1.1,by omega⟩
   ·exact cok_inc h0 h2 e he
theorem cok_mono {n m:Int}{C:Cts}(h:cok n C)(k:n≤m):cok m C:=fun e he=>⟨(h e he).1,Int.le_trans (h e he).2 k⟩
theorem cgt_in {n:Int}(h0:0≤n):∀{C:Cts} {d:List UInt8},cok n C→0≤cgt C d∧cgt C d≤n
 |[],_,_=>⟨Int.le_refl _,h0⟩
 |e::r,d,h=>by
  have h1:=h e List.mem_cons_self
  show 0≤(if e.1=d then e.2 else cgt r d)∧(if e.1=d then e.2 else cgt r d)≤n
  split
  ·omega
  ·exact cgt_in h0 fun e he=>h e (List.mem_cons_of_mem _ he)
theorem kys_inc {n:Int}:∀{C:Cts} {d:List UInt8},cok n C→kys (cinc C d)=if cgt C d=0 then kys C++[d] else kys C
 |[],_,_=>rfl
 |e::r,d,h=>by
  have h1:=(h e List.mem_cons_self).1
  by_cases hd:e.1=d
  ·rw[show cinc (e::r) d=(d,e.2+1)::r from if_pos hd,show cgt (e::r) d=e.2 from if_pos hd,if_neg (by omega)]
   show d::kys r=e.1::kys r
   rw[hd]
  ·rw[show cinc (e::r) d=e::cinc r d from if_neg hd,show cgt (e::r) d=cgt r d from if_neg hd]
   have:=kys_inc (d:=d) fun e he=>h e (List.mem_cons_of_mem _ he)
   show e.1::kys (cinc r d)=_
   rw[this]
   split
   ·rfl
   ·rfl
def cN (L:List (List UInt8)):Nat→Cts
 |0=>[]
 |i+1=>if 0<i∧addOk L[i-1]! L[i]! then cinc (cN L i) (dfR L[i-1]! L[i]!)else cN L i
theorem cN_ok (L:List (List UInt8)):∀i:Nat,cok i (cN L i)∧(kys (cN L i)).length≤i
 |0=>⟨fun e he=>(by cases he),Nat.le_refl _⟩
 |i+1=>by
  obtain⟨h1,h2⟩:=cN_ok L i
  by_cases hc:0<i∧addOk L[i-1]! L[i]!
  ·rw[show cN L (i+1)=cinc (cN L i) (dfR L[i-1]! L[i]!)from if_pos hc]
   refine⟨by have:=cok_inc (d:=dfR L[i-1]! L[i]!) (by omega) h1;exact this,?_⟩
   rw[kys_inc h1]
   split
   ·rw[List.length_append];show _+1≤i+1;omega
   ·omega
  ·rw[show cN L (i+1)=cN L i from if_neg hc]
   exact⟨cok_mono h1 (by omega),by omega⟩
theorem drop_bngS {α:Type}[Inhabited α]{l:List α}{i:Nat}(h:i<l.length):l.drop i=l[i]!::l.drop (i+1):=by
 rw[getElem!_pos l i h];exact List.drop_eq_getElem_cons h
def bsp (C:Cts):List UInt8→List (List UInt8)→List UInt8
 |b,[]=>b
 |b,d::r=>bsp C (if cgt C b<cgt C d then d else b) r
def stp (L:List (List UInt8)):List UInt8:=bsp (cN L L.length) [] (kys (cN L L.length))
set_option maxHeartbeats 2000000 in
theorem Step_any (w:Int)(L:List (List UInt8))(v:Value)(h:SH)(hv:Has h (L.map sV) 1 L.length v)(hl:L.length≤4096)(hl0:1≤L.length)(hw:1≤w∧w≤128)(hs:∀s∈L,isV s∧(s.length:Int)=w) :
  SRun Tryz.prog 154 [v] h fun r q=>r=S (stp L)∧q=h:=by
 have hV:=fun h hv=>BValid_any w L v h hv hl hw hs
 obtain⟨ad,fl,rfl,hh⟩:=id hv
 have hlb:(L.map sV).length=L.length:=by simp
 obtain⟨A',ro,h1,rfl,hp⟩:=hh (by omega)
 have h00:(L.map sV)[0+(0:Int).toNat*1]?=some (S L[0]!):=cell_map (i:=0) (by omega)
 have hs0:=(ihas_bang hs (i:=0) (by omega)).2
 rw[←hs0]at hV
 generalize L[0]! = s0 at *
 refine zR Tryz.func154 rfl rfl ?_
 repeat'(first|apply zF|apply zB|apply zE|(apply o_g zC;exact rfl;exact rfl)|(apply yR;exact rfl;exact rfl)|(apply zM zC;(iterate 3 exact rfl);(focus exact pk))|(apply zT zC;(iterate 5 exact rfl);(focus decide);exact rfl;(focus decide);(focus repeat(first|exact CatR.nil));exact rfl)|(apply o_makeMap;exact rfl)|(apply zD;exact rfl;exact rfl;(focus first|exact rfl);exact rfl;(focus exact⟨_,hV _ hv,by repeat with_reducible exact Take.nil⟩);rintro _ _ ⟨rfl,rfl⟩)|(apply zU;exact rfl;exact rfl)|(apply o_gF;(iterate 3 exact rfl);(focus first|omega))|(apply zS;exact rfl)|apply zA|apply zI|apply zH|((with_reducible apply Sd.mk);first|exact True.intro|omega)|((with_reducible apply Ln.mk);first|(simp[hlb];first|done|omega))|((with_reducible apply Ce.mk);first|exact h00)|exact True.intro|intro A|exact rfl)
 all_goals first|contradiction|(exfalso;omega)|skip
 rename SH=>h
 rename_i M
 revert A
 intro A4
 refine zZ (S:=Nat × Nat × Nat × List Value × List (List UInt8 × Value)) (fun s=>[(0,.slice (some ⟨A',0,some (1*L.length)⟩) L.length fl),(3,.map (some M)),(4,gsl A4 0 s.2.1 s.2.2.1 1),(5,I s.1)])
  (fun s=>(A4,⟨s.2.2.2.1,false⟩)::(M,⟨mapC (fun l:List UInt8=>S l) s.2.2.2.2,false⟩)::h) (fun s=>1≤s.1∧s.1≤L.length∧s.2.1=(kys (cN L s.1)).length∧s.2.2.1=(kys (cN L s.1)).length∧s.2.2.2.1=(kys (cN L s.1)).map sV∧s.2.2.2.2=cM (cN L s.1)) (fun s=>L.length-s.1) (1,0*1,0,[],[]) ⟨Nat.le_refl _,hl0,rfl,rfl,rfl,rfl⟩ (by repeat'(first|exact trivial|refine⟨rfl,?_⟩|refine⟨congrArg some ?_,?_⟩)) (by repeat(first|with_reducible exact Take.nil|with_reducible apply Take.c|((with_reducible apply Take.cE);first|exact rfl|(apply blkE;(focus first|exact rfl|exact yI rfl|exact yO rfl|exact congrArg (fun v=>[v]) (gslE rfl rfl (by first|rfl|exact ‹_›|omega|(simp ;first|done|omega)) (by first|rfl|exact ‹_›|omega|(simp ;first|done|omega)) rfl))))|with_reducible apply Take.drop)) ?_
 rintro⟨i,k,n,c,m⟩ ⟨hi1,hi,hk,hn,hc,hm⟩
 dsimp only at hi1 hi hk hn hc hm ⊢
 subst hk hn hc hm
 obtain⟨hC1,hC2⟩:=cN_ok L i
 by_cases hil:i<L.length
 ·have hc1:(L.map sV)[0+((i:Int)).toNat*1]?=some (S L[i]!):=yM hil
  have hc2:(L.map sV)[0+((i:Int)-1).toNat*1]?=some (S L[i-1]!):=by
   rw[show((i:Int)-1).toNat=i-1 by omega];exact cell_map (by omega)
  have hs1:=ihas_bang hs hil
  have hs2:=ihas_bang hs (i:=i-1) (by omega)
  have hstp:cN L (i+1)=if 0<i∧addOk L[i-1]! L[i]! then cinc (cN L i) (dfR L[i-1]! L[i]!)else cN L i:=rfl
  have hA:∀h,SRun Tryz.prog 177 [S L[i-1]!,S L[i]!] h fun r q=>r=.tuple #[S (dfR L[i-1]! L[i]!),B (decide (addOk L[i-1]! L[i]!))]∧q=h:=fun h=>Difference_any _ _ h (by omega) (by omega)
  generalize dfR L[i-1]! L[i]! = d at *
  have hki:=kys_inc (d:=d) hC1
  have hgt:=cgt_in (d:=d) (by omega) hC1
  have hlk:=mget_cM (cN L i) d
  have hpu:=mput_cM (cN L i) d
  have hkb:((kys (cN L i)).map sV).length=(kys (cN L i)).length:=by simp
  generalize cN L i=C at *
  generalize L[i]! = w0 at *
  generalize L[i-1]! = w1 at *
  by_cases hak:addOk w1 w0
  ·rw[if_pos ⟨hi1,hak⟩]at hstp
   rw[decide_eq_true hak]at hA
   generalize kys C=K at *
   repeat'(first|apply zF|apply zB|apply zE|(apply yH;(focus kernel_rfl);(focus kernel_rfl))|(apply o_g zC;exact rfl;exact rfl)|(apply o_ar zC;exact rfl;exact rfl)|(apply zM zC;(iterate 3 exact rfl);(focus exact pk))|(apply zT zC;(iterate 5 exact rfl);(focus decide);exact rfl;(focus decide);(focus repeat(first|exact CatR.nil|(apply CatR.one;exact rfl;exact rfl)));exact rfl)|(apply o_append zC;(iterate 5 exact rfl);(focus exact⟨by decide⟩);(focus exact up);(focus exact pk))|(apply o_lookup (α:=List UInt8) zC;exact rfl;(focus exact pk);exact rfl;(focus exact Tryz.underlying243);(focus exact Tryz.underlying9);(focus exact keyS);exact rfl;exact rfl;(focus first|exact hlk))|(apply o_mapUpdate (α:=List UInt8);exact rfl;(focus exact up);exact rfl;exact rfl;(focus exact Tryz.underlying243);(focus exact Tryz.underlying9);(focus exact keyS))|(apply yS;(iterate 4 exact rfl);(focus exact⟨_,hA _,by repeat with_reducible exact Take.nil⟩);(focus exact fun _ _ h=>h.1);(focus(repeat(first|exact Flat.c rfl))))|(apply yB;exact rfl)|(apply yC;exact rfl;(focus first|omega))|(apply w_if;exact rfl;all_goals intro hc)|apply zA|apply zG|apply zI|apply zH|((with_reducible apply Sd.mk);first|exact True.intro|omega|(constructor <;> first|omega|(unfold maxLen;omega)))|((with_reducible apply Ln.mk);first|rfl|omega|(simp[hlb,hkb];first|done|omega))|((with_reducible apply Wr.mk);first|exact IntWalk.i64_in _ (by omega))|((with_reducible apply Ce.mk);first|exact hc1|exact hc2)|((with_reducible apply Su.mk);first|exact zQ)|exact True.intro|intro A|exact rfl)
   all_goals first
    |contradiction
    |(exfalso;omega)
    |skip
   ·rw[if_pos hc]at hki
    exact⟨(i+1,K.length+1*1,K.length+1,K.map sV++[S d],mput (cM C) d (.int .i64 (cgt C d+1))),⟨by show 1≤i+1;omega,hil,by show K.length+1*1=(kys (cN L (i+1))).length;rw[hstp,hki];simp,by show K.length+1=(kys (cN L (i+1))).length;rw[hstp,hki];simp,by show K.map sV++[S d]=(kys (cN L (i+1))).map sV;rw[hstp,hki];simp,by show mput (cM C) d (I (cgt C d+1))=cM (cN L (i+1));rw[hstp];exact hpu⟩,by show L.length-(i+1)<L.length-i;omega,(by repeat'(first|exact trivial|refine⟨rfl,?_⟩|refine⟨congrArg some ?_,?_⟩)),(by repeat with_reducible first|exact Take.nil|apply Take.c|apply Take.drop)⟩
   ·rw[if_neg hc]at hki
    exact⟨(i+1,K.length,K.length,K.map sV,mput (cM C) d (.int .i64 (cgt C d+1))),⟨by show 1≤i+1;omega,hil,by show K.length=(kys (cN L (i+1))).length;rw[hstp,hki],by show K.length=(kys (cN L (i+1))).length;rw[hstp,hki],by show K.map sV=(kys (cN L (i+1))).map sV;rw[hstp,hki],by show mput (cM C) d (I (cgt C d+1))=cM (cN L (i+1));rw[hstp];exact hpu⟩,by show L.length-(i+1)<L.length-i;omega,(by repeat'(first|exact trivial|refine⟨rfl,?_⟩|refine⟨congrArg some ?_,?_⟩)),(by repeat with_reducible first|exact Take.nil|apply Take.c|apply Take.drop)⟩
  ·rw[if_neg fun g=>hak g.2]at hstp
   rw[decide_eq_false hak]at hA
   repeat'(first|apply zF|apply zB|apply zE|(apply yH;(focus kernel_rfl);(focus kernel_rfl))|(apply o_g zC;exact rfl;exact rfl)|(apply o_ar zC;exact rfl;exact rfl)|(apply zM zC;(iterate 3 exact rfl);(focus exact pk))|(apply yS;(iterate 4 exact rfl);(focus exact⟨_,hA _,by repeat with_reducible exact Take.nil⟩);(focus exact fun _ _ h=>h.1);(focus(repeat(first|exact Flat.c rfl))))|(apply zS;exact rfl)|(apply yC;exact rfl;(focus first|omega))|apply zA|apply zG|apply zI|apply zH|((with_reducible apply Sd.mk);first|exact True.intro|omega)|((with_reducible apply Ln.mk);first|(simp[hlb];first|done|omega))|((with_reducible apply Wr.mk);first|exact IntWalk.i64_in _ (by omega))|((with_reducible apply Ce.mk);first|exact hc1|exact hc2)|exact True.intro|exact rfl)
   all_goals first
    |contradiction
    |(exfalso;omega)
    |exact⟨(i+1,(kys C).length,(kys C).length,(kys C).map sV,cM C),⟨by show 1≤i+1;omega,hil,by show(kys C).length=(kys (cN L (i+1))).length;rw[hstp],by show(kys C).length=(kys (cN L (i+1))).length;rw[hstp],by show(kys C).map sV=(kys (cN L (i+1))).map sV;rw[hstp],by show cM C=cM (cN L (i+1));rw[hstp]⟩,by show L.length-(i+1)<L.length-i;omega,(by repeat'(first|exact trivial|refine⟨rfl,?_⟩|refine⟨congrArg some ?_,?_⟩)),(by repeat with_reducible first|exact Take.nil|apply Take.c|apply Take.drop)⟩
 ·obtain rfl:i=L.length:=by omega
  have hE:bsp (cN L L.length) [] ((kys (cN L L.length)).drop 0)=stp L:=rfl
  generalize cN L L.length=C at *
  generalize kys C=K at *
  have hkb:(K.map sV).length=K.length:=by simp
  repeat'(first|apply zF|apply zB|apply zE|(apply o_g zC;exact rfl;exact rfl)|(apply yD;exact rfl;(focus first|omega))|apply zA|apply zK|apply zJ|apply zV|apply zH|((with_reducible apply Sd.mk);first|exact True.intro))
  all_goals first|contradiction|(exfalso;omega)|skip
  refine zZ (S:=Nat × List UInt8) (fun s=>[(3,.map (some M)),(8,S s.2),(57,gsl A4 0 K.length K.length 1),(58,I K.length),(59,I s.1)])
   (fun _=>(A4,⟨K.map sV,false⟩)::(M,⟨mapC (fun l:List UInt8=>S l) (cM C),false⟩)::h) (fun s=>s.1≤K.length∧bsp C s.2 (K.drop s.1)=stp L) (fun s=>K.length-s.1) (0,[]) ⟨Nat.zero_le _,hE⟩ (by repeat'(first|exact trivial|refine⟨rfl,?_⟩|refine⟨congrArg some ?_,?_⟩)) (by repeat with_reducible first|exact Take.nil|apply Take.c|apply Take.drop) ?_
  rintro⟨j,b⟩ ⟨hj,hb⟩
  dsimp only at hj hb ⊢
  by_cases hjl:j<K.length
  ·have hc1:(K.map sV)[0+((j:Int)).toNat*1]?=some (S K[j]!):=yM hjl
   rw[drop_bngS hjl]at hb
   generalize K[j]! = d at *
   replace hb:bsp C (if cgt C b<cgt C d then d else b) (K.drop (j+1))=stp L:=hb
   have hlk:=mget_cM C d
   have hlb:=mget_cM C b
   generalize cgt C d=x at *
   generalize cgt C b=y at *
   repeat'(first|apply zF|apply zB|apply zE|(apply o_g zC;exact rfl;exact rfl)|(apply o_ar zC;exact rfl;exact rfl)|(apply zM zC;(iterate 3 exact rfl);(focus exact pk))|(apply o_lookup (α:=List UInt8) zC;exact rfl;(focus exact pk);exact rfl;(focus exact Tryz.underlying243);(focus exact Tryz.underlying9);(focus exact keyS);exact rfl;exact rfl;(focus first|exact hlk|exact hlb))|(apply yC;exact rfl;(focus first|omega))|(apply w_if;exact rfl;all_goals intro hc)|apply zA|apply zG|apply zI|apply zH|((with_reducible apply Sd.mk);first|exact True.intro|omega)|((with_reducible apply Ln.mk);first|omega)|((with_reducible apply Wr.mk);first|exact IntWalk.i64_in _ (by omega))|((with_reducible apply Ce.mk);first|exact hc1)|exact True.intro|exact rfl)
   all_goals first
    |contradiction
    |(exfalso;omega)
    |(rw[if_pos (by omega)]at hb;exact⟨(j+1,d),⟨hjl,hb⟩,by show K.length-(j+1)<K.length-j;omega,(by repeat'(first|exact trivial|refine⟨rfl,?_⟩|refine⟨congrArg some ?_,?_⟩)),(by repeat with_reducible first|exact Take.nil|apply Take.c|apply Take.drop)⟩)
    |(rw[if_neg (by omega)]at hb;exact⟨(j+1,b),⟨hjl,hb⟩,by show K.length-(j+1)<K.length-j;omega,(by repeat'(first|exact trivial|refine⟨rfl,?_⟩|refine⟨congrArg some ?_,?_⟩)),(by repeat with_reducible first|exact Take.nil|apply Take.c|apply Take.drop)⟩)
  ·obtain rfl:j=K.length:=by omega
   rw[List.drop_length]at hb
   replace hb:b=stp L:=hb
   subst hb
   repeat'(first|apply zF|apply zB|apply zE|(apply o_g zC;exact rfl;exact rfl)|(apply yD;exact rfl;(focus first|omega))|apply zA|apply zK|apply zJ|apply zN|apply zV|((with_reducible apply Sd.mk);first|exact True.intro))
   all_goals first
    |contradiction
    |(exfalso;omega)
    |(apply zL;(exact(show ResS _ _ _ _ [_] from⟨rfl,trivial⟩));(focus exact⟨rfl,rfl⟩);(focus repeat with_reducible first|exact Take.nil|apply Take.c|apply Take.drop))

inductive Gr3 (h:SH):List Int→List (List UInt8)→Value→Value→SH→Prop
 |nil:Gr3 h [] [] (.slice none 0 0) (.slice none 0 0) h
 |some (A B:Nat) (l:List Int) (m:List (List UInt8)):Gr3 h l m (gsl A 0 l.length l.length 1) (gsl B 0 m.length m.length 1) ((B,⟨m.map sV,false⟩)::(A,⟨nodes l,false⟩)::h)
theorem Gr3.ofc {h:SH}{A B n k n2 k2:Nat}{l:List Int}{m:List (List UInt8)}{c d:List Value}(hc:c=nodes l)(hd:d=m.map sV)(hn:l.length=n)(hk:k=n)(hn2:m.length=n2)(hk2:k2=n2) :
  Gr3 h l m (gsl A 0 k n 1) (gsl B 0 k2 n2 1) ((B,⟨d,false⟩)::(A,⟨c,false⟩)::h):=by
 subst hc hd hn hk hn2 hk2;exact .some A B l m
def xcs (L:List (List UInt8)):List Int:=xcN L (stp L) L.length
def ctP (X:List Int)(j:Nat):Int:=if j=0 then -1 else X[j-1]!
def ctg (X:List Int)(j:Nat):Int:=if j=0 then X[j]! else X[j]!-X[j-1]!-1
def ctG (L:List (List UInt8)):List Int:=(List.range (xcs L).length).map (ctg (xcs L))
def ctV (L:List (List UInt8)):List (List UInt8):=(xcs L).map fun x=>L[x.toNat]!
def cntE (L:List (List UInt8)):List UInt8:=vnum L.length++tx (sh1 L[0]!)++tx (sh1 (stp L))++tx (mEncN (ctG L)).1++rlA ((ctV L).map sh1)
theorem xcs_in {L:List (List UInt8)}:∀x∈xcs L,0≤x∧x<L.length:=by
 intro x hx
 obtain⟨i,hi,rfl⟩:=List.mem_map.1 hx
 have:=List.mem_range.1 (List.mem_filter.1 hi).1
 omega
theorem range_bang {n i:Nat}(h:i<n):(List.range n)[i]! = i:=by
 rw[getElem!_pos _ i (by rw[List.length_range];exact h),List.getElem_range]
set_option maxHeartbeats 4000000 in
theorem counter_any (w:Int)(L:List (List UInt8))(v:Value)(h:SH)(hv:Has h (L.map sV) 1 L.length v)(hl:L.length≤4096)(hl0:1≤L.length)(hw:1≤w∧w≤128)(hs:∀s∈L,isV s∧(s.length:Int)=w)
  (hst:(stp L).length≤128) (hne:xcs L≠[]) (he:(mEncN (ctG L)).1.length≤100000) (k:RlOk ((ctV L).map sh1)) (hr:(rlA ((ctV L).map sh1)).length≤100000) (hb1:(sh1 L[0]!).length≤128) (hb2:(sh1 (stp L)).length≤128) :
  SRun Tryz.prog 127 [.agg ⟨[I w]⟩,v] h fun r q=>r=.tuple #[S (cntE L),B true]∧q=h:=by
 have hsl:∀s∈L,s.length≤128:=fun s hx=>by have:=(hs s hx).2;omega
 have hS:=fun h hv=>Step_any w L v h hv hl hl0 hw hs
 have hX:=fun h hv=>exceptions_any L (stp L) v h hv hl hl0 hsl (by omega) hne
 replace hX:∀h,Has h (L.map sV) 1 L.length v→SRun Tryz.prog 155 [v,S (stp L)] h fun r q=>∃A,r=gsl A 0 (xcs L).length (xcs L).length 1∧q=(A,⟨nodes (xcs L),false⟩)::h:=hX
 have hxl:(xcs L).length≤L.length:=xcN_le L (stp L) L.length
 have hxi:=xcs_in (L:=L)
 have hGl:(ctG L).length=(xcs L).length:=by simp[ctG]
 have hVl:(ctV L).length=(xcs L).length:=by simp[ctV]
 have hVs:∀s∈ctV L,s.length≤100000:=fun s hx=>by
  obtain⟨x,hy,rfl⟩:=List.mem_map.1 hx
  have h1:=xcs_in x hy
  have h2:x.toNat<L.length:=by omega
  have:=hsl _ (mm_bang h2)
  exact Nat.le_trans this (by decide)
 have hG1:∀j,j<(xcs L).length→(ctG L)[j]! = ctg (xcs L) j:=fun j hj=>by unfold ctG;rw[map_bang (by rw[List.length_range];exact hj),range_bang hj]
 have hV1:∀j,j<(xcs L).length→(ctV L)[j]! = L[((xcs L)[j]!).toNat]!:=fun j hj=>by unfold ctV;rw[map_bang hj]
 have hSh:=fun v h hv=>short_gen (ctV L) v h hv (by omega) hVs
 have hRl:=fun v h hv=>REncode_any ((ctV L).map sh1) v h hv k
 have hN:=fun v h hv=>EncodeNumbers_any (ctG L) v h hv (by unfold maxLen;omega)
 have hT1:=fun h=>vText_any (sh1 L[0]!) h (by omega)
 have hT2:=fun h=>vText_any (sh1 (stp L)) h (by omega)
 have hT3:=fun h=>vText_any (mEncN (ctG L)).1 h (by omega)
 have hB1:∀h,SRun Tryz.prog 157 [S L[0]!] h fun r q=>r=S (sh1 L[0]!)∧q=h:=fun h=>Shorten_any _ h (by have:=hsl _ (mm_bang (l:=L) (i:=0) (by omega));omega)
 have hB2:∀h,SRun Tryz.prog 157 [S (stp L)] h fun r q=>r=S (sh1 (stp L))∧q=h:=fun h=>Shorten_any _ h (by omega)
 have hc0:(L.map sV)[0+(0:Int).toNat*1]?=some (S L[0]!):=cell_map (i:=0) (by omega)
 have z1:=vnumT_le L.length;have z2:=vnumT_le (sh1 L[0]!).length;have z3:=vnumT_le (sh1 (stp L)).length;have z4:=vnumT_le (mEncN (ctG L)).1.length
 have k1:=fun h=>Number_any (L.length:Int) h (by omega)
 unfold cntE tx
 clear k
 have hYl:((ctV L).map sh1).length=(ctV L).length:=by simp
 generalize rlA ((ctV L).map sh1)=RR at *
 generalize (ctV L).map sh1=Y at *
 generalize sh1 L[0]! = s1 at *
 generalize sh1 (stp L)=s2 at *
 generalize mEncN (ctG L)=E at *
 obtain⟨e1,e2⟩:=E
 dsimp only at he hT3 z4 ⊢
 generalize L[0]! = l0 at *
 generalize stp L=st at *
 generalize ctG L=GG at *
 generalize ctV L=VV at *
 generalize xcs L=X at *
 obtain⟨ad,fl,rfl,hh⟩:=id hv
 have hlb:(L.map sV).length=L.length:=by simp
 have hxb:(nodes X).length=X.length:=by simp
 obtain⟨A',ro,h1,rfl,hp⟩:=hh (by omega)
 have hX1:0<X.length:=List.length_pos_iff.2 hne
 refine zY Tryz.func127 rfl rfl ?_
 repeat'(first|apply zF|apply zB|apply zE|(apply o_g zC;exact rfl;exact rfl)|(apply o_box (tt:=tyT);iterate 5 exact rfl)|(apply zD;exact rfl;exact rfl;(focus first|exact rfl);exact rfl;(focus exact⟨_,k1 _,by repeat with_reducible exact Take.nil⟩);rintro _ _ ⟨rfl,rfl⟩)|(apply zD;exact rfl;exact rfl;(focus first|exact rfl);exact rfl;(focus exact⟨_,hS _ hv,by repeat with_reducible first|exact Take.nil|apply Take.drop⟩);rintro _ _ ⟨rfl,rfl⟩)|(apply zD;exact rfl;exact rfl;(focus first|exact rfl);exact rfl;(focus exact⟨_,hX _ hv,by repeat with_reducible exact Take.nil⟩);rintro _ _ ⟨A29,rfl,rfl⟩)|(apply yD;exact rfl;(focus first|omega))|apply zA|apply zI|apply zH|((with_reducible apply Sd.mk);first|exact True.intro)|intro A)
 all_goals first|contradiction|(exfalso;omega)|skip
 rename SH=>h
 refine zZ (S:=Nat × Int × Value × Value × SH) (fun s=>[(1,.slice (some ⟨A',0,some (1*L.length)⟩) L.length fl),(6,S (vnum L.length)),(7,S st),(8,s.2.2.1),(9,s.2.2.2.1),(10,I s.2.1),(29,gsl A29 0 X.length X.length 1),(30,I X.length),(31,I s.1)])
  (fun s=>(A29,⟨nodes X,false⟩)::s.2.2.2.2) (fun s=>s.1≤X.length∧s.2.1=ctP X s.1∧Gr3 h (GG.take s.1) (VV.take s.1) s.2.2.1 s.2.2.2.1 s.2.2.2.2) (fun s=>X.length-s.1) (0,-1,.slice none 0 0,.slice none 0 0,h) ⟨Nat.zero_le _,rfl,.nil⟩ (by repeat'(first|exact trivial|refine⟨rfl,?_⟩|refine⟨congrArg some ?_,?_⟩)) (by repeat with_reducible first|exact Take.nil|apply Take.c|apply Take.drop) ?_
 rintro⟨j,p,u1,u2,q⟩ ⟨hj,hpj,hg⟩
 dsimp only at hj hpj hg ⊢
 by_cases hjl:j<X.length
 ·have hcx:(nodes X)[0+((j:Int)).toNat*1]?=some (I X[j]!):=yM hjl
  have hx1:=hxi _ (mm_bang hjl)
  have hcv:(L.map sV)[0+(X[j]!).toNat*1]?=some (S L[(X[j]!).toNat]!):=cell_map (by omega)
  have t1:GG.take (j+1)=GG.take j++[ctg X j]:=by rw[tk_bang (by omega),hG1 j hjl]
  have t2:VV.take (j+1)=VV.take j++[L[(X[j]!).toNat]!]:=by rw[tk_bang (by omega),hV1 j hjl]
  have l1:(GG.take j).length=j:=by rw[List.length_take];omega
  have l2:(VV.take j).length=j:=by rw[List.length_take];omega
  have hpn:X[j]! = ctP X (j+1):=(if_neg (Nat.succ_ne_zero j)).symm
  have hpl:-1000000≤p:=by
   rw[hpj];unfold ctP
   by_cases h0:j=0
   ·rw[if_pos h0];decide
   ·have:=hxi _ (mm_bang (l:=X) (i:=j-1) (by omega))
    rw[if_neg h0];omega
  have hgj:(ctP X j<0∧ctg X j=X[j]!)∨(0≤ctP X j∧ctP X j<L.length∧ctg X j=X[j]!-ctP X j-1):=by
   unfold ctP ctg
   by_cases h0:j=0
   ·rw[if_pos h0,if_pos h0];exact .inl ⟨by decide,rfl⟩
   ·have:=hxi _ (mm_bang (l:=X) (i:=j-1) (by omega))
    rw[if_neg h0,if_neg h0];exact .inr ⟨this.1,this.2,rfl⟩
  generalize GG.take j=X1 at *
  generalize VV.take j=C1 at *
  have b1:(nodes X1).length=j:=by rw[List.length_map,l1]
  have b2:(C1.map sV).length=j:=by rw[List.length_map,l2]
  rw[←hpj]at hgj
  clear hpj
  generalize ctg X j=g at *
  generalize X[j]! = x at *
  generalize L[x.toNat]! = y at *
  have hpb:-1000000≤p∧p≤1000000:=⟨hpl,by omega⟩
  have t1p:p<0→GG.take (j+1)=X1++[x]:=fun g0=>by rw[t1,show g=x by omega]
  have t1n:¬p<0→GG.take (j+1)=X1++[x-p-1]:=fun g0=>by rw[t1,show g=x-p-1 by omega]
  clear t1 hgj
  cases hg with
  |nil =>
   repeat'(first|apply zF|apply zB|apply zE|(apply yH;(focus kernel_rfl);(focus kernel_rfl))|(apply o_g zC;exact rfl;exact rfl)|(apply o_ar zC;exact rfl;exact rfl)|(apply zM zC;(iterate 3 exact rfl);(focus exact pk))|(apply zT zC;(iterate 5 exact rfl);(focus decide);exact rfl;(focus decide);(focus repeat(first|exact CatR.nil|(apply CatR.one;exact rfl;exact rfl)));exact rfl)|(apply o_append_nil zC;(iterate 5 exact rfl);(focus exact⟨by decide⟩);(focus exact pk))|(apply yC;exact rfl;(focus first|omega))|(apply w_if;exact rfl;all_goals intro hc)|apply zA|apply zG|apply zI|apply zH|((with_reducible apply Sd.mk);first|exact True.intro|omega|(constructor <;> first|omega|(unfold maxLen;omega)))|((with_reducible apply Ln.mk);first|rfl|omega|(simp[hlb,hxb,b1,b2,l1,l2];first|done|omega))|((with_reducible apply Wr.mk);first|exact IntWalk.i64_in _ (by omega))|((with_reducible apply Ce.mk);first|exact hcx|exact hcv)|((with_reducible apply Su.mk);first|exact zQ)|exact True.intro|refine Rc.mk ⟨_,_,pk,?_⟩|exact Or.inl rfl|refine Or.inr (And.intro ?_ ?_)|apply And.intro|apply Or.inr|intro A|exact rfl)
   all_goals first|contradiction|(exfalso;omega)|skip
   all_goals rename_i Q0 Q1 Q2
   all_goals first
    |exact⟨(j+1,x,gsl Q1 0 (1*1) 1 1,gsl A 0 (1*1) 1 1,(A,⟨[S y],false⟩)::(Q1,⟨[I x],false⟩)::h),⟨hjl,hpn,by show Gr3 h (GG.take (j+1)) (VV.take (j+1)) _ _ _;rw[t1p hc,t2];exact .ofc (n:=1) (k:=1*1) (n2:=1) (k2:=1*1) rfl rfl rfl rfl rfl rfl⟩,by show X.length-(j+1)<X.length-j;omega,(by repeat'(first|exact trivial|refine⟨rfl,?_⟩|refine⟨congrArg some ?_,?_⟩)),(by repeat(first|with_reducible exact Take.nil|with_reducible apply yL|with_reducible apply Take.c|with_reducible apply Take.drop))⟩
    |exact⟨(j+1,x,gsl Q1 0 (1*1) 1 1,gsl A 0 (1*1) 1 1,(A,⟨[S y],false⟩)::(Q1,⟨[I (x-p-1)],false⟩)::h),⟨hjl,hpn,by show Gr3 h (GG.take (j+1)) (VV.take (j+1)) _ _ _;rw[t1n hc,t2];exact .ofc (n:=1) (k:=1*1) (n2:=1) (k2:=1*1) rfl rfl rfl rfl rfl rfl⟩,by show X.length-(j+1)<X.length-j;omega,(by repeat'(first|exact trivial|refine⟨rfl,?_⟩|refine⟨congrArg some ?_,?_⟩)),(by repeat(first|with_reducible exact Take.nil|with_reducible apply yL|with_reducible apply Take.c|with_reducible apply Take.drop))⟩
  |some P1 P2 _ _ =>
   repeat'(first|apply zF|apply zB|apply zE|(apply yH;(focus kernel_rfl);(focus kernel_rfl))|(apply o_g zC;exact rfl;exact rfl)|(apply o_ar zC;exact rfl;exact rfl)|(apply zM zC;(iterate 3 exact rfl);(focus exact pk))|(apply zT zC;(iterate 5 exact rfl);(focus decide);exact rfl;(focus decide);(focus repeat(first|exact CatR.nil|(apply CatR.one;exact rfl;exact rfl)));exact rfl)|(apply o_append zC;(iterate 5 exact rfl);(focus exact⟨by decide⟩);(focus exact up);(focus exact pk))|(apply yC;exact rfl;(focus first|omega))|(apply w_if;exact rfl;all_goals intro hc)|apply zA|apply zG|apply zI|apply zH|((with_reducible apply Sd.mk);first|exact True.intro|omega|(constructor <;> first|omega|(unfold maxLen;omega)))|((with_reducible apply Ln.mk);first|rfl|omega|(simp[hlb,hxb,b1,b2,l1,l2];first|done|omega))|((with_reducible apply Wr.mk);first|exact IntWalk.i64_in _ (by omega))|((with_reducible apply Ce.mk);first|exact hcx|exact hcv)|((with_reducible apply Su.mk);first|exact zQ)|exact True.intro|refine Rc.mk ⟨_,_,pk,?_⟩|exact Or.inl rfl|refine Or.inr (And.intro ?_ ?_)|apply And.intro|apply Or.inr|intro A|exact rfl)
   all_goals first|contradiction|(exfalso;omega)|skip
   all_goals first
    |exact⟨(j+1,x,gsl P1 0 (X1.length+1*1) (X1.length+1) 1,gsl P2 0 (C1.length+1*1) (C1.length+1) 1,(P2,⟨C1.map sV++[S y],false⟩)::(P1,⟨nodes X1++[I x],false⟩)::h),⟨hjl,hpn,by show Gr3 h (GG.take (j+1)) (VV.take (j+1)) _ _ _;rw[t1p hc,t2];exact .ofc (by simp) (by simp) (by simp) (by omega) (by simp) (by omega)⟩,by show X.length-(j+1)<X.length-j;omega,(by repeat'(first|exact trivial|refine⟨rfl,?_⟩|refine⟨congrArg some ?_,?_⟩)),(by repeat(first|with_reducible exact Take.nil|with_reducible apply yL|with_reducible apply Take.c|with_reducible apply Take.drop))⟩
    |exact⟨(j+1,x,gsl P1 0 (X1.length+1*1) (X1.length+1) 1,gsl P2 0 (C1.length+1*1) (C1.length+1) 1,(P2,⟨C1.map sV++[S y],false⟩)::(P1,⟨nodes X1++[I (x-p-1)],false⟩)::h),⟨hjl,hpn,by show Gr3 h (GG.take (j+1)) (VV.take (j+1)) _ _ _;rw[t1n hc,t2];exact .ofc (by simp) (by simp) (by simp) (by omega) (by simp) (by omega)⟩,by show X.length-(j+1)<X.length-j;omega,(by repeat'(first|exact trivial|refine⟨rfl,?_⟩|refine⟨congrArg some ?_,?_⟩)),(by repeat(first|with_reducible exact Take.nil|with_reducible apply yL|with_reducible apply Take.c|with_reducible apply Take.drop))⟩
 ·obtain rfl:j=X.length:=by omega
  rw[show GG.take X.length=GG by rw[←hGl,List.take_length],show VV.take X.length=VV by rw[←hVl,List.take_length]]at hg
  clear hG1 hV1 hxi hne hpj
  cases hg with
  |nil=>exact absurd hGl (by simp;omega)
  |some P1 P2 _ _ =>
   repeat'(first|apply zF|apply zB|apply zE|(apply o_g zC;exact rfl;exact rfl)|(apply zM zC;(iterate 3 exact rfl);(focus exact pk))|(apply zD;exact rfl;exact rfl;(focus first|exact rfl);exact rfl;(focus exact⟨_,hN _ _ (hasX rfl (.tail (.tail .head))),by repeat with_reducible exact Take.nil⟩);rintro _ _ ⟨rfl,rfl⟩)|(apply zD;exact rfl;exact rfl;(focus first|exact rfl);exact rfl;(focus exact⟨_,hSh _ _ (hasS rfl (.tail .head)),by repeat with_reducible exact Take.nil⟩);rintro _ _ ⟨P3,rfl,rfl⟩)|(apply zD;exact rfl;exact rfl;(focus first|exact rfl);exact rfl;(focus exact⟨_,hRl _ _ (hasS hYl .head),by repeat with_reducible exact Take.nil⟩);rintro _ _ ⟨rfl,rfl⟩)|(apply zD;exact rfl;exact rfl;(focus first|exact rfl);exact rfl;(focus exact⟨_,hB1 _,by repeat with_reducible exact Take.nil⟩);rintro _ _ ⟨rfl,rfl⟩)|(apply zD;exact rfl;exact rfl;(focus first|exact rfl);exact rfl;(focus exact⟨_,hB2 _,by repeat with_reducible exact Take.nil⟩);rintro _ _ ⟨rfl,rfl⟩)|(apply zD;exact rfl;exact rfl;(focus first|exact rfl);exact rfl;(focus exact⟨_,hT1 _,by repeat with_reducible exact Take.nil⟩);rintro _ _ ⟨rfl,rfl⟩)|(apply zD;exact rfl;exact rfl;(focus first|exact rfl);exact rfl;(focus exact⟨_,hT2 _,by repeat with_reducible exact Take.nil⟩);rintro _ _ ⟨rfl,rfl⟩)|(apply zD;exact rfl;exact rfl;(focus first|exact rfl);exact rfl;(focus exact⟨_,hT3 _,by repeat with_reducible exact Take.nil⟩);rintro _ _ ⟨rfl,rfl⟩)|(apply yD;exact rfl;(focus first|omega))|apply zA|apply zK|apply zJ|apply zN|apply zV|((with_reducible apply Sd.mk);first|exact True.intro|omega|(simp only[List.length_append];omega))|((with_reducible apply Ln.mk);first|(simp[hlb];first|done|omega))|((with_reducible apply Ce.mk);first|exact hc0)|exact True.intro|exact rfl)
   all_goals first
    |contradiction
    |(exfalso;omega)
    |(apply zL;(exact(show ResS _ _ _ _ [_,_] from⟨rfl,⟨rfl,trivial⟩⟩));(focus exact⟨rfl,rfl⟩);(focus repeat with_reducible first|exact Take.nil|apply Take.c|apply Take.drop))

abbrev fn0 (f:Nat):Value:=.func (.func f) #[] #[]
abbrev kdB :List Value:=[I 0,I 62,fn0 203,fn0 204,fn0 205,fn0 206]
abbrev kdL :List (Int × Value):=[(0,.agg ⟨kdB⟩),(1,.agg ⟨[I 0,I 0,fn0 202,fn0 208,fn0 209,fn0 211]⟩),(2,.agg ⟨[I 0,I 30,fn0 202,fn0 213,fn0 214,fn0 215]⟩),(3,.agg ⟨[I 0,I 30,fn0 216,fn0 217,fn0 218,fn0 219]⟩),(4,.agg ⟨[I 1,I 4294967296,fn0 220,fn0 221,fn0 223,fn0 224]⟩)]
theorem kinds_any (h:SH):SRun Tryz.prog 187 [] h fun r q=>∃M,r=.map (some M)∧q=(M,⟨mapC (fun n:Int=>I n) kdL,false⟩)::h:=by
 refine w_body0 Tryz.func187 rfl rfl ?_
 repeat'(first|apply zF|apply zB|apply zE|(apply o_g zC;exact rfl;exact rfl)|(apply yT zC;exact rfl;exact rfl;(focus first|with_reducible exact pl234);exact rfl;(focus repeat(first|exact BuildR.nil|(apply BuildR.one;exact rfl;exact rfl;(first|(focus(repeat(first|exact SetAt.zero|apply SetAt.succ));done)))));exact rfl)|(apply o_makeMap;exact rfl)|(apply o_insert0 (α:=Int);exact rfl;(focus exact up);exact rfl;exact rfl;(focus exact Tryz.underlying258);(focus exact Tryz.underlying3);(focus exact keyI))|(apply o_insert (α:=Int);exact rfl;(focus exact up);exact rfl;exact rfl;(focus exact Tryz.underlying258);(focus exact Tryz.underlying3);(focus exact keyI))|apply zA|apply zN|((with_reducible apply Sd.mk);first|exact True.intro)|intro A)
 all_goals first
  |(apply zL;(exact(show ResS _ _ _ _ [_] from⟨rfl,trivial⟩));(focus exact⟨A,rfl,rfl⟩);(focus repeat(first|with_reducible exact Take.nil|with_reducible apply Take.c|((with_reducible apply Take.cE);first|exact rfl|(apply blkE;(focus first|exact rfl|exact yI rfl|exact yO rfl|exact congrArg (fun v=>[v]) (gslE rfl rfl (by first|rfl|exact ‹_›|omega|(simp ;first|done|omega)) (by first|rfl|exact ‹_›|omega|(simp ;first|done|omega)) rfl))))|with_reducible apply Take.drop)))
theorem find_any0 (p:Int)(h:SH)(hp:0≤p∧p≤62):SRun Tryz.prog 163 [I 0,I p] h fun r q=>r=.tuple #[.agg ⟨kdB⟩,B true]∧q=h:=by
 have hk:=kinds_any
 have hlk:(mget kdL 0).getD (.agg ⟨[.int .i64 0,.int .i64 0,.nilFunc,.nilFunc,.nilFunc,.nilFunc]⟩)=.agg ⟨kdB⟩∧(mget kdL 0).isSome=true:=⟨rfl,rfl⟩
 generalize kdL=l at *
 refine zY Tryz.func163 rfl rfl ?_
 repeat'(first|apply zF|apply zB|apply zE|(apply yH;(focus kernel_rfl);(focus kernel_rfl))|(apply o_g zC;exact rfl;exact rfl)|(apply zM zC;(iterate 3 exact rfl);(focus exact pk))|(apply yQ zC;(iterate 3 exact rfl);(focus exact pk))|(apply yE zC;(iterate 4 exact rfl);(focus exact⟨rfl⟩);(focus exact up))|(apply yG zC;iterate 5 exact rfl)|(apply o_lookupc (α:=Int) zC;exact rfl;(focus exact pk);exact rfl;(focus exact Tryz.underlying258);(focus exact Tryz.underlying3);(focus exact keyI);exact rfl;exact rfl;(focus first|exact hlk))|(apply zD;exact rfl;exact rfl;(focus first|exact rfl);exact rfl;(focus exact⟨_,hk _,by repeat with_reducible exact Take.nil⟩);rintro _ _ ⟨M,rfl,rfl⟩)|(apply zU;exact rfl;exact rfl)|(apply o_gT;(iterate 3 exact rfl);(focus first|omega))|apply zA|apply zN|((with_reducible apply Sd.mk);first|exact True.intro)|((with_reducible apply Ln.mk);first|rfl)|((with_reducible apply Ce.mk);first|rfl)|((with_reducible apply Pu.mk);first|exact yA rfl)|((with_reducible apply Su.mk);first|exact zQ)|exact True.intro|refine Rc.mk ⟨_,_,pk,?_⟩|exact Or.inl rfl|apply And.intro|apply Or.inr|intro A|exact rfl)
 all_goals first
  |contradiction
  |(exfalso;omega)
  |(apply zL;(exact(show ResS _ _ _ _ [_,_] from(res_cell zC rfl rfl rfl (by exact pk) (by first|rfl|exact ‹_›|omega|(simp ;first|done|omega)) (by first|rfl|exact ‹_›|omega|(simp ;first|done|omega)) ⟨rfl,trivial⟩)));(focus exact⟨rfl,rfl⟩);(focus repeat with_reducible first|exact Take.nil|apply Take.c|apply Take.drop))
  |(apply zL;(exact(show ResS _ _ _ _ [_,_] from(res_cell zC rfl rfl rfl (by exact pk) (by first|rfl|exact ‹_›|omega|(simp ;first|done|omega)) (by first|rfl|exact ‹_›|omega|(simp ;first|done|omega)) ⟨rfl,trivial⟩)));(focus exact⟨congrArg (fun z:Bool=>Value.tuple #[.agg ⟨kdB⟩,B z]) (decide_eq_true (by omega)),rfl⟩);(focus repeat with_reducible first|exact Take.nil|apply Take.c|apply Take.drop))

def orB (x y:Int):Int:=((BitVec.ofInt 8 x ||| BitVec.ofInt 8 y).toNat:Int)
theorem orB_in (x y:Int):0≤orB x y∧orB x y<256:=by
 unfold orB
 have:=(BitVec.ofInt 8 x ||| BitVec.ofInt 8 y).isLt
 omega
theorem w_orB (x y:Int):IntKind.u8.wrap ((BitVec.ofInt IntKind.u8.bits x ||| BitVec.ofInt IntKind.u8.bits y).toNat:Int)=orB x y:=by
 have:=orB_in x y
 show IntKind.u8.wrap (orB x y)=orB x y
 exact IntWalk.u8_in _ (by omega)
theorem iE {a b:Int}(h:a=b):some (I a)=some (I b):=by rw[h]
def bdat (s:List UInt8 × Nat):List UInt8:=if s.2%8=0 then s.1++[0] else s.1
def wbit (s:List UInt8 × Nat)(b:Int):List UInt8 × Nat :=
 ((bdat s).set (s.2/8) (b8 (orB (bat (bdat s) ((s.2/8:Nat):Int)) (b*2^(7-s.2%8)))),s.2+1)
def putB (s:List UInt8 × Nat)(v:Int):Nat→List UInt8 × Nat
 |0=>s
 |k+1=>putB (wbit s (v/2^k%2)) v k
abbrev wok (s:List UInt8 × Nat):Prop:=s.1.length=(s.2+7)/8
theorem bdat_len {s:List UInt8 × Nat}(h:wok s):(bdat s).length=s.2/8+1:=by
 unfold bdat
 split
 ·rw[List.length_append,h];show _+1=_;omega
 ·rw[h];omega
theorem wbit_ok {s:List UInt8 × Nat}{b:Int}(h:wok s):wok (wbit s b):=by
 have:=bdat_len h
 show((bdat s).set _ _).length=(s.2+1+7)/8
 rw[List.length_set,this];omega
theorem putB_ok {v:Int}:∀(k:Nat) {s:List UInt8 × Nat},wok s→wok (putB s v k)∧(putB s v k).2=s.2+k
 |0,s,h=>⟨h,rfl⟩
 |k+1,s,h=>by
  obtain⟨h1,h2⟩:=putB_ok (v:=v) k (wbit_ok (b:=v/2^k%2) h)
  exact⟨h1,h2.trans (by show s.2+1+k=s.2+(k+1);omega)⟩
inductive WrH (W:Nat)(h:SH):List UInt8 × Nat→SH→Prop
 |nil:WrH W h ([],0) ((W,⟨[.slice none 0 0,I 0],false⟩)::h)
 |some (B:Nat) (d:List UInt8) (n:Nat):WrH W h (d,n) ((W,⟨[gsl B 0 d.length d.length 1,I n],false⟩)::(B,⟨bytesV d,false⟩)::h)
theorem WrH.ofc {W B n k m:Nat}{h:SH}{d:List UInt8}{c:List Value}{x:Int}(hc:c=bytesV d)(hk:k=d.length)(hm:m=d.length)(hx:x=n):WrH W h (d,n) ((W,⟨[gsl B 0 k m 1,I x],false⟩)::(B,⟨c,false⟩)::h):=by
 subst hc hk hm hx;exact .some B d n
theorem w_shlB {y:Int}{n:Nat}(hy:0≤y∧y<2):IntKind.u8.wrap (y*2^(min (7-(n:Int)%8).toNat IntKind.u8.bits))=y*2^(7-n%8):=by
 have e:min (7-(n:Int)%8).toNat IntKind.u8.bits=7-n%8:=by
  rw[show IntKind.u8.bits=8 from rfl];omega
 rw[e]
 have h1:∀k:Nat,k<8→(2:Int)^k≤128∧1≤(2:Int)^k:=by decide
 have h2:=h1 (7-n%8) (by omega)
 rcases(show y=0∨y=1 by omega)with rfl|rfl
 ·rw[Int.zero_mul];rfl
 ·rw[Int.one_mul];exact IntWalk.u8_in _ (by omega)
set_option maxHeartbeats 2000000 in
theorem put_any (W:Nat)(h:SH)(s:List UInt8 × Nat)(q:SH)(v:Int)(c:Nat)(hw:WrH W h s q)(ho:wok s)(hn:s.2+c≤100000)(hc:c≤62) :
  SRun Tryz.prog 176 [gptr W 0 2,I c,I v] q fun r q'=>r=resv []∧WrH W h (putB s v c) q':=by
 obtain⟨R,hR⟩:∃R,putB s v c=R:=⟨_,rfl⟩
 rw[hR]
 refine w_body3 Tryz.func176 rfl rfl ?_
 repeat'(first|apply zF|apply zB|apply zE|(apply o_g zC;exact rfl;exact rfl)|(apply o_ar zC;exact rfl;exact rfl)|apply zA|apply zH|((with_reducible apply Sd.mk);first|exact True.intro)|((with_reducible apply Wr.mk);first|exact IntWalk.i64_in _ (by omega)))
 all_goals first|(exfalso;omega)|skip
 refine zZ (S:=Nat × (List UInt8 × Nat) × SH) (fun x=>[(0,gptr W 0 2),(2,I v),(6,I ((x.1:Int)-1))]) (fun x=>x.2.2) (fun x=>x.1≤c∧WrH W h x.2.1 x.2.2∧wok x.2.1∧x.2.1.2+x.1≤100000∧putB x.2.1 v x.1=R) (fun x=>x.1) (c,s,q) ⟨Nat.le_refl _,hw,ho,hn,hR⟩ (by repeat'(first|exact trivial|refine⟨rfl,?_⟩|refine⟨congrArg some ?_,?_⟩)) (by repeat with_reducible first|exact Take.nil|apply Take.c|apply Take.drop) ?_
 clear hw ho hn hR
 rintro⟨k,⟨d,n⟩,q⟩ ⟨hk,hw,ho,hn,hr⟩
 dsimp only at hk hw ho hn hr ⊢
 cases k with
 |zero =>
  have hr:(d,n)=R:=hr
  repeat'(first|apply zF|apply zB|apply zE|(apply o_g zC;exact rfl;exact rfl)|(apply zS;exact rfl)|apply zA|apply zK|apply zJ|apply zV|((with_reducible apply Sd.mk);first|exact True.intro))
  all_goals first
   |(exfalso;omega)
   |(rw[hr]at hw;(apply s_finN;(exact(show ResS _ _ _ _ [] from trivial));(focus exact⟨rfl,hw⟩);(focus repeat with_reducible first|exact Take.nil|apply Take.c|apply Take.drop)))
 |succ m =>
  replace hr:putB (wbit (d,n) (v/2^m%2)) v m=R:=hr
  have hbo:=wbit_ok (b:=v/2^m%2) ho
  have hdl:=bdat_len ho
  have ho:d.length=(n+7)/8:=ho
  have hq:(n:Int).tdiv 8=((n/8:Nat):Int):=Int.tdiv_eq_ediv_of_nonneg (by omega)
  have hsh:v/2^(min (((m+1:Nat):Int)-1).toNat IntKind.i64.bits)=v/2^m:=by
   rw[show(((m+1:Nat):Int)-1).toNat=m by omega,show IntKind.i64.bits=64 from rfl,show min m 64=m by omega]
  have hbs:wbit (d,n) (v/2^m%2)=((bdat (d,n)).set (n/8) (b8 (orB (bat (bdat (d,n)) ((n/8:Nat):Int)) (v/2^m%2*2^(7-n%8)))),n+1):=rfl
  generalize v/2^m=y at *
  have hsl:=w_shlB (y:=y%2) (n:=n) (by omega)
  have hor:=orB_in (bat (bdat (d,n)) ((n/8:Nat):Int)) (y%2*2^(7-n%8))
  have hcl:(bytesV (bdat (d,n)))[0+((n:Int).tdiv 8).toNat*1]?=some (.int .u8 (bat (bdat (d,n)) ((n/8:Nat):Int))):=by
   rw[hq];exact cell_bytes (by omega)
  have hset:SetAt (bytesV (bdat (d,n))) (0+((n:Int).tdiv 8).toNat*1) (.int .u8 (orB (bat (bdat (d,n)) ((n/8:Nat):Int)) (y%2*2^(7-n%8)))) (bytesV (wbit (d,n) (y%2)).1):=by
   rw[hq,hbs]
   have:=setAt_bytes (l:=bdat (d,n)) (i:=((n/8:Nat):Int)) (by omega) hor
   rwa [Int.toNat_natCast]at this
  have hbl:(bytesV (bdat (d,n))).length=n/8+1:=by rw[show(bytesV (bdat (d,n))).length=(bdat (d,n)).length from by simp[bytesV],hdl]
  have hbn:(wbit (d,n) (y%2)).2=n+1:=rfl
  have hob:n=0→d=[]→bat (bdat (d,n)) ((n/8:Nat):Int)=0:=by rintro rfl rfl;rfl
  generalize y%2*2^(7-n%8)=z at *
  generalize bat (bdat (d,n)) ((n/8:Nat):Int)=o at *
  have hw1:=w_and1i y
  have hgl:((wbit (d,n) (y%2)).1).length=n/8+1:=by have:_=_:=hbo;rw[this];show(n+1+7)/8=_;omega
  obtain⟨d2,hd2⟩:∃d2,(wbit (d,n) (y%2)).1=d2:=⟨_,rfl⟩
  have he:wbit (d,n) (y%2)=(d2,n+1):=by rw[←hd2];rfl
  rw[hd2]at hset hgl
  rw[he]at hr hbo
  clear hbs hd2 he hbn
  by_cases hm:n%8=0
  ·have hbd:bdat (d,n)=d++[0]:=if_pos hm
   rw[hbd]at hcl hset hbl hdl
   rw[show bytesV (d++[0])=bytesV d++[Value.int .u8 0] by simp[bytesV]]at hcl hset hbl
   cases hw with
   |nil =>
    obtain rfl:=hob rfl rfl
    have hw0:IntKind.i64.wrap (Int.tdiv 0 8)=0:=by decide
    repeat'(first|apply zF|apply zB|apply zE|(apply yH;(focus kernel_rfl);(focus kernel_rfl))|(apply o_g zC;exact rfl;exact rfl)|(apply o_ar zC;exact rfl;exact rfl)|(apply o_ex;exact rfl;exact rfl)|(apply zM zC;(iterate 3 exact rfl);(focus exact pk))|(apply zX zC;(iterate 4 exact rfl);(focus exact up))|(apply zT zC;(iterate 5 exact rfl);(focus decide);exact rfl;(focus decide);(focus repeat(first|exact CatR.nil|(apply CatR.one;exact rfl;exact rfl)));exact rfl)|(apply o_append_nil zC;(iterate 5 exact rfl);(focus exact⟨by decide⟩);(focus exact pk))|(apply yB;exact rfl)|(apply yC;exact rfl;(focus first|omega))|apply zA|apply zG|apply zI|apply zH|((with_reducible apply Sd.mk);first|exact True.intro|omega|(constructor <;> first|omega|(unfold maxLen;omega)))|((with_reducible apply Ln.mk);first|rfl)|((with_reducible apply Wr.mk);first|exact hw1|exact hsl|exact w_orB _ _|exact hw0|exact IntWalk.i64_in _ (by omega)|exact IntWalk.u8_in _ (by omega))|((with_reducible apply Ex.mk);first|exact Int.tmod_eq_emod_of_nonneg (by omega)|exact hsh)|((with_reducible apply Ce.mk);first|rfl)|((with_reducible apply Se.mk);first|(focus(repeat(first|exact SetAt.zero|apply SetAt.succ));done))|((with_reducible apply Su.mk);first|exact zQ)|exact True.intro|exact Or.inl rfl|apply And.intro|intro A|exact rfl)
    all_goals first
     |(exfalso;omega)
     |exact⟨(m,(d2,1),(W,⟨[gsl A 0 (1*1) 1 1,.int .i64 (0+1)],false⟩)::(A,⟨[.int .u8 (orB 0 z)],false⟩)::h),⟨by show m≤c;omega,.ofc hset.ok.2.symm hgl.symm hgl.symm rfl,hbo,by show 0+1+m≤100000;omega,hr⟩,by show m<m+1;omega,⟨rfl,rfl,iE (by omega),trivial⟩,(by repeat with_reducible first|exact Take.nil|apply Take.c|apply Take.drop)⟩
   |some B _ _ =>
    repeat'(first|apply zF|apply zB|apply zE|(apply yH;(focus kernel_rfl);(focus kernel_rfl))|(apply o_g zC;exact rfl;exact rfl)|(apply o_ar zC;exact rfl;exact rfl)|(apply o_ex;exact rfl;exact rfl)|(apply zM zC;(iterate 3 exact rfl);(focus exact pk))|(apply zX zC;(iterate 4 exact rfl);(focus exact up))|(apply zT zC;(iterate 5 exact rfl);(focus decide);exact rfl;(focus decide);(focus repeat(first|exact CatR.nil|(apply CatR.one;exact rfl;exact rfl)));exact rfl)|(apply o_append zC;(iterate 5 exact rfl);(focus exact⟨by decide⟩);(focus exact up);(focus exact pk))|(apply yC;exact rfl;(focus first|omega))|apply zA|apply zG|apply zI|apply zH|((with_reducible apply Sd.mk);first|exact True.intro|omega|(constructor <;> first|omega|(unfold maxLen;omega)))|((with_reducible apply Ln.mk);first|rfl|omega|(simp[hbl];first|done|omega))|((with_reducible apply Wr.mk);first|exact hw1|exact hsl|exact w_orB _ _|exact IntWalk.i64_in _ (by omega)|exact IntWalk.u8_in _ (by omega))|((with_reducible apply Ex.mk);first|exact Int.tmod_eq_emod_of_nonneg (by omega)|exact hsh)|((with_reducible apply Ce.mk);first|rfl|exact hcl)|((with_reducible apply Se.mk);first|(focus(repeat(first|exact SetAt.zero|apply SetAt.succ));done)|exact hset)|((with_reducible apply Su.mk);first|exact zQ)|exact True.intro|exact Or.inl rfl|apply And.intro|intro A|exact rfl)
    all_goals first
     |(exfalso;omega)
     |exact⟨(m,(d2,n+1),(W,⟨[gsl B 0 (d.length+1*1) (d.length+1) 1,I ((n:Int)+1)],false⟩)::(B,⟨bytesV d2,false⟩)::h),⟨by show m≤c;omega,.ofc rfl (by omega) (by omega) (by omega),hbo,by show n+1+m≤100000;omega,hr⟩,by show m<m+1;omega,⟨rfl,rfl,iE (by omega),trivial⟩,(by repeat with_reducible first|exact Take.nil|apply Take.c|apply Take.drop)⟩
  ·have hbd:bdat (d,n)=d:=if_neg hm
   rw[hbd]at hcl hset hbl hdl
   cases hw with
   |nil=>exact absurd rfl hm
   |some B _ _ =>
    repeat'(first|apply zF|apply zB|apply zE|(apply yH;(focus kernel_rfl);(focus kernel_rfl))|(apply o_g zC;exact rfl;exact rfl)|(apply o_ar zC;exact rfl;exact rfl)|(apply o_ex;exact rfl;exact rfl)|(apply zM zC;(iterate 3 exact rfl);(focus exact pk))|(apply zX zC;(iterate 4 exact rfl);(focus exact up))|(apply yC;exact rfl;(focus first|omega))|(apply yD;exact rfl;(focus first|omega))|apply zA|apply zG|apply zI|apply zH|((with_reducible apply Sd.mk);first|exact True.intro|omega)|((with_reducible apply Ln.mk);first|rfl|omega|(simp[hbl];first|done|omega))|((with_reducible apply Wr.mk);first|exact hw1|exact hsl|exact w_orB _ _|exact IntWalk.i64_in _ (by omega)|exact IntWalk.u8_in _ (by omega))|((with_reducible apply Ex.mk);first|exact Int.tmod_eq_emod_of_nonneg (by omega)|exact hsh)|((with_reducible apply Ce.mk);first|rfl|exact hcl)|((with_reducible apply Se.mk);first|(focus(repeat(first|exact SetAt.zero|apply SetAt.succ));done)|exact hset)|exact True.intro|exact Or.inl rfl|apply And.intro|exact rfl)
    all_goals first
     |(exfalso;omega)
     |exact⟨(m,(d2,n+1),(W,⟨[gsl B 0 d.length d.length 1,I ((n:Int)+1)],false⟩)::(B,⟨bytesV d2,false⟩)::h),⟨by show m≤c;omega,.ofc rfl (by omega) (by omega) (by omega),hbo,by show n+1+m≤100000;omega,hr⟩,by show m<m+1;omega,⟨rfl,rfl,iE (by omega),trivial⟩,(by repeat with_reducible first|exact Take.nil|apply Take.c|apply Take.drop)⟩

theorem WrH.take {W:Nat}{h q:SH}{s:List UInt8 × Nat}(k:WrH W h s q):Take q h:=by
 cases k with
 |nil=>exact .drop .nil
 |some B d n=>exact .drop (.drop .nil)
theorem kd2_any (p v:Int)(h:SH)(hv:0≤v∧v<4)(hp:p=2):SRun Tryz.prog 203 [I p,I v] h fun r q=>r=B true∧q=h:=by
 subst hp
 have hsh:v/2^(min (2:Int).toNat IntKind.i64.bits)=0:=by
  rw[show min (2:Int).toNat IntKind.i64.bits=2 from rfl];omega
 refine zY Tryz.func203 rfl rfl ?_
 repeat'(first|apply zF|apply zB|apply zE|(apply o_g zC;exact rfl;exact rfl)|(apply o_ex;exact rfl;exact rfl)|(apply zU;exact rfl;exact rfl)|(apply o_gT;(iterate 3 exact rfl);(focus first|omega))|apply zA|apply zN|((with_reducible apply Sd.mk);first|exact True.intro|omega)|((with_reducible apply Ex.mk);first|exact hsh))
 all_goals first
  |(exfalso;omega)
  |(apply zL;(exact(show ResS _ _ _ _ [_] from⟨rfl,trivial⟩));(focus exact⟨rfl,rfl⟩);(focus repeat with_reducible first|exact Take.nil|apply Take.c|apply Take.drop))
theorem kd3_any (p v:Int)(h:SH):SRun Tryz.prog 204 [I p,I v] h fun r q=>r=I p∧q=h:=by
 refine zY Tryz.func204 rfl rfl ?_
 repeat'(first|apply zF|apply zB|apply zE|(apply o_g zC;exact rfl;exact rfl)|apply zA|apply zN|((with_reducible apply Sd.mk);first|exact True.intro))
 all_goals first
  |(apply zL;(exact(show ResS _ _ _ _ [_] from⟨rfl,trivial⟩));(focus exact⟨rfl,rfl⟩);(focus repeat with_reducible first|exact Take.nil|apply Take.c|apply Take.drop))
theorem kd4_any (W:Nat)(h:SH)(s:List UInt8 × Nat)(q:SH)(v:Int)(hw:WrH W h s q)(ho:wok s)(hn:s.2≤99000) :
  SRun Tryz.prog 205 [gptr W 0 2,I 2,I v] q fun r q'=>r=resv []∧WrH W h (putB s v 2) q':=by
 have hP:∀q,WrH W h s q→SRun Tryz.prog 176 [gptr W 0 2,I 2,I v] q fun r q'=>r=resv []∧WrH W h (putB s v 2) q':=fun q hw=>put_any W h s q v 2 hw ho (by omega) (by decide)
 refine w_body3 Tryz.func205 rfl rfl ?_
 repeat'(first|apply zB|apply zE|(apply o_g zC;exact rfl;exact rfl)|(apply zD;exact rfl;exact rfl;(focus first|exact rfl);exact rfl;(focus exact⟨_,hP _ hw,by repeat with_reducible exact Take.nil⟩);rintro _ _ ⟨rfl,hw2⟩)|((with_reducible apply Sd.mk);first|exact True.intro))
 all_goals first
  |(apply s_finN;(exact(show ResS _ _ _ _ [] from trivial));(focus exact⟨rfl,hw2⟩);(focus repeat with_reducible first|exact Take.nil|apply Take.c|apply Take.drop))
set_option maxHeartbeats 2000000 in
theorem Put_any (W:Nat)(h:SH)(s:List UInt8 × Nat)(q:SH)(v:Int)(hw:WrH W h s q)(ho:wok s)(hn:s.2≤60000)(hv:0≤v∧v<4) :
  SRun Tryz.prog 151 [gptr W 0 2,.agg ⟨[I 0,I 2,I v]⟩] q fun r q'=>r=I 0∧WrH W h (putB s v 2) q':=by
 have k1:=fun h=>find_any0 2 h (by decide)
 have k2:=fun h=>kd2_any 2 v h hv rfl
 have k3:=fun h=>kd3_any 2 v h
 have k4:=fun h q hw=>kd4_any W h s q v hw ho (by omega)
 generalize putB s v 2=R at *
 cases hw with
 |nil =>
  refine zY Tryz.func151 rfl rfl ?_
  repeat'(first|apply zF|apply zB|apply zE|(apply yH;(focus kernel_rfl);(focus kernel_rfl))|(apply o_g zC;exact rfl;exact rfl)|(apply o_ar zC;exact rfl;exact rfl)|(apply yR;exact rfl;exact rfl)|(apply zM zC;(iterate 3 exact rfl);(focus exact pk))|(apply yE zC;(iterate 4 exact rfl);(focus exact⟨rfl⟩);(focus exact up))|(apply yG zC;iterate 5 exact rfl)|(apply o_box (tt:=tyT);iterate 5 exact rfl)|(apply zD;exact rfl;exact rfl;(focus first|exact rfl);exact rfl;(focus exact⟨_,k1 _,by repeat with_reducible exact Take.nil⟩);rintro _ _ ⟨rfl,rfl⟩)|(apply zD;exact rfl;exact rfl;(focus first|exact rfl);exact rfl;(focus exact⟨_,k2 _,by repeat with_reducible exact Take.nil⟩);rintro _ _ ⟨rfl,rfl⟩)|(apply yS;(iterate 4 exact rfl);(focus exact⟨_,k3 (lockS h),by repeat(first|with_reducible exact Take.nil|with_reducible apply yL|with_reducible apply Take.drop)⟩);(focus exact fun _ _ h=>h.1);(focus(repeat(first|exact Flat.c rfl))))|(apply zD;exact rfl;exact rfl;(focus first|exact rfl);exact rfl;(focus exact⟨_,k4 h _ .nil,by repeat with_reducible first|exact Take.nil|apply Take.c|apply Take.drop⟩);rintro _ _ ⟨rfl,hw2⟩)|(apply zU;exact rfl;exact rfl)|(apply zS;exact rfl)|apply zA|apply zI|apply zN|((with_reducible apply Sd.mk);first|exact True.intro)|((with_reducible apply Ln.mk);first|rfl)|((with_reducible apply Wr.mk);first|exact IntWalk.i64_in _ (by omega))|((with_reducible apply Ce.mk);first|rfl)|((with_reducible apply Pu.mk);first|exact yA rfl)|exact True.intro|intro A|exact rfl)
  all_goals first
   |contradiction
   |(exfalso;omega)
   |(apply zL;(exact(show ResS _ _ _ _ [_] from⟨rfl,trivial⟩));(focus exact⟨rfl,hw2⟩);(focus repeat(first|with_reducible exact Take.nil|with_reducible apply yL|with_reducible apply Take.c|with_reducible apply Take.drop)))
 |some B d n =>
  have hn:n≤60000:=hn
  refine zY Tryz.func151 rfl rfl ?_
  repeat'(first|apply zF|apply zB|apply zE|(apply yH;(focus kernel_rfl);(focus kernel_rfl))|(apply o_g zC;exact rfl;exact rfl)|(apply o_ar zC;exact rfl;exact rfl)|(apply yR;exact rfl;exact rfl)|(apply zM zC;(iterate 3 exact rfl);(focus exact pk))|(apply yE zC;(iterate 4 exact rfl);(focus exact⟨rfl⟩);(focus exact up))|(apply yG zC;iterate 5 exact rfl)|(apply o_box (tt:=tyT);iterate 5 exact rfl)|(apply zD;exact rfl;exact rfl;(focus first|exact rfl);exact rfl;(focus exact⟨_,k1 _,by repeat with_reducible exact Take.nil⟩);rintro _ _ ⟨rfl,rfl⟩)|(apply zD;exact rfl;exact rfl;(focus first|exact rfl);exact rfl;(focus exact⟨_,k2 _,by repeat with_reducible exact Take.nil⟩);rintro _ _ ⟨rfl,rfl⟩)|(apply yS;(iterate 4 exact rfl);(focus exact⟨_,k3 (lockS h),by repeat(first|with_reducible exact Take.nil|with_reducible apply yL|with_reducible apply Take.drop)⟩);(focus exact fun _ _ h=>h.1);(focus(repeat(first|exact Flat.c rfl))))|(apply zD;exact rfl;exact rfl;(focus first|exact rfl);exact rfl;(focus exact⟨_,k4 h _ (.some B d n),by repeat with_reducible first|exact Take.nil|apply Take.c|apply Take.drop⟩);rintro _ _ ⟨rfl,hw2⟩)|(apply zU;exact rfl;exact rfl)|(apply zS;exact rfl)|(apply yD;exact rfl;(focus first|omega))|apply zA|apply zI|apply zN|((with_reducible apply Sd.mk);first|exact True.intro)|((with_reducible apply Ln.mk);first|rfl)|((with_reducible apply Wr.mk);first|exact IntWalk.i64_in _ (by omega))|((with_reducible apply Ce.mk);first|rfl)|((with_reducible apply Pu.mk);first|exact yA rfl)|exact True.intro|intro A|exact rfl)
  all_goals first
   |contradiction
   |(exfalso;omega)
   |(apply zL;(exact(show ResS _ _ _ _ [_] from⟨rfl,trivial⟩));(focus exact⟨rfl,hw2⟩);(focus repeat(first|with_reducible exact Take.nil|with_reducible apply yL|with_reducible apply Take.c|with_reducible apply Take.drop)))
theorem NewWriter_any (h:SH):SRun Tryz.prog 150 [] h fun r q=>∃W,r=gptr W 0 2∧WrH W h ([],0) q:=by
 refine w_body0 Tryz.func150 rfl rfl ?_
 repeat'(first|apply zF|apply zB|apply zE|(apply o_g zC;exact rfl;exact rfl)|(apply o_box (tt:=tyT);iterate 5 exact rfl)|(apply yT zC;exact rfl;exact rfl;(focus first|with_reducible exact pl250);exact rfl;(focus repeat(first|exact BuildR.nil));exact rfl)|apply zA|apply zN|((with_reducible apply Sd.mk);first|exact True.intro)|intro A)
 all_goals first
  |(apply zL;(exact(show ResS _ _ _ _ [_] from⟨rfl,trivial⟩));(focus exact⟨A,rfl,.nil⟩);(focus repeat with_reducible first|exact Take.nil|apply Take.c|apply Take.drop))
set_option maxHeartbeats 2000000 in
theorem Bytes_any (W B:Nat)(h:SH)(d:List UInt8)(n:Nat)(ho:wok (d,n))(hn:n≤60000) :
  SRun Tryz.prog 153 [gptr W 0 2] ((W,⟨[gsl B 0 d.length d.length 1,I n],false⟩)::(B,⟨bytesV d,false⟩)::h) fun r q=>r=S (putB (d,n) 1 1).1∧q=(W,⟨[gsl B 0 d.length d.length 1,I n],false⟩)::(B,⟨bytesV d,false⟩)::h:=by
 have ho2:d.length=(n+7)/8:=ho
 have hP:∀W h q,WrH W h (d,n) q→SRun Tryz.prog 176 [gptr W 0 2,I 1,I 1] q fun r q'=>r=resv []∧WrH W h (putB (d,n) 1 1) q':=fun W h q hw=>put_any W h (d,n) q 1 1 hw ho (by show n+1≤100000;omega) (by decide)
 have hk:=(putB_ok (v:=1) 1 ho).2
 have hkl:=(putB_ok (v:=1) 1 ho).1
 have hbl:(bytesV d).length=d.length:=by simp[bytesV]
 obtain⟨R,hR⟩:∃R,putB (d,n) 1 1=R:=⟨_,rfl⟩
 rw[hR]at hk hkl hP ⊢
 obtain⟨d2,n2⟩:=R
 have hk:n2=n+1:=hk
 have hkl:d2.length=(n2+7)/8:=hkl
 have hb2:(bytesV d2).length=d2.length:=by simp[bytesV]
 refine zR Tryz.func153 rfl rfl ?_
 repeat'((fail_if_success (show SWp _ _ (Code.seq (Code.region 2 _ _) _) _ _ _));(fail_if_success (show SWp _ _ (Code.region 2 _ _) _ _ _));first|apply zF|apply zB|apply zE|(apply yH;(focus kernel_rfl);(focus kernel_rfl))|(apply o_g zC;exact rfl;exact rfl)|(apply zM zC;(iterate 3 exact rfl);(focus exact pk))|(apply o_box (tt:=tyT);iterate 5 exact rfl)|(apply yT zC;exact rfl;exact rfl;(focus first|with_reducible exact pl250);exact rfl;(focus repeat(first|exact BuildR.nil|(apply BuildR.one;exact rfl;exact rfl;(first|(focus(repeat(first|exact SetAt.zero|apply SetAt.succ));done)))));exact rfl)|(apply zT zC;(iterate 5 exact rfl);(focus decide);exact rfl;(focus decide);(focus repeat(first|exact CatR.nil));exact rfl)|(apply o_append zC;(iterate 5 exact rfl);(focus exact⟨by decide⟩);(focus exact up);(focus exact pk))|apply zA|((with_reducible apply Sd.mk);first|exact True.intro|(constructor <;> first|omega|(unfold maxLen;omega)))|((with_reducible apply Ln.mk);first|rfl|omega|(simp[hbl,hb2];first|done|omega))|((with_reducible apply Ce.mk);first|rfl)|((with_reducible apply Su.mk);first|exact zQ)|exact bytesV_all _|exact True.intro|refine Rc.mk ⟨_,_,pk,?_⟩|exact Or.inl rfl|refine Or.inr (And.intro ?_ ?_)|apply And.intro|apply Or.inr|intro A|exact rfl)
 all_goals first|contradiction|(exfalso;omega)|skip
 rename_i D1
 have hW2:WrH A ((W,⟨[gsl B 0 d.length d.length 1,I n],false⟩)::(B,⟨bytesV d,false⟩)::h) (d,n) ((A,⟨[gsl D1 0 (0*1+d.length*1) (0+d.length) 1,I n],false⟩)::(D1,⟨[]++bytesV d,false⟩)::(W,⟨[gsl B 0 d.length d.length 1,I n],false⟩)::(B,⟨bytesV d,false⟩)::h):=.ofc rfl (by omega) (by omega) rfl
 repeat'((fail_if_success (show SWp _ _ (Code.seq (Code.region 3 _ _) _) _ _ _));(fail_if_success (show SWp _ _ (Code.region 3 _ _) _ _ _));first|apply zF|apply zB|apply zE|(apply o_g zC;exact rfl;exact rfl)|(apply zD;exact rfl;exact rfl;(focus first|exact rfl);exact rfl;(focus exact⟨_,hP _ _ _ hW2,by repeat with_reducible exact Take.nil⟩);rintro _ _ ⟨rfl,hw2⟩)|apply zA|((with_reducible apply Sd.mk);first|exact True.intro))
 all_goals first|contradiction|(exfalso;omega)|skip
 clear hP hW2
 cases hw2 with
 |nil=>exact absurd hk (by omega)
 |some B3 _ _ =>
  repeat'(first|apply zF|apply zB|apply zE|(apply o_g zC;exact rfl;exact rfl)|(apply zM zC;(iterate 3 exact rfl);(focus exact pk))|(apply o_toString zC;(iterate 6 exact rfl);(focus exact pk))|apply zA|apply zN|((with_reducible apply Sd.mk);first|exact True.intro)|((with_reducible apply Ln.mk);first|rfl|omega)|((with_reducible apply Ce.mk);first|rfl)|((with_reducible apply Su.mk);first|exact zQ)|exact True.intro|exact rfl)
  all_goals first
   |contradiction
   |(exfalso;omega)
   |(apply zL;(exact(show ResS _ _ _ _ [_] from⟨rfl,trivial⟩));(focus exact⟨rfl,rfl⟩);(focus repeat with_reducible first|exact Take.nil|apply Take.c|apply Take.drop))
def wrC (s:List UInt8 × Nat):List UInt8→List UInt8 × Nat
 |[]=>s
 |c::r=>wrC (putB s (cd (c.toNat:Int)) 2) r
def wrV (s:List UInt8 × Nat):List (List UInt8)→List UInt8 × Nat
 |[]=>s
 |v::r=>wrV (wrC s v) r
theorem wrC_ok :∀(v:List UInt8) {s:List UInt8 × Nat},wok s→wok (wrC s v)∧(wrC s v).2=s.2+2*v.length
 |[],s,h=>⟨h,rfl⟩
 |c::r,s,h=>by
  obtain⟨h1,h2⟩:=putB_ok (v:=cd (c.toNat:Int)) 2 h
  obtain⟨h3,h4⟩:=wrC_ok r h1
  exact⟨h3,h4.trans (by rw[h2,List.length_cons];omega)⟩
def plnE (L:List (List UInt8)):List UInt8:=vnum L.length++(putB (wrV ([],0) L) 1 1).1
set_option maxHeartbeats 4000000 in
theorem plain_any (w:Int)(L:List (List UInt8))(v:Value)(h:SH)(hv:Has h (L.map sV) 1 L.length v)(hl:L.length≤200)(hs:∀s∈L,1≤s.length∧s.length≤128)(h0:L≠[])(hc:∀s∈L,∀c∈s,0≤cd (c.toNat:Int)∧cd (c.toNat:Int)<4)(hb:(putB (wrV ([],0) L) 1 1).1.length≤100000) :
  SRun Tryz.prog 126 [.agg ⟨[I w]⟩,v] h fun r q=>r=.tuple #[S (plnE L),B true]∧q=h:=by
 obtain⟨ad,fl,rfl,hh⟩:=id hv
 have hlb:(L.map sV).length=L.length:=by simp
 have hL0:0<L.length:=List.length_pos_iff.2 h0
 obtain⟨R,hR⟩:∃R,wrV ([],0) L=R:=⟨_,rfl⟩
 unfold plnE
 rw[hR]at hb ⊢
 have k1:=fun h=>Number_any (L.length:Int) h (by omega)
 have z1:=vnumT_le L.length
 generalize vnum (L.length:Int)=Z at *
 refine zY Tryz.func126 rfl rfl ?_
 repeat'(first|apply zF|apply zB|apply zE|(apply o_g zC;exact rfl;exact rfl)|(apply o_box (tt:=tyT);iterate 5 exact rfl)|(apply zD;exact rfl;exact rfl;(focus first|exact rfl);exact rfl;(focus exact⟨_,NewWriter_any _,by repeat with_reducible exact Take.nil⟩);rintro _ _ ⟨W,rfl,hw⟩)|apply zA|apply zH|((with_reducible apply Sd.mk);first|exact True.intro)|intro A)
 rename SH=>q0
 obtain⟨A',ro,h1,rfl,hp⟩:=hh (by omega)
 have hpk:∀q,Take q ((A,⟨[I w],false⟩)::h)→∃h2,Pick q A' ⟨L.map sV,ro⟩ h2:=fun q t=>let ⟨h2,p,_⟩:=(t.trans (.drop .nil)).pick hp;⟨h2,p⟩
 revert A;intro A2 hw hpk
 refine zZ (S:=Nat × (List UInt8 × Nat) × SH) (fun s=>[(1,.slice (some ⟨A',0,some (1*L.length)⟩) L.length fl),(6,gptr W 0 2),(11,.slice (some ⟨A',0,some (1*L.length)⟩) L.length fl),(12,I L.length),(13,I s.1)])
  (fun s=>s.2.2) (fun s=>s.1≤L.length∧WrH W ((A2,⟨[I w],false⟩)::h) s.2.1 s.2.2∧wok s.2.1∧s.2.1.2≤256*s.1∧wrV s.2.1 (L.drop s.1)=R∧(0<s.1→0<s.2.1.2)) (fun s=>L.length-s.1) (0,([],0),q0) ⟨Nat.zero_le _,hw,(by show 0=(0+7)/8;decide),Nat.zero_le _,hR,fun k=>absurd k (Nat.lt_irrefl 0)⟩ (by repeat'(first|exact trivial|refine⟨rfl,?_⟩|refine⟨congrArg some ?_,?_⟩)) (by repeat with_reducible first|exact Take.nil|apply Take.c|apply Take.drop) ?_
 clear hw hR q0
 rintro⟨i,s,q⟩ ⟨hi,hw,ho,hn,hr,hpos⟩
 dsimp only at hi hw ho hn hr hpos ⊢
 by_cases hil:i<L.length
 ·obtain⟨h2,hp2⟩:=hpk q hw.take
  have hc1:(L.map sV)[0+((i:Int)).toNat*1]?=some (S L[i]!):=yM hil
  have hsi:=hs _ (mm_bang hil)
  have hci:=hc _ (mm_bang hil)
  rw[drop_bang hil]at hr
  generalize L[i]! = u at *
  replace hr:wrV (wrC s u) (L.drop (i+1))=R:=hr
  obtain⟨X,hX⟩:∃X,wrC s u=X:=⟨_,rfl⟩
  have hXo:=wrC_ok u ho
  rw[hX]at hr hXo
  repeat'(first|apply zF|apply zB|apply zE|(apply o_g zC;exact rfl;exact rfl)|(apply zM zC;(iterate 3 exact rfl);(focus exact pk))|(apply yC;exact rfl;(focus first|omega))|apply zA|apply zI|apply zH|((with_reducible apply Sd.mk);first|exact True.intro|omega)|((with_reducible apply Ln.mk);first|(simp[hlb];first|done|omega))|((with_reducible apply Ce.mk);first|exact hc1)|exact True.intro|exact rfl)
  all_goals first|contradiction|(exfalso;omega)|skip
  refine zZ (S:=Nat × (List UInt8 × Nat) × SH) (fun x=>[(1,.slice (some ⟨A',0,some (1*L.length)⟩) L.length fl),(6,gptr W 0 2),(8,S u),(11,.slice (some ⟨A',0,some (1*L.length)⟩) L.length fl),(12,I L.length),(13,I i),(18,I u.length),(19,I x.1)])
   (fun x=>x.2.2) (fun x=>x.1≤u.length∧WrH W ((A2,⟨[I w],false⟩)::h) x.2.1 x.2.2∧wok x.2.1∧x.2.1.2≤256*i+2*x.1∧wrC x.2.1 (u.drop x.1)=X) (fun x=>u.length-x.1) (0,s,q) ⟨Nat.zero_le _,hw,ho,hn,hX⟩ (by repeat'(first|exact trivial|refine⟨rfl,?_⟩|refine⟨congrArg some ?_,?_⟩)) (by repeat with_reducible first|exact Take.nil|apply Take.c|apply Take.drop) ?_
  clear hw ho hn hX hpos
  rintro⟨j,s',q'⟩ ⟨hj,hw,ho,hn,hx⟩
  dsimp only at hj hw ho hn hx ⊢
  by_cases hjl:j<u.length
  ·rw[drop_bang hjl]at hx
   have hcj:=hci _ (mm_bang hjl)
   have hbt:bat u (j:Int)=(u[j]!.toNat:Int):=by
    unfold bat;rw[Int.toNat_natCast,List.getD_eq_getElem?_getD,List.getElem?_eq_getElem hjl,getElem!_pos u j hjl];rfl
   replace hx:wrC (putB s' (cd (u[j]!.toNat:Int)) 2) (u.drop (j+1))=X:=hx
   rw[←hbt]at hx hcj
   have hC:=fun h=>Code_any (bat u (j:Int)) h
   generalize cd (bat u (j:Int))=z at *
   have hP:=Put_any W _ s' q' z hw ho (by omega) hcj
   have hpo:=putB_ok (v:=z) 2 ho
   generalize putB s' z 2=s2 at *
   repeat'(first|apply zF|apply zB|apply zE|(apply o_g zC;exact rfl;exact rfl)|(apply o_ar zC;exact rfl;exact rfl)|(apply yT zC;exact rfl;exact rfl;(focus first|with_reducible exact pl223);exact rfl;(focus repeat(first|exact BuildR.nil|(apply BuildR.one;exact rfl;exact rfl;(first|(focus(repeat(first|exact SetAt.zero|apply SetAt.succ));done)))));exact rfl)|(apply zD;exact rfl;exact rfl;(focus first|exact rfl);exact rfl;(focus exact⟨_,hC _,by repeat with_reducible exact Take.nil⟩);rintro _ _ ⟨rfl,rfl⟩)|(apply zD;exact rfl;exact rfl;(focus first|exact rfl);exact rfl;(focus exact⟨_,hP,by repeat with_reducible exact Take.nil⟩);rintro _ _ ⟨rfl,hw2⟩)|(apply zS;exact rfl)|(apply yC;exact rfl;(focus first|omega))|apply zA|apply zG|apply zI|apply zH|((with_reducible apply Sd.mk);first|exact True.intro|omega)|((with_reducible apply Wr.mk);first|exact IntWalk.i64_in _ (by omega)))
   all_goals first
    |contradiction
    |(exfalso;omega)
    |exact⟨(j+1,s2,_),⟨hjl,hw2,hpo.1,by show s2.2≤256*i+2*(j+1);omega,hx⟩,by show u.length-(j+1)<u.length-j;omega,(by repeat'(first|exact trivial|refine⟨rfl,?_⟩|refine⟨congrArg some ?_,?_⟩)),(by repeat with_reducible first|exact Take.nil|apply Take.c|apply Take.drop)⟩
  ·have e:j=u.length:=by omega
   subst e
   rw[List.drop_length]at hx
   replace hx:s'=X:=hx
   subst hx
   repeat'(first|apply zF|apply zB|apply zE|(apply o_g zC;exact rfl;exact rfl)|(apply o_ar zC;exact rfl;exact rfl)|(apply yD;exact rfl;(focus first|omega))|apply zA|apply zK|apply zG|apply zJ|apply zV|((with_reducible apply Sd.mk);first|exact True.intro)|((with_reducible apply Wr.mk);first|exact IntWalk.i64_in _ (by omega)))
   all_goals first
    |contradiction
    |(exfalso;omega)
    |exact⟨(i+1,s',q'),⟨hil,hw,ho,by show s'.2≤256*(i+1);omega,hr,fun _=>by show 0<s'.2;omega⟩,by show L.length-(i+1)<L.length-i;omega,(by repeat'(first|exact trivial|refine⟨rfl,?_⟩|refine⟨congrArg some ?_,?_⟩)),(by repeat with_reducible first|exact Take.nil|apply Take.c|apply Take.drop)⟩
 ·have e:i=L.length:=by omega
  subst e
  rw[List.drop_length]at hr
  replace hr:s=R:=hr
  subst hr
  have hp0:=hpos (by omega)
  cases hw with
  |nil=>exact absurd hp0 (by decide)
  |some B d n =>
   have hB:=Bytes_any W B ((A2,⟨[I w],false⟩)::h) d n ho (by show n≤60000;have:n≤256*L.length:=hn;omega)
   repeat'(first|apply zF|apply zB|apply zE|(apply o_g zC;exact rfl;exact rfl)|(apply zD;exact rfl;exact rfl;(focus first|exact rfl);exact rfl;(focus exact⟨_,k1 _,by repeat with_reducible exact Take.nil⟩);rintro _ _ ⟨rfl,rfl⟩)|(apply zD;exact rfl;exact rfl;(focus first|exact rfl);exact rfl;(focus exact⟨_,hB,by repeat with_reducible exact Take.nil⟩);rintro _ _ ⟨rfl,rfl⟩)|(apply yD;exact rfl;(focus first|omega))|apply zA|apply zK|apply zJ|apply zN|apply zV|((with_reducible apply Sd.mk);first|exact True.intro|omega))
   all_goals first
    |contradiction
    |(exfalso;omega)
    |(apply zL;(exact(show ResS _ _ _ _ [_,_] from⟨rfl,⟨rfl,trivial⟩⟩));(focus exact⟨rfl,rfl⟩);(focus repeat with_reducible first|exact Take.nil|apply Take.c|apply Take.drop))

abbrev wrL :List (Int × Value):=[(0,fn0 126),(1,fn0 127),(2,fn0 128),(3,fn0 129)]
abbrev rdL :List (Int × Value):=[(0,fn0 102),(1,fn0 103),(2,fn0 104),(3,fn0 105)]
theorem writers_any (h:SH):SRun Tryz.prog 96 [] h fun r q=>∃M,r=.map (some M)∧q=(M,⟨mapC (fun n:Int=>I n) wrL,false⟩)::h:=by
 refine w_body0 Tryz.func96 rfl rfl ?_
 repeat'(first|apply zF|apply zB|apply zE|(apply o_g zC;exact rfl;exact rfl)|(apply o_makeMap;exact rfl)|(apply o_insert0 (α:=Int);exact rfl;(focus exact up);exact rfl;exact rfl;(focus exact Tryz.underlying169);(focus exact Tryz.underlying3);(focus exact keyI))|(apply o_insert (α:=Int);exact rfl;(focus exact up);exact rfl;exact rfl;(focus exact Tryz.underlying169);(focus exact Tryz.underlying3);(focus exact keyI))|apply zA|apply zN|((with_reducible apply Sd.mk);first|exact True.intro)|intro A)
 all_goals first
  |(apply zL;(exact(show ResS _ _ _ _ [_] from⟨rfl,trivial⟩));(focus exact⟨A,rfl,rfl⟩);(focus repeat(first|with_reducible exact Take.nil|with_reducible apply Take.c|((with_reducible apply Take.cE);first|exact rfl|(apply blkE;(focus first|exact rfl|exact yI rfl|exact yO rfl|exact congrArg (fun v=>[v]) (gslE rfl rfl (by first|rfl|exact ‹_›|omega|(simp ;first|done|omega)) (by first|rfl|exact ‹_›|omega|(simp ;first|done|omega)) rfl))))|with_reducible apply Take.drop)))
theorem readers_any (h:SH):SRun Tryz.prog 57 [] h fun r q=>∃M,r=.map (some M)∧q=(M,⟨mapC (fun n:Int=>I n) rdL,false⟩)::h:=by
 refine w_body0 Tryz.func57 rfl rfl ?_
 repeat'(first|apply zF|apply zB|apply zE|(apply o_g zC;exact rfl;exact rfl)|(apply o_makeMap;exact rfl)|(apply o_insert0 (α:=Int);exact rfl;(focus exact up);exact rfl;exact rfl;(focus exact Tryz.underlying118);(focus exact Tryz.underlying3);(focus exact keyI))|(apply o_insert (α:=Int);exact rfl;(focus exact up);exact rfl;exact rfl;(focus exact Tryz.underlying118);(focus exact Tryz.underlying3);(focus exact keyI))|apply zA|apply zN|((with_reducible apply Sd.mk);first|exact True.intro)|intro A)
 all_goals first
  |(apply zL;(exact(show ResS _ _ _ _ [_] from⟨rfl,trivial⟩));(focus exact⟨A,rfl,rfl⟩);(focus repeat(first|with_reducible exact Take.nil|with_reducible apply Take.c|((with_reducible apply Take.cE);first|exact rfl|(apply blkE;(focus first|exact rfl|exact yI rfl|exact yO rfl|exact congrArg (fun v=>[v]) (gslE rfl rfl (by first|rfl|exact ‹_›|omega|(simp ;first|done|omega)) (by first|rfl|exact ‹_›|omega|(simp ;first|done|omega)) rfl))))|with_reducible apply Take.drop)))
theorem BEncodeAs_any (c w:Int)(f:Nat)(e:List UInt8)(L:List (List UInt8))(v:Value)(h:SH)(hv:Has h (L.map sV) 1 L.length v)(hcf:(c=0∧f=126)∨(c=1∧f=127)∨(c=2∧f=128)∨(c=3∧f=129))(hl:L.length≤4096)(hw:1≤w∧w≤128)(hs:∀s∈L,isV s∧(s.length:Int)=w)
  (hF:∀h,Has h (L.map sV) 1 L.length v→SRun Tryz.prog f [.agg ⟨[I w]⟩,v] h fun r q=>r=.tuple #[S e,B true]∧q=h) (he:e.length≤4000000) :
  SRun Tryz.prog 55 [I c,I w,v] h fun r q=>r=.tuple #[S (vnum c++e),I 0]∧q=h:=by
 have hV:=fun h hv=>BValid_any w L v h hv hl hw hs
 obtain⟨ad,fl,rfl,_⟩:=id hv
 have hc:0≤c∧c<4:=by omega
 have hf:(mget wrL c).getD .nilFunc=fn0 f:=by rcases hcf with⟨rfl,rfl⟩|⟨rfl,rfl⟩|⟨rfl,rfl⟩|⟨rfl,rfl⟩ <;> rfl
 have k1:=fun h=>Number_any c h (by omega)
 have z1:=vnumT_le c
 have hW:=fun h=>writers_any h
 generalize wrL=W at *
 generalize vnum c=vc at *
 rcases hcf with⟨rfl,rfl⟩|⟨rfl,rfl⟩|⟨rfl,rfl⟩|⟨rfl,rfl⟩
 all_goals
  refine w_body3 Tryz.func55 rfl rfl ?_
  repeat'(first|apply zF|apply zB|apply zE|(apply o_g zC;exact rfl;exact rfl)|(apply yR;exact rfl;exact rfl)|(apply yT zC;exact rfl;exact rfl;(focus first|with_reducible exact pl121);exact rfl;(focus repeat(first|exact BuildR.nil|(apply BuildR.one;exact rfl;exact rfl;(first|(focus(repeat(first|exact SetAt.zero));done)))));exact rfl)|(apply o_lookup (α:=Int) zC;exact rfl;(focus exact pk);exact rfl;(focus exact Tryz.underlying169);(focus exact Tryz.underlying3);(focus exact keyI);exact rfl;exact rfl;(focus first|exact hf))|(apply zD;exact rfl;exact rfl;(focus first|exact rfl);exact rfl;(focus exact⟨_,hV _ hv,by repeat with_reducible exact Take.nil⟩);rintro _ _ ⟨rfl,rfl⟩)|(apply zD;exact rfl;exact rfl;(focus first|exact rfl);exact rfl;(focus exact⟨_,hW _,by repeat with_reducible exact Take.nil⟩);rintro _ _ ⟨M,rfl,rfl⟩)|(apply zD;exact rfl;exact rfl;(focus first|exact rfl);exact rfl;(focus exact⟨_,hF _ (hv.re (.drop .nil)),by repeat with_reducible exact Take.nil⟩);rintro _ _ ⟨rfl,rfl⟩)|(apply zD;exact rfl;exact rfl;(focus first|exact rfl);exact rfl;(focus exact⟨_,k1 _,by repeat with_reducible exact Take.nil⟩);rintro _ _ ⟨rfl,rfl⟩)|(apply zU;exact rfl;exact rfl)|(apply zS;exact rfl)|apply zA|apply zI|apply zN|((with_reducible apply Sd.mk);first|exact True.intro|omega)|exact rfl)
  all_goals first
   |contradiction
   |(exfalso;omega)
   |(apply zL;(exact(show ResS _ _ _ _ [_,_] from⟨rfl,⟨rfl,trivial⟩⟩));(focus exact⟨rfl,rfl⟩);(focus repeat with_reducible first|exact Take.nil|apply Take.c|apply Take.drop))
theorem BEncode_any (w:Int)(a0 a1 a2 a3:List UInt8)(L:List (List UInt8))(v:Value)(h:SH)(hv:Has h (L.map sV) 1 L.length v)(hl:L.length≤4096)(hw:1≤w∧w≤128)(hs:∀s∈L,isV s∧(s.length:Int)=w)
  (h0:∀h,Has h (L.map sV) 1 L.length v→SRun Tryz.prog 126 [.agg ⟨[I w]⟩,v] h fun r q=>r=.tuple #[S a0,B true]∧q=h)
  (h1:∀h,Has h (L.map sV) 1 L.length v→SRun Tryz.prog 127 [.agg ⟨[I w]⟩,v] h fun r q=>r=.tuple #[S a1,B true]∧q=h)
  (h2:∀h,Has h (L.map sV) 1 L.length v→SRun Tryz.prog 128 [.agg ⟨[I w]⟩,v] h fun r q=>r=.tuple #[S a2,B true]∧q=h)
  (h3:∀h,Has h (L.map sV) 1 L.length v→SRun Tryz.prog 129 [.agg ⟨[I w]⟩,v] h fun r q=>r=.tuple #[S a3,B true]∧q=h)
  (l0:a0.length≤4000000∧a0≠[]) (l1:a1.length≤4000000∧a0.length≤a1.length) (l2:a2.length≤4000000∧a0.length≤a2.length) (l3:a3.length≤4000000∧a0.length≤a3.length) :
  SRun Tryz.prog 22 [I w,v] h fun r q=>r=.tuple #[S (vnum 0++a0),I 0]∧q=h:=by
 have hV:=fun h hv=>BValid_any w L v h hv hl hw hs
 have c0:=fun h hv=>BEncodeAs_any 0 w _ a0 L v h hv (.inl ⟨rfl,rfl⟩) hl hw hs h0 l0.1
 have c1:=fun h hv=>BEncodeAs_any 1 w _ a1 L v h hv (.inr (.inl ⟨rfl,rfl⟩)) hl hw hs h1 l1.1
 have c2:=fun h hv=>BEncodeAs_any 2 w _ a2 L v h hv (.inr (.inr (.inl ⟨rfl,rfl⟩))) hl hw hs h2 l2.1
 have c3:=fun h hv=>BEncodeAs_any 3 w _ a3 L v h hv (.inr (.inr (.inr ⟨rfl,rfl⟩))) hl hw hs h3 l3.1
 obtain⟨ad,fl,rfl,_⟩:=id hv
 have m0:(vnum 0++a0).length=1+a0.length:=List.length_append
 have m1:(vnum 1++a1).length=1+a1.length:=List.length_append
 have m2:(vnum 2++a2).length=1+a2.length:=List.length_append
 have m3:(vnum 3++a3).length=1+a3.length:=List.length_append
 have n0:vnum 0++a0≠[]:=by simp[l0.2]
 replace l1:=l1.2;replace l2:=l2.2;replace l3:=l3.2;replace l0:=l0.1
 clear h0 h1 h2 h3
 generalize vnum 0++a0=b0 at *
 generalize vnum 1++a1=b1 at *
 generalize vnum 2++a2=b2 at *
 generalize vnum 3++a3=b3 at *
 have g1:¬(b1.length:Int)<b0.length:=by omega
 have g2:¬(b2.length:Int)<b0.length:=by omega
 have g3:¬(b3.length:Int)<b0.length:=by omega
 clear m0 m1 m2 m3 l0 l1 l2 l3
 refine zY Tryz.func22 rfl rfl ?_
 repeat'(first|apply zF|apply zB|apply zE|(apply o_g zC;exact rfl;exact rfl)|(apply yR;exact rfl;exact rfl)|(apply zD;exact rfl;exact rfl;(focus first|exact rfl);exact rfl;(focus exact⟨_,hV _ hv,by repeat with_reducible exact Take.nil⟩);rintro _ _ ⟨rfl,rfl⟩)|(apply zS;exact rfl)|apply zA|apply zI|apply zH|((with_reducible apply Sd.mk);first|exact True.intro))
 all_goals first|contradiction|(exfalso;omega)|skip
 rename SH=>h
 refine zZ (S:=Nat × List UInt8) (fun s=>[(0,I w),(1,.slice ad L.length fl),(6,S s.2),(14,I s.1)])
  (fun _=>h) (fun s=>s.1≤4∧(0=s.1→s.2=[])∧(0<s.1→s.2=b0)) (fun s=>4-s.1) (0,[]) ⟨Nat.zero_le _,fun _=>rfl,fun k=>absurd k (by decide)⟩ (by repeat'(first|exact trivial|refine⟨rfl,?_⟩|refine⟨congrArg some ?_,?_⟩)) (by repeat with_reducible first|exact Take.nil|apply Take.c|apply Take.drop) ?_
 rintro⟨i,o⟩ ⟨hi,hz,ho⟩
 dsimp only at hi hz ho ⊢
 have hii:i=0∨i=1∨i=2∨i=3∨i=4:=by omega
 rcases hii with rfl|rfl|rfl|rfl|rfl
 ·obtain rfl:=hz rfl
  repeat'(first|apply zF|apply zB|apply zE|(apply o_g zC;exact rfl;exact rfl)|(apply o_ar zC;exact rfl;exact rfl)|(apply zD;exact rfl;exact rfl;(focus first|exact rfl);exact rfl;(focus exact⟨_,c0 _ hv,by repeat with_reducible exact Take.nil⟩);rintro _ _ ⟨rfl,rfl⟩)|(apply zU;exact rfl;exact rfl)|(apply yF;iterate 4 exact rfl)|(apply yB;exact rfl)|apply zA|apply zG|apply zI|apply zH|((with_reducible apply Sd.mk);first|exact True.intro)|((with_reducible apply Wr.mk);first|exact IntWalk.i64_in _ (by omega)))
  all_goals first
   |contradiction
   |(exfalso;omega)
   |exact⟨(1,b0),⟨by show 1≤4;decide,fun k=>absurd k (by show ¬0=1;decide),fun _=>rfl⟩,by show 4-1<4-0;decide,(by repeat'(first|exact trivial|refine⟨rfl,?_⟩|refine⟨congrArg some ?_,?_⟩)),(by repeat with_reducible first|exact Take.nil|apply Take.c|apply Take.drop)⟩
 ·obtain rfl:=ho (by decide)
  repeat'(first|apply zF|apply zB|apply zE|(apply o_g zC;exact rfl;exact rfl)|(apply o_ar zC;exact rfl;exact rfl)|(apply zD;exact rfl;exact rfl;(focus first|exact rfl);exact rfl;(focus exact⟨_,c1 _ hv,by repeat with_reducible exact Take.nil⟩);rintro _ _ ⟨rfl,rfl⟩)|(apply zU;exact rfl;exact rfl)|(apply o_gF;(iterate 3 exact rfl);(focus first|omega))|(apply yB;exact rfl)|(apply yD;exact rfl;(focus first|omega))|apply zA|apply zG|apply zI|apply zH|((with_reducible apply Sd.mk);first|exact True.intro)|((with_reducible apply Wr.mk);first|exact IntWalk.i64_in _ (by omega)))
  all_goals first
   |contradiction
   |(exfalso;omega)
   |exact⟨(2,o),⟨by show 2≤4;decide,fun k=>absurd k (by show ¬0=2;decide),fun _=>rfl⟩,by show 4-2<4-1;decide,(by repeat'(first|exact trivial|refine⟨rfl,?_⟩|refine⟨congrArg some ?_,?_⟩)),(by repeat with_reducible first|exact Take.nil|apply Take.c|apply Take.drop)⟩
 ·obtain rfl:=ho (by decide)
  repeat'(first|apply zF|apply zB|apply zE|(apply o_g zC;exact rfl;exact rfl)|(apply o_ar zC;exact rfl;exact rfl)|(apply zD;exact rfl;exact rfl;(focus first|exact rfl);exact rfl;(focus exact⟨_,c2 _ hv,by repeat with_reducible exact Take.nil⟩);rintro _ _ ⟨rfl,rfl⟩)|(apply zU;exact rfl;exact rfl)|(apply o_gF;(iterate 3 exact rfl);(focus first|omega))|(apply yB;exact rfl)|(apply yD;exact rfl;(focus first|omega))|apply zA|apply zG|apply zI|apply zH|((with_reducible apply Sd.mk);first|exact True.intro)|((with_reducible apply Wr.mk);first|exact IntWalk.i64_in _ (by omega)))
  all_goals first
   |contradiction
   |(exfalso;omega)
   |exact⟨(3,o),⟨by show 3≤4;decide,fun k=>absurd k (by show ¬0=3;decide),fun _=>rfl⟩,by show 4-3<4-2;decide,(by repeat'(first|exact trivial|refine⟨rfl,?_⟩|refine⟨congrArg some ?_,?_⟩)),(by repeat with_reducible first|exact Take.nil|apply Take.c|apply Take.drop)⟩
 ·obtain rfl:=ho (by decide)
  repeat'(first|apply zF|apply zB|apply zE|(apply o_g zC;exact rfl;exact rfl)|(apply o_ar zC;exact rfl;exact rfl)|(apply zD;exact rfl;exact rfl;(focus first|exact rfl);exact rfl;(focus exact⟨_,c3 _ hv,by repeat with_reducible exact Take.nil⟩);rintro _ _ ⟨rfl,rfl⟩)|(apply zU;exact rfl;exact rfl)|(apply o_gF;(iterate 3 exact rfl);(focus first|omega))|(apply yB;exact rfl)|(apply yD;exact rfl;(focus first|omega))|apply zA|apply zG|apply zI|apply zH|((with_reducible apply Sd.mk);first|exact True.intro)|((with_reducible apply Wr.mk);first|exact IntWalk.i64_in _ (by omega)))
  all_goals first
   |contradiction
   |(exfalso;omega)
   |exact⟨(4,o),⟨by show 4≤4;decide,fun k=>absurd k (by show ¬0=4;decide),fun _=>rfl⟩,by show 4-4<4-3;decide,(by repeat'(first|exact trivial|refine⟨rfl,?_⟩|refine⟨congrArg some ?_,?_⟩)),(by repeat with_reducible first|exact Take.nil|apply Take.c|apply Take.drop)⟩
 ·obtain rfl:=ho (by decide)
  repeat'(first|apply zF|apply zB|apply zE|(apply o_g zC;exact rfl;exact rfl)|(apply zS;exact rfl)|apply zA|apply zK|apply zJ|apply zN|apply zV|((with_reducible apply Sd.mk);first|exact True.intro))
  all_goals first
   |contradiction
   |(exfalso;omega)
   |(apply zL;(exact(show ResS _ _ _ _ [_,_] from⟨rfl,⟨rfl,trivial⟩⟩));(focus exact⟨rfl,rfl⟩);(focus repeat with_reducible first|exact Take.nil|apply Take.c|apply Take.drop))

def tzB :List UInt8:=(List.append (List.append [8,0,1,0,2,0,1,0,3,0,1,0,2,0,1,0,4,0,1,0,2,0,1,0,3,0,1,0,2,0,1,0,5,0,1,0,2,0,1,0,3,0,1,0,2,0,1,0,4,0,1,0,2,0,1,0,3,0,1,0,2,0,1,0] [6,0,1,0,2,0,1,0,3,0,1,0,2,0,1,0,4,0,1,0,2,0,1,0,3,0,1,0,2,0,1,0,5,0,1,0,2,0,1,0,3,0,1,0,2,0,1,0,4,0,1,0,2,0,1,0,3,0,1,0,2,0,1,0]) (List.append [7,0,1,0,2,0,1,0,3,0,1,0,2,0,1,0,4,0,1,0,2,0,1,0,3,0,1,0,2,0,1,0,5,0,1,0,2,0,1,0,3,0,1,0,2,0,1,0,4,0,1,0,2,0,1,0,3,0,1,0,2,0,1,0] [6,0,1,0,2,0,1,0,3,0,1,0,2,0,1,0,4,0,1,0,2,0,1,0,3,0,1,0,2,0,1,0,5,0,1,0,2,0,1,0,3,0,1,0,2,0,1,0,4,0,1,0,2,0,1,0,3,0,1,0,2,0,1,0]))
theorem tzB_len :tzB.length=256:=by decide +kernel
def tzV (c:Int):Int:=IntKind.i64.wrap (bat tzB c)
theorem tz_any (c:Int)(h:SH)(hc:0≤c∧c<256):SRun Tryz.prog 162 [.int .u8 c] h fun r q=>r=I (tzV c)∧q=h:=by
 have hl:0≤c∧c<(tzB.length:Int):=by rw[tzB_len];exact hc
 refine zR Tryz.func162 rfl rfl ?_
 repeat'(first|apply zF|apply zB|apply zE|(apply o_g zC;exact rfl;exact rfl)|(apply o_ar zC;exact rfl;exact rfl)|apply zA|apply zN|((with_reducible apply Sd.mk);first|exact True.intro)|((with_reducible apply Wr.mk);first|rfl))
 all_goals first
  |exact⟨hl⟩
  |(apply zL;(exact(show ResS _ _ _ _ [_] from⟨rfl,trivial⟩));(focus exact⟨rfl,rfl⟩);(focus repeat with_reducible first|exact Take.nil|apply Take.c|apply Take.drop))
abbrev rdH (R:Nat)(h:SH)(d:List UInt8)(p n:Nat):SH:=(R,⟨[S d,I p,I n],false⟩)::h
theorem bLeft_any (R:Nat)(h:SH)(d:List UInt8)(p n:Nat)(hp:p≤n)(hn:n≤100000):SRun Tryz.prog 134 [gptr R 0 3] (rdH R h d p n) fun r q=>r=I ((n:Int)-p)∧q=rdH R h d p n:=by
 refine zR Tryz.func134 rfl rfl ?_
 repeat'(first|apply zF|apply zB|apply zE|(apply yH;(focus kernel_rfl);(focus kernel_rfl))|(apply o_g zC;exact rfl;exact rfl)|(apply o_ar zC;exact rfl;exact rfl)|(apply zM zC;(iterate 3 exact rfl);(focus exact pk))|apply zA|apply zN|((with_reducible apply Sd.mk);first|exact True.intro)|((with_reducible apply Ln.mk);first|rfl)|((with_reducible apply Wr.mk);first|exact IntWalk.i64_in _ (by omega))|((with_reducible apply Ce.mk);first|rfl)|exact True.intro|exact rfl)
 all_goals first
  |(apply zL;(exact(show ResS _ _ _ _ [_] from⟨rfl,trivial⟩));(focus exact⟨rfl,rfl⟩);(focus repeat with_reducible first|exact Take.nil|apply Take.c|apply Take.drop))
theorem bNewReader_any (d:List UInt8)(n:Nat)(h:SH)(h0:d≠[])(hd:d.length≤5000)(hz:bat d ((d.length:Int)-1)≠0)(hn:(n:Int)=8*(d.length:Int)-1-tzV (bat d ((d.length:Int)-1)))(hn1:n≤60000)(ht:0≤tzV (bat d ((d.length:Int)-1))∧tzV (bat d ((d.length:Int)-1))<100) :
  SRun Tryz.prog 133 [S d] h fun r q=>∃R,r=.tuple #[gptr R 0 3,I 0]∧q=rdH R h d 0 n:=by
 have hdl:0<d.length:=List.length_pos_iff.2 h0
 have hbi:0≤bat d ((d.length:Int)-1)∧bat d ((d.length:Int)-1)<256:=⟨bat_lo _ _,bat_hi _ _⟩
 have hT:=fun h=>tz_any (bat d ((d.length:Int)-1)) h hbi
 generalize tzV (bat d ((d.length:Int)-1))=t at *
 have hnn:8*(d.length:Int)-1-t=n:=hn.symm
 refine zR Tryz.func133 rfl rfl ?_
 repeat'(first|apply zF|apply zB|apply zE|(apply o_g zC;exact rfl;exact rfl)|(apply o_ar zC;exact rfl;exact rfl)|(apply o_box (tt:=tyT);iterate 5 exact rfl)|(apply yT zC;exact rfl;exact rfl;(focus first|with_reducible exact pl230);exact rfl;(focus repeat(first|exact BuildR.nil|(apply BuildR.one;exact rfl;exact rfl;(first|(focus(repeat(first|exact SetAt.zero|apply SetAt.succ));done)))));exact rfl)|(apply zD;exact rfl;exact rfl;(focus first|exact rfl);exact rfl;(focus exact⟨_,hT _,by repeat with_reducible exact Take.nil⟩);rintro _ _ ⟨rfl,rfl⟩)|(apply zU;exact rfl;exact rfl)|(apply o_gF;(iterate 3 exact rfl);(focus first|omega))|(apply yD;exact rfl;(focus first|omega))|apply zA|apply zI|apply zN|((with_reducible apply Sd.mk);first|exact True.intro|omega)|((with_reducible apply Wr.mk);first|exact IntWalk.i64_in _ (by omega))|intro A)
 all_goals first
  |contradiction
  |(exfalso;omega)
  |(rw[hnn];(apply zL;(exact(show ResS _ _ _ _ [_,_] from⟨rfl,⟨rfl,trivial⟩⟩));(focus exact⟨A,rfl,rfl⟩);(focus repeat with_reducible first|exact Take.nil|apply Take.c|apply Take.drop)))
def rstp (d:List UInt8)(p:Nat)(a:Int):Int :=
 IntKind.i64.wrap ((BitVec.ofInt IntKind.i64.bits (IntKind.i64.wrap (a*2^min (Int.toNat 1) IntKind.i64.bits)) ||| BitVec.ofInt IntKind.i64.bits (((BitVec.ofInt IntKind.u8.bits (bat d (IntKind.i64.wrap ((p:Int).tdiv 8))/2^min (7-(p:Int)%8).toNat IntKind.u8.bits)&&&BitVec.ofInt IntKind.u8.bits 1).toNat:Int)%256)).toNat:Int)
def tkv (d:List UInt8)(p:Nat)(a:Int):Nat→Int
 |0=>a
 |k+1=>tkv d (p+1) (rstp d p a) k
theorem take_any (R:Nat)(h:SH)(d:List UInt8)(p n k:Nat)(hp:p+k≤n)(hn:n≤60000)(hd:n≤8*d.length)(hk:k≤62):SRun Tryz.prog 207 [gptr R 0 3,I k] (rdH R h d p n) fun r q=>r=.tuple #[I (tkv d p 0 k),I 0]∧q=rdH R h d (p+k) n:=by
 have hL:=bLeft_any R h d p n (by omega) (by omega)
 obtain⟨T,hT⟩:∃T,tkv d p 0 k=T:=⟨_,rfl⟩
 rw[hT]
 refine zY Tryz.func207 rfl rfl ?_
 repeat'(first|apply zF|apply zB|apply zE|(apply o_g zC;exact rfl;exact rfl)|(apply zD;exact rfl;exact rfl;(focus first|exact rfl);exact rfl;(focus exact⟨_,hL,by repeat with_reducible exact Take.nil⟩);rintro _ _ ⟨rfl,rfl⟩)|(apply yD;exact rfl;(focus first|omega))|apply zA|apply zI|apply zH|((with_reducible apply Sd.mk);first|exact True.intro))
 all_goals first|contradiction|(exfalso;omega)|skip
 refine zZ (S:=Nat × Int) (fun s=>[(0,gptr R 0 3),(6,I s.2),(11,I k),(12,I s.1)]) (fun s=>(R,⟨[S d,I ((p+s.1:Nat):Int),I n],false⟩)::h) (fun s=>s.1≤k∧tkv d (p+s.1) s.2 (k-s.1)=T) (fun s=>k-s.1) (0,0) ⟨Nat.zero_le _,hT⟩ (by repeat'(first|exact trivial|refine⟨rfl,?_⟩|refine⟨congrArg some ?_,?_⟩)) (by repeat with_reducible first|exact Take.nil|apply Take.c|apply Take.drop) ?_
 clear hT
 rintro⟨j,a⟩ ⟨hj,hT⟩
 dsimp only at hj hT ⊢
 by_cases hjl:j<k
 ·rw[show k-j=(k-(j+1))+1 by omega]at hT
  replace hT:tkv d (p+(j+1)) (rstp d (p+j) a) (k-(j+1))=T:=hT
  have hq:IntKind.i64.wrap (((p+j:Nat):Int).tdiv 8)=(((p+j)/8:Nat):Int):=by
   rw[Int.tdiv_eq_ediv_of_nonneg (by omega)];exact IntWalk.i64_in _ (by omega)
  repeat'(first|apply zF|apply zB|apply zE|(apply yH;(focus kernel_rfl);(focus kernel_rfl))|(apply o_g zC;exact rfl;exact rfl)|(apply o_ar zC;exact rfl;exact rfl)|(apply o_ex;exact rfl;exact rfl)|(apply zM zC;(iterate 3 exact rfl);(focus exact pk))|(apply zX zC;(iterate 4 exact rfl);(focus exact up))|(apply yC;exact rfl;(focus first|omega))|apply zA|apply zG|apply zI|apply zH|((with_reducible apply Sd.mk);first|exact True.intro|omega)|((with_reducible apply Ln.mk);first|rfl)|((with_reducible apply Wr.mk);first|exact IntWalk.i64_in _ (by omega)|exact IntKind.wrap_u8 _|rfl)|((with_reducible apply Ex.mk);first|exact Int.tmod_eq_emod_of_nonneg (by omega)|rfl)|((with_reducible apply Ce.mk);first|rfl)|((with_reducible apply Se.mk);first|(focus(repeat(first|exact SetAt.zero|apply SetAt.succ));done))|exact True.intro|exact rfl)
  all_goals first
   |exact⟨by rw[hq];omega⟩
   |(refine⟨(j+1,_),?_,by show k-(j+1)<k-j;omega,⟨rfl,rfl,rfl,rfl,trivial⟩,(by repeat with_reducible first|exact Take.nil|apply Take.c|apply Take.drop)⟩
     exact⟨hjl,hT⟩)
 ·obtain rfl:j=k:=by omega
  rw[Nat.sub_self]at hT
  replace hT:a=T:=hT
  subst hT
  repeat'(first|apply zF|apply zB|apply zE|(apply o_g zC;exact rfl;exact rfl)|(apply yD;exact rfl;(focus first|omega))|apply zA|apply zK|apply zJ|apply zN|apply zV|((with_reducible apply Sd.mk);first|exact True.intro))
  all_goals first
   |contradiction
   |(exfalso;omega)
   |(apply zL;(exact(show ResS _ _ _ _ [_,_] from⟨rfl,⟨rfl,trivial⟩⟩));(focus exact⟨rfl,rfl⟩);(focus repeat with_reducible first|exact Take.nil|apply Take.c|apply Take.drop))
theorem kd5_any (R:Nat)(h:SH)(d:List UInt8)(p n k:Nat)(hp:p+k≤n)(hn:n≤60000)(hd:n≤8*d.length)(hk:k≤62):SRun Tryz.prog 206 [gptr R 0 3,I k] (rdH R h d p n) fun r q=>r=.tuple #[I (tkv d p 0 k),I 0]∧q=rdH R h d (p+k) n:=by
 have hT:=take_any R h d p n k hp hn hd hk
 refine zY Tryz.func206 rfl rfl ?_
 repeat'(first|apply zF|apply zB|apply zE|(apply o_g zC;exact rfl;exact rfl)|(apply zD;exact rfl;exact rfl;(focus first|exact rfl);exact rfl;(focus exact⟨_,hT,by repeat with_reducible exact Take.nil⟩);rintro _ _ ⟨rfl,rfl⟩)|apply zA|apply zN|((with_reducible apply Sd.mk);first|exact True.intro))
 all_goals first
  |(apply zL;(exact(show ResS _ _ _ _ [_,_] from⟨rfl,⟨rfl,trivial⟩⟩));(focus exact⟨rfl,rfl⟩);(focus repeat with_reducible first|exact Take.nil|apply Take.c|apply Take.drop))
theorem Get_any (R:Nat)(h:SH)(d:List UInt8)(p n:Nat)(hp:p+2≤n)(hn:n≤60000)(hd:n≤8*d.length)(hv:¬3<tkv d p 0 2):SRun Tryz.prog 135 [gptr R 0 3,I 0,I 2,I 3] (rdH R h d p n) fun r q=>r=.tuple #[I (tkv d p 0 2),I 0]∧q=rdH R h d (p+2) n:=by
 have k1:=fun h=>find_any0 2 h (by decide)
 have k2:=kd5_any R h d p n 2 hp hn hd (by decide)
 generalize tkv d p 0 2=v at *
 refine w_body4 Tryz.func135 rfl rfl ?_
 repeat'(first|apply zF|apply zB|apply zE|(apply o_g zC;exact rfl;exact rfl)|(apply yR;exact rfl;exact rfl)|(apply zM zC;(iterate 3 exact rfl);(focus exact pk))|(apply yE zC;(iterate 4 exact rfl);(focus exact⟨rfl⟩);(focus exact up))|(apply yG zC;iterate 5 exact rfl)|(apply zD;exact rfl;exact rfl;(focus first|exact rfl);exact rfl;(focus exact⟨_,k1 _,by repeat with_reducible exact Take.nil⟩);rintro _ _ ⟨rfl,rfl⟩)|(apply zD;exact rfl;exact rfl;(focus first|exact rfl);exact rfl;(focus exact⟨_,k2,by repeat with_reducible first|exact Take.nil|apply Take.c|apply Take.drop⟩);rintro _ _ ⟨rfl,rfl⟩)|(apply zU;exact rfl;exact rfl)|(apply zS;exact rfl)|(apply yD;exact rfl;(focus first|omega))|apply zA|apply zI|apply zN|((with_reducible apply Sd.mk);first|exact True.intro)|((with_reducible apply Ln.mk);first|rfl)|((with_reducible apply Ce.mk);first|rfl)|((with_reducible apply Pu.mk);first|exact yA rfl)|exact True.intro|intro A|exact rfl)
 all_goals first
  |contradiction
  |(exfalso;omega)
  |(apply zL;(exact(show ResS _ _ _ _ [_,_] from⟨rfl,⟨rfl,trivial⟩⟩));(focus exact⟨rfl,rfl⟩);(focus repeat with_reducible first|exact Take.nil|apply Take.c|apply Take.drop))

theorem rErrO_any (n:Nat)(l:List UInt8)(e:Int)(ro:Bool)(h:SH):SRun Tryz.prog 48 [gptr n 0 2] ((n,⟨[S l,I e],ro⟩)::h) fun r q=>r=I e∧q=(n,⟨[S l,I e],ro⟩)::h:=by
 refine zR Tryz.func48 rfl rfl ?_
 repeat'(first|apply zF|apply zB|apply zE|(apply o_g zC;exact rfl;exact rfl)|(apply zM zC;(iterate 3 exact rfl);(focus exact pk))|apply zA|apply zN|((with_reducible apply Sd.mk);first|exact True.intro)|((with_reducible apply Ln.mk);first|rfl)|((with_reducible apply Ce.mk);first|rfl)|exact True.intro|exact rfl)
 all_goals first
  |(apply zL;(exact(show ResS _ _ _ _ [_] from⟨rfl,trivial⟩));(focus exact⟨rfl,rfl⟩);(focus repeat with_reducible first|exact Take.nil|apply Take.c|apply Take.drop))
theorem bLeftO_any (R:Nat)(h:SH)(d:List UInt8)(p n:Nat)(ro:Bool)(hp:p≤n)(hn:n≤100000):SRun Tryz.prog 134 [gptr R 0 3] ((R,⟨[S d,I p,I n],ro⟩)::h) fun r q=>r=I ((n:Int)-p)∧q=(R,⟨[S d,I p,I n],ro⟩)::h:=by
 refine zR Tryz.func134 rfl rfl ?_
 repeat'(first|apply zF|apply zB|apply zE|(apply yH;(focus kernel_rfl);(focus kernel_rfl))|(apply o_g zC;exact rfl;exact rfl)|(apply o_ar zC;exact rfl;exact rfl)|(apply zM zC;(iterate 3 exact rfl);(focus exact pk))|apply zA|apply zN|((with_reducible apply Sd.mk);first|exact True.intro)|((with_reducible apply Ln.mk);first|rfl)|((with_reducible apply Wr.mk);first|exact IntWalk.i64_in _ (by omega))|((with_reducible apply Ce.mk);first|rfl)|exact True.intro|exact rfl)
 all_goals first
  |(apply zL;(exact(show ResS _ _ _ _ [_] from⟨rfl,trivial⟩));(focus exact⟨rfl,rfl⟩);(focus repeat with_reducible first|exact Take.nil|apply Take.c|apply Take.drop))
def rowR (E:List UInt8)(w i:Nat):List UInt8:=(List.range w).map fun j=>b8 (ch (tkv E (2*(w*i+j)) 0 2))
set_option maxHeartbeats 4000000 in
theorem readPlain_any (w c n:Nat)(D E:List UInt8)(L:List (List UInt8))(nr:Nat)(h:SH)(hD:D.length≤1000000)(hr:rdN D 4096=((c:Int),E,0))(hE:E≠[])(hE2:E.length≤5000)(hw:1≤w∧w≤128)(hc:1≤c∧c≤100)
  (hz:bat E ((E.length:Int)-1)≠0) (hn:(n:Int)=8*(E.length:Int)-1-tzV (bat E ((E.length:Int)-1))) (hn1:n≤60000) (ht:0≤tzV (bat E ((E.length:Int)-1))∧tzV (bat E ((E.length:Int)-1))<100)
  (hm:2*(c:Int)*(w:Int)=n) (hL:L.length=c) (hrow:∀i,i<c→L[i]! = rowR E w i) (hv:∀k,k<c*w→¬3<tkv E (2*k) 0 2) :
  SRun Tryz.prog 102 [.agg ⟨[I w]⟩,gptr nr 0 2] (rdB nr D 0::h) fun r q=>∃A,r=.tuple #[gsl A 0 c c 1,B true]∧q=(A,⟨L.map sV,false⟩)::rdB nr [] 0::h:=by
 have k1:=fun n h=>rNumber_any n D 4096 h hD
 rw[hr]at k1
 replace k1:∀n h,SRun Tryz.prog 47 [gptr n 0 2,I 4096] (rdB n D 0::h) fun r q=>r=I c∧q=rdB n E 0::h:=k1
 have k3:=fun n h=>rLeft_any n E 0 h
 have k4:=fun n h=>rTake_any n E E.length h (by omega) (by omega)
 rw[Int.toNat_natCast,List.take_length,List.drop_length]at k4
 have k5:=fun h=>bNewReader_any E n h hE hE2 hz hn hn1 ht
 have hn8:n≤8*E.length:=by omega
 clear hr hz hn ht
 refine zY Tryz.func102 rfl rfl ?_
 repeat'((fail_if_success (show SWp _ _ (Code.seq (Code.region 3 _ _) _) _ _ _));(fail_if_success (show SWp _ _ (Code.region 3 _ _) _ _ _));first|apply zF|apply zB|apply zE|(apply o_g zC;exact rfl;exact rfl)|(apply o_box (tt:=tyT);iterate 5 exact rfl)|(apply zD;exact rfl;exact rfl;(focus first|exact rfl);exact rfl;(focus exact⟨_,k1 _ _,by repeat with_reducible first|exact Take.nil|apply Take.c⟩);rintro _ _ ⟨rfl,rfl⟩)|(apply zD;exact rfl;exact rfl;(focus first|exact rfl);exact rfl;(focus exact⟨_,k3 _ _,by repeat with_reducible exact Take.nil⟩);rintro _ _ ⟨rfl,rfl⟩)|(apply zD;exact rfl;exact rfl;(focus first|exact rfl);exact rfl;(focus exact⟨_,k4 _ _,by repeat with_reducible exact Take.nil⟩);rintro _ _ ⟨rfl,rfl⟩)|(apply zD;exact rfl;exact rfl;(focus first|exact rfl);exact rfl;(focus exact⟨_,k5 _,by repeat with_reducible exact Take.nil⟩);rintro _ _ ⟨R,rfl,rfl⟩)|apply zA|((with_reducible apply Sd.mk);first|exact True.intro)|intro A)
 have e1:SRun Tryz.prog 48 [gptr nr 0 2] (lockS (rdB nr [] 0::h)) fun r q=>r=I 0∧q=lockS (rdB nr [] 0::h):=rErrO_any nr [] 0 true (lockS h)
 have e2:SRun Tryz.prog 134 [gptr R 0 3] (lockS (rdH R h E 0 n)) fun r q=>r=I n∧q=lockS (rdH R h E 0 n):=by
  have:=bLeftO_any R (lockS h) E 0 n true (Nat.zero_le _) (by omega)
  rw[show(n:Int)-((0:Nat):Int)=n by omega]at this
  exact this
 revert A;intro B0
 have hzS:zrow (S []) (((c:Nat):Int).toNat*1)=(L.take 0++List.replicate (L.length-0) []).map sV:=by
  rw[List.take_zero,List.nil_append,Nat.sub_zero,hL];exact map_zrow (f:=sV) [] rfl rfl _
 repeat'(first|apply zF|apply zB|apply zE|(apply yH;(focus kernel_rfl);(focus kernel_rfl))|(apply o_g zC;exact rfl;exact rfl)|(apply o_ar zC;exact rfl;exact rfl)|(apply zM zC;(iterate 3 exact rfl);(focus exact pk))|(apply o_makeSlice zC;(iterate 6 exact rfl);(focus decide);(focus first|omega);(focus first|exact hzS);exact rfl)|(apply yS;(iterate 4 exact rfl);(focus exact⟨_,e1,by repeat(first|with_reducible exact Take.nil|with_reducible apply yL|with_reducible apply Take.c|with_reducible apply Take.drop)⟩);(focus exact fun _ _ h=>h.1);(focus(repeat(first|exact Flat.c rfl))))|(apply yS;(iterate 4 exact rfl);(focus exact⟨_,e2,by repeat(first|with_reducible exact Take.nil|with_reducible apply yL|with_reducible apply Take.c|with_reducible apply Take.drop)⟩);(focus exact fun _ _ h=>h.1);(focus(repeat(first|exact Flat.c rfl))))|(apply zU;exact rfl;exact rfl)|(apply yD;exact rfl;(focus first|omega))|apply zA|apply zI|apply zH|((with_reducible apply Sd.mk);first|exact True.intro)|((with_reducible apply Ln.mk);first|rfl)|((with_reducible apply Wr.mk);first|exact IntWalk.i64_in _ (by omega))|((with_reducible apply Ce.mk);first|rfl)|exact True.intro|intro A|exact rfl)
 all_goals first|contradiction|(exfalso;omega)|skip
 revert A;intro A9
 clear e1 e2 k1 k3 k4 k5 hzS
 have hmN:n=2*(w*c):=by
  have e:((w*c:Nat):Int)=(w:Int)*(c:Int):=Int.natCast_mul _ _
  rw[Int.mul_assoc,Int.mul_comm (c:Int)]at hm
  omega
 refine zZ (S:=Nat × Nat) (fun s=>[(2,gptr B0 0 1),(7,gptr R 0 3),(9,gsl A9 0 (c*1) c 1),(45,I c),(46,I s.1)])
  (fun s=>(A9,⟨(L.take s.1++List.replicate (L.length-s.1) []).map sV,false⟩)::rdH R (rdB nr [] 0::(B0,⟨[I w],false⟩)::h) E s.2 n) (fun s=>s.1≤c∧s.2=2*(w*s.1)) (fun s=>c-s.1) (0,0) ⟨Nat.zero_le _,rfl⟩ (by repeat'(first|exact trivial|refine⟨rfl,?_⟩|refine⟨congrArg some ?_,?_⟩)) (by repeat with_reducible first|exact Take.nil|apply Take.c|apply Take.drop) ?_
 rintro⟨i,p⟩ ⟨hi,hp⟩
 dsimp only at hi hp ⊢
 by_cases hil:i<c
 ·have hst:=set_prog (X:=L) (z:=([]:List UInt8)) (i:=i) (by omega)
  have hri:=hrow i hil
  rw[hri]at hst
  have hrl:(rowR E w i).length=w:=by simp[rowR]
  have hrj:∀j,j<w→(rowR E w i)[j]! = b8 (ch (tkv E (2*(w*i+j)) 0 2)):=fun j hj=>by unfold rowR;rw[map_bang (by rw[List.length_range];exact hj),range_bang hj]
  generalize rowR E w i=row at *
  have hml:(L.take i++List.replicate (L.length-i) []).length=c:=by simp;omega
  have hlen:((L.take i++List.replicate (L.length-i) []).map sV).length=c*1:=by rw[List.length_map,hml,Nat.mul_one]
  have hset2:SetAt ((L.take i++List.replicate (L.length-i) []).map sV) (0+((i:Int)).toNat*1) (S row) ((L.take (i+1)++List.replicate (L.length-(i+1)) []).map sV):=by
   rw[←hst];exact setAt_mapZ (by omega)
  have hzB:zrow (.int .u8 0) (((w:Nat):Int).toNat*1)=bytesV (row.take 0++List.replicate (row.length-0) 0):=by
   rw[List.take_zero,List.nil_append,Nat.sub_zero,hrl];exact map_zrow (f:=byteV) 0 rfl rfl _
  generalize L.take i++List.replicate (L.length-i) []=Y at *
  repeat'(first|apply zF|apply zB|apply zE|(apply o_g zC;exact rfl;exact rfl)|(apply zM zC;(iterate 3 exact rfl);(focus exact pk))|(apply o_makeSlice zC;(iterate 6 exact rfl);(focus decide);(focus first|omega);(focus first|exact hzB);exact rfl)|(apply yC;exact rfl;(focus first|omega))|apply zA|apply zI|apply zH|((with_reducible apply Sd.mk);first|exact True.intro)|((with_reducible apply Ln.mk);first|rfl)|((with_reducible apply Ce.mk);first|rfl)|exact True.intro|intro A|exact rfl)
  all_goals first|contradiction|(exfalso;omega)|skip
  revert A;intro A11
  refine zZ (S:=Nat × Nat) (fun s=>[(2,gptr B0 0 1),(7,gptr R 0 3),(9,gsl A9 0 (c*1) c 1),(10,I i),(11,gsl A11 0 (w*1) w 1),(45,I c),(46,I i),(53,I w),(54,I s.1)])
   (fun s=>(A11,⟨bytesV (row.take s.1++List.replicate (row.length-s.1) 0),false⟩)::(A9,⟨Y.map sV,false⟩)::rdH R (rdB nr [] 0::(B0,⟨[I w],false⟩)::h) E s.2 n) (fun s=>s.1≤w∧s.2=2*(w*i+s.1)) (fun s=>w-s.1) (0,p) ⟨Nat.zero_le _,hp⟩ (by repeat'(first|exact trivial|refine⟨rfl,?_⟩|refine⟨congrArg some ?_,?_⟩)) (by repeat with_reducible first|exact Take.nil|apply Take.c|apply Take.drop) ?_
  clear hp
  rintro⟨j,p⟩ ⟨hj,hp⟩
  dsimp only at hj hp ⊢
  subst hp
  have hbig:w*(i+1)≤w*c:=Nat.mul_le_mul_left w hil
  rw[Nat.mul_succ]at hbig
  by_cases hjl:j<w
  ·have hvk:=hv (w*i+j) (by rw[Nat.mul_comm c w];omega)
   have hG:=fun h=>Get_any R h E (2*(w*i+j)) n (by omega) hn1 hn8 hvk
   have hstj:=set_prog (X:=row) (z:=(0:UInt8)) (i:=j) (by omega)
   rw[hrj j hjl]at hstj
   generalize tkv E (2*(w*i+j)) 0 2=t at *
   have hci:=ch_in t
   have hC:=fun h=>Char_any t h
   have hmj:(row.take j++List.replicate (row.length-j) 0).length=w:=by simp;omega
   have hset:SetAt (bytesV (row.take j++List.replicate (row.length-j) 0)) (0+((j:Int)).toNat*1) (.int .u8 (ch t)) (bytesV (row.take (j+1)++List.replicate (row.length-(j+1)) 0)):=by
    have:=setAt_bytes (l:=row.take j++List.replicate (row.length-j) 0) (i:=(j:Int)) (by omega) hci
    rw[Int.toNat_natCast,hstj]at this
    rwa [Int.toNat_natCast]
   generalize row.take j++List.replicate (row.length-j) 0=Z at *
   have hbl:(bytesV Z).length=w*1:=by rw[show(bytesV Z).length=Z.length from by simp[bytesV],hmj,Nat.mul_one]
   generalize ch t=ct at *
   repeat'(first|apply zF|apply zB|apply zE|(apply o_g zC;exact rfl;exact rfl)|(apply o_ar zC;exact rfl;exact rfl)|(apply zX zC;(iterate 4 exact rfl);(focus exact up))|(apply zD;exact rfl;exact rfl;(focus first|exact rfl);exact rfl;(focus exact⟨_,hG _,by repeat with_reducible first|exact Take.nil|apply Take.c⟩);rintro _ _ ⟨rfl,rfl⟩)|(apply zD;exact rfl;exact rfl;(focus first|exact rfl);exact rfl;(focus exact⟨_,hC _,by repeat with_reducible exact Take.nil⟩);rintro _ _ ⟨rfl,rfl⟩)|(apply yC;exact rfl;(focus first|omega))|apply zA|apply zG|apply zI|apply zH|((with_reducible apply Sd.mk);first|exact True.intro|omega)|((with_reducible apply Ln.mk);first|omega)|((with_reducible apply Wr.mk);first|exact IntWalk.i64_in _ (by omega))|((with_reducible apply Se.mk);first|exact hset)|exact True.intro)
   all_goals first
    |contradiction
    |(exfalso;omega)
    |exact⟨(j+1,2*(w*i+j)+2),⟨hjl,by show 2*(w*i+j)+2=2*(w*i+(j+1));omega⟩,by show w-(j+1)<w-j;omega,(by repeat'(first|exact trivial|refine⟨rfl,?_⟩|refine⟨congrArg some ?_,?_⟩)),(by repeat with_reducible first|exact Take.nil|apply Take.c|apply Take.drop)⟩
  ·obtain rfl:j=w:=by omega
   have hfin:row.take j++List.replicate (row.length-j) 0=row:=by rw[←hrl,List.take_length,Nat.sub_self];simp
   rw[hfin]
   have hbl:(bytesV row).length=j*1:=by rw[show(bytesV row).length=row.length from by simp[bytesV],hrl,Nat.mul_one]
   repeat'(first|apply zF|apply zB|apply zE|(apply o_g zC;exact rfl;exact rfl)|(apply o_ar zC;exact rfl;exact rfl)|(apply zX zC;(iterate 4 exact rfl);(focus exact up))|(apply o_toString zC;(iterate 6 exact rfl);(focus exact pk))|(apply yD;exact rfl;(focus first|omega))|apply zA|apply zK|apply zG|apply zJ|apply zV|((with_reducible apply Sd.mk);first|exact True.intro|omega)|((with_reducible apply Ln.mk);first|exact ‹_›|omega)|((with_reducible apply Wr.mk);first|exact IntWalk.i64_in _ (by omega))|((with_reducible apply Se.mk);first|exact hset2)|((with_reducible apply Su.mk);first|exact zQ)|exact True.intro|exact rfl)
   all_goals first
    |contradiction
    |(exfalso;omega)
    |exact⟨(i+1,2*(j*i+j)),⟨hil,by show 2*(j*i+j)=2*(j*(i+1));rw[Nat.mul_succ]⟩,by show c-(i+1)<c-i;omega,(by repeat'(first|exact trivial|refine⟨rfl,?_⟩|refine⟨congrArg some ?_,?_⟩)),(by repeat with_reducible first|exact Take.nil|apply Take.c|apply Take.drop)⟩
 ·obtain rfl:i=c:=by omega
  have hfin:L.take i++List.replicate (L.length-i) []=L:=by rw[←hL,List.take_length,Nat.sub_self];simp
  rw[hfin]
  repeat'(first|apply zF|apply zB|apply zE|(apply o_g zC;exact rfl;exact rfl)|(apply yD;exact rfl;(focus first|omega))|apply zA|apply zK|apply zJ|apply zN|apply zV|((with_reducible apply Sd.mk);first|exact True.intro))
  all_goals first
   |contradiction
   |(exfalso;omega)
   |(apply zL;(exact(show ResS _ _ _ _ [_,_] from⟨rfl,⟨rfl,trivial⟩⟩));(focus exact⟨A9,congrArg (fun z=>Value.tuple #[gsl A9 0 z i 1,B true]) (Nat.mul_one _),rfl⟩);(focus repeat with_reducible first|exact Take.nil|apply Take.c|apply Take.drop))

theorem BDecode_any (w:Int)(D E:List UInt8)(L:List (List UInt8))(m:Int)(h:SH)(hD:D.length≤1000000)(hr:rdN D 3=(0,E,0))(hw:1≤w∧w≤128)
  (hP:∀nr h,SRun Tryz.prog 102 [.agg ⟨[I w]⟩,gptr nr 0 2] (rdB nr E 0::h) fun r q=>∃A,r=.tuple #[gsl A 0 L.length L.length 1,B true]∧q=(A,⟨L.map sV,false⟩)::rdB nr [] 0::h)
  (hEnc:∀v h,Has h (L.map sV) 1 L.length v→SRun Tryz.prog 22 [I w,v] h fun r q=>r=.tuple #[S D,I 0]∧q=h) (hm:(L.length:Int)≤m) :
  SRun Tryz.prog 24 [I w,S D,I m] h fun r q=>∃A,r=.tuple #[gsl A 0 L.length L.length 1,I 0]∧q=(A,⟨L.map sV,false⟩)::h:=by
 have k1:=fun n h=>rNumber_any n D 3 h hD
 rw[hr]at k1
 replace k1:∀n h,SRun Tryz.prog 47 [gptr n 0 2,I 3] (rdB n D 0::h) fun r q=>r=I 0∧q=rdB n E 0::h:=k1
 have k2:=fun n h=>rErr_any n E 0 h
 have hf:(mget rdL 0).getD .nilFunc=fn0 102:=rfl
 have hW:=fun h=>readers_any h
 generalize rdL=W at *
 refine w_body3 Tryz.func24 rfl rfl ?_
 repeat'(first|apply zF|apply zB|apply zE|(apply o_g zC;exact rfl;exact rfl)|(apply yR;exact rfl;exact rfl)|(apply yT zC;exact rfl;exact rfl;(focus first|with_reducible exact pl121);exact rfl;(focus repeat(first|exact BuildR.nil|(apply BuildR.one;exact rfl;exact rfl;(first|(focus(repeat(first|exact SetAt.zero));done)))));exact rfl)|(apply o_lookup (α:=Int) zC;exact rfl;(focus exact pk);exact rfl;(focus exact Tryz.underlying118);(focus exact Tryz.underlying3);(focus exact keyI);exact rfl;exact rfl;(focus first|exact hf))|(apply zD;exact rfl;exact rfl;(focus first|exact rfl);exact rfl;(focus exact⟨_,yN _ _,by repeat with_reducible exact Take.nil⟩);rintro _ _ ⟨nr,rfl,rfl⟩)|(apply zD;exact rfl;exact rfl;(focus first|exact rfl);exact rfl;(focus exact⟨_,k1 _ _,by repeat with_reducible exact Take.nil⟩);rintro _ _ ⟨rfl,rfl⟩)|(apply zD;exact rfl;exact rfl;(focus first|exact rfl);exact rfl;(focus exact⟨_,k2 _ _,by repeat with_reducible exact Take.nil⟩);rintro _ _ ⟨rfl,rfl⟩)|(apply zD;exact rfl;exact rfl;(focus first|exact rfl);exact rfl;(focus exact⟨_,hW _,by repeat with_reducible exact Take.nil⟩);rintro _ _ ⟨M,rfl,rfl⟩)|(apply zD;exact rfl;exact rfl;(focus first|exact rfl);exact rfl;(focus exact⟨_,hP _ _,by repeat with_reducible first|exact Take.nil|apply Take.c⟩);rintro _ _ ⟨A1,rfl,rfl⟩)|(apply zD;exact rfl;exact rfl;(focus first|exact rfl);exact rfl;(focus exact⟨_,hEnc _ _ (hasS rfl .head),by repeat with_reducible exact Take.nil⟩);rintro _ _ ⟨rfl,rfl⟩)|(apply zU;exact rfl;exact rfl)|(apply o_gF;(iterate 3 exact rfl);(focus first|omega))|(apply zS;exact rfl)|(apply yD;exact rfl;(focus first|omega))|(apply w_ifN;exact rfl;all_goals intro hc)|apply zA|apply zP|apply zI|apply zN|((with_reducible apply Sd.mk);first|exact True.intro)|exact rfl)
 all_goals first
  |contradiction
  |(exfalso;omega)
  |(apply zL;(exact(show ResS _ _ _ _ [_,_] from⟨rfl,⟨rfl,trivial⟩⟩));(focus exact⟨A1,rfl,rfl⟩);(focus repeat with_reducible first|exact Take.nil|apply Take.c|apply Take.drop))
theorem rTexts_any (L:List (List UInt8))(v u:Value)(h:SH)(hv:Has h (L.map sV) 1 L.length v)(hu:Has h (L.map sV) 1 L.length u)(hl:L.length≤4096)(h0:0<L.length) :
  SRun Tryz.prog 25 [v,u] h fun r q=>r=B true∧q=h:=by
 obtain⟨ad,fl,rfl,hh⟩:=hv
 obtain⟨bd,gl,rfl,hg⟩:=hu
 obtain⟨A,ro,h1,rfl,hp⟩:=hh (by omega)
 obtain⟨B,rp,h2,rfl,hq⟩:=hg (by omega)
 have hlb:(L.map sV).length=L.length:=by simp
 refine zY Tryz.func25 rfl rfl ?_
 repeat'(first|apply zF|apply zB|apply zE|(apply o_g zC;exact rfl;exact rfl)|(apply yD;exact rfl;(focus first|omega))|apply zA|apply zI|apply zH|((with_reducible apply Sd.mk);first|exact True.intro))
 all_goals first|contradiction|(exfalso;omega)|skip
 refine zZ (S:=Nat) (fun i=>[(0,.slice (some ⟨A,0,some (1*L.length)⟩) L.length fl),(1,.slice (some ⟨B,0,some (1*L.length)⟩) L.length gl),(5,I i)]) (fun _=>h) (fun i=>i≤L.length) (fun i=>L.length-i) 0 (Nat.zero_le _) (by repeat'(first|exact trivial|refine⟨rfl,?_⟩|refine⟨congrArg some ?_,?_⟩)) (by repeat with_reducible first|exact Take.nil|apply Take.c|apply Take.drop) ?_
 rintro i hi
 by_cases hil:i<L.length
 ·have hc1:(L.map sV)[0+((i:Int)).toNat*1]?=some (S L[i]!):=yM hil
  repeat'(first|apply zF|apply zB|apply zE|(apply yH;(focus kernel_rfl);(focus kernel_rfl))|(apply o_g zC;exact rfl;exact rfl)|(apply o_ar zC;exact rfl;exact rfl)|(apply zM zC;(iterate 3 exact rfl);(focus exact pk))|(apply yC;exact rfl;(focus first|omega))|(apply w_ifN;exact rfl;all_goals intro hc)|apply zA|apply zP|apply zG|apply yP|apply zI|apply zN|apply zH|((with_reducible apply Sd.mk);first|exact True.intro|omega)|((with_reducible apply Ln.mk);first|(simp[hlb];first|done|omega))|((with_reducible apply Wr.mk);first|exact IntWalk.i64_in _ (by omega))|((with_reducible apply Ce.mk);first|exact ‹_›)|exact True.intro|exact rfl)
  all_goals first
   |contradiction
   |(exfalso;omega)
   |exact⟨i+1,hil,by show L.length-(i+1)<L.length-i;omega,(by repeat'(first|exact trivial|refine⟨rfl,?_⟩|refine⟨congrArg some ?_,?_⟩)),(by repeat with_reducible first|exact Take.nil|apply Take.c|apply Take.drop)⟩
 ·obtain rfl:i=L.length:=by omega
  repeat'(first|apply zF|apply zB|apply zE|(apply o_g zC;exact rfl;exact rfl)|(apply yD;exact rfl;(focus first|omega))|apply zA|apply zK|apply zJ|apply zN|apply zV|((with_reducible apply Sd.mk);first|exact True.intro))
  all_goals first
   |contradiction
   |(exfalso;omega)
   |(apply zL;(exact(show ResS _ _ _ _ [_] from⟨rfl,trivial⟩));(focus exact⟨rfl,rfl⟩);(focus repeat with_reducible first|exact Take.nil|apply Take.c|apply Take.drop))

set_option maxHeartbeats 2000000 in
theorem TEncode_any (a b c:Int)(r:List Int)(n:Nat)(v:Value)(h:SH)(hv:Has h (nodes (a::b::c::r)) 1 (a::b::c::r).length v)(hl:(a::b::c::r).length≤4096)(hj:inc (-1) (a::b::c::r))
  (hn:clkN a (b-a) (c-b) (a::b::c::r)[(a::b::c::r).length-1]! 4095 1=n) (hk:vck a (b-a) (c-b) n)
  (hm:misN (a::b::c::r) (tms a (b-a) (c-b) n) n≠[]) (ha:addN (a::b::c::r) (tms a (b-a) (c-b) n)≠[])
  (e1:(mEncN (gps (-1) (misN (a::b::c::r) (tms a (b-a) (c-b) n) n))).1.length≤100000) (e2:(mEncN (gps (-1) (addN (a::b::c::r) (tms a (b-a) (c-b) n)))).1.length≤100000)
  (e0:(mEncN (gps (-1) (a::b::c::r))).1.length≤100000) (hg:∀x∈gps (-1) (a::b::c::r),x≤9223372036854775807) (k:RlOk ((gps (-1) (a::b::c::r)).map vnum))
  (q1:¬(cod1 a (b-a) (c-b) n (a::b::c::r)).length<(cod0 (a::b::c::r)).length) (q2:¬(cod2 (a::b::c::r)).length<(cod0 (a::b::c::r)).length) :
  SRun Tryz.prog 21 [v] h fun y q=>y=.tuple #[S (cod0 (a::b::c::r)),I 0]∧q=h:=by
 obtain⟨ad,fl,rfl,_⟩:=id hv
 have hV:=fun h hv=>TValid_any (a::b::c::r) (.slice ad (a::b::c::r).length fl) h hv hl hj
 have htk:=inc_tok (by omega) hj
 have c0:=fun N T h hv=>cod0_any (a::b::c::r) (.slice ad (a::b::c::r).length fl) N T h hv hl htk e0
 have c1:=fun N T h hv=>cod1_any a b c r n (.slice ad (a::b::c::r).length fl) N T h hv hl hj hn hk hm ha e1 e2
 have c2:=fun T h hv=>cod2_any (a::b::c::r) (.slice ad (a::b::c::r).length fl) T h hv hl htk (by simp) hg k
 have hC:=fun h=>codings_any ad (a::b::c::r).length fl h
 clear hn hm ha k e1 e2 e0 hg
 have hl3:3≤(a::b::c::r).length:=by simp
 generalize cod1 a (b-a) (c-b) n (a::b::c::r)=s1 at *
 generalize cod0 (a::b::c::r)=s0 at *
 generalize cod2 (a::b::c::r)=s2 at *
 generalize a::b::c::r=L at *
 refine zR Tryz.func21 rfl rfl ?_
 repeat'(first|apply zF|apply zB|apply zE|(apply o_g zC;exact rfl;exact rfl)|(apply yR;exact rfl;exact rfl)|(apply zD;exact rfl;exact rfl;(focus first|exact rfl);exact rfl;(focus exact⟨_,hV _ hv,by repeat with_reducible exact Take.nil⟩);rintro _ _ ⟨rfl,rfl⟩)|(apply zD;exact rfl;exact rfl;(focus first|exact rfl);exact rfl;(focus exact⟨_,hC _,by repeat with_reducible exact Take.nil⟩);rintro _ _ ⟨T,N,A12,rfl,rfl⟩)|(apply zS;exact rfl)|apply zA|apply zI|apply zH|((with_reducible apply Sd.mk);first|exact True.intro))
 all_goals first|contradiction|(exfalso;omega)|skip
 rename SH=>h
 have e0:(fCod T N)[0+(0:Int).toNat*1]?=some (.func (.func 88) #[] #[gptr N 0 1,gptr T 0 1]):=rfl
 have e1:(fCod T N)[0+(1:Int).toNat*1]?=some (.func (.func 90) #[] #[gptr T 0 1,gptr N 0 1]):=rfl
 have e2:(fCod T N)[0+(2:Int).toNat*1]?=some (.func (.func 93) #[] #[gptr T 0 1]):=rfl
 refine zZ (S:=Nat × List UInt8) (fun s=>[(0,.slice ad L.length fl),(4,S s.2),(12,gsl A12 0 3 3 1),(13,I 3),(14,I s.1)])
  (fun s=>(A12,⟨fCod T N,false⟩)::(N,⟨[fNum],false⟩)::(T,⟨[.slice ad L.length fl],false⟩)::h) (fun s=>s.1≤3∧(0<s.1→s.2=s0)) (fun s=>3-s.1) (0,[]) ⟨Nat.zero_le _,fun k=>absurd k (by decide)⟩ (by repeat'(first|exact trivial|refine⟨rfl,?_⟩|refine⟨congrArg some ?_,?_⟩)) (by repeat with_reducible first|exact Take.nil|apply Take.c|apply Take.drop) ?_
 rintro⟨i,o⟩ ⟨hi,ho⟩
 dsimp only at hi ho ⊢
 have hii:i=0∨i=1∨i=2∨i=3:=by omega
 rcases hii with rfl|rfl|rfl|rfl
 ·skip
  repeat'(first|apply zF|apply zB|apply zE|(apply o_g zC;exact rfl;exact rfl)|(apply o_ar zC;exact rfl;exact rfl)|(apply zM zC;(iterate 3 exact rfl);(focus exact pk))|(apply zD;exact rfl;exact rfl;(focus first|exact rfl);exact rfl;(focus exact⟨_,c0 N T ((A12,⟨fCod T N,false⟩)::h) (hv.re (.drop .nil)),by repeat with_reducible first|exact Take.nil|apply Take.c⟩);rintro _ _ ⟨rfl,rfl⟩)|(apply yF;iterate 4 exact rfl)|(apply yB;exact rfl)|(apply zS;exact rfl)|apply zA|apply zG|apply zI|apply zH|((with_reducible apply Sd.mk);first|exact True.intro|omega)|((with_reducible apply Ln.mk);first|rfl)|((with_reducible apply Wr.mk);first|exact IntWalk.i64_in _ (by omega))|((with_reducible apply Ce.mk);first|rfl)|exact True.intro|exact rfl)
  all_goals first
   |contradiction
   |(exfalso;omega)
   |exact⟨(1,s0),⟨by show 1≤3;decide,fun _=>rfl⟩,by show 3-1<3-0;decide,(by repeat'(first|exact trivial|refine⟨rfl,?_⟩|refine⟨congrArg some ?_,?_⟩)),(by repeat with_reducible first|exact Take.nil|apply Take.c|apply Take.drop)⟩
 ·obtain rfl:=ho (by decide)
  repeat'(first|apply zF|apply zB|apply zE|(apply o_g zC;exact rfl;exact rfl)|(apply o_ar zC;exact rfl;exact rfl)|(apply zM zC;(iterate 3 exact rfl);(focus exact pk))|(apply zD;exact rfl;exact rfl;(focus first|exact rfl);exact rfl;(focus exact⟨_,c1 N T ((A12,⟨fCod T N,false⟩)::h) (hv.re (.drop .nil)),by repeat with_reducible first|exact Take.nil|apply Take.c⟩);rintro _ _ ⟨rfl,rfl⟩)|(apply zU;exact rfl;exact rfl)|(apply yB;exact rfl)|(apply yD;exact rfl;(focus first|omega))|apply zA|apply zG|apply zI|apply zH|((with_reducible apply Sd.mk);first|exact True.intro|omega)|((with_reducible apply Ln.mk);first|rfl)|((with_reducible apply Wr.mk);first|exact IntWalk.i64_in _ (by omega))|((with_reducible apply Ce.mk);first|rfl)|exact True.intro|exact rfl)
  all_goals first
   |contradiction
   |(exfalso;omega)
   |exact⟨(2,o),⟨by show 2≤3;decide,fun _=>rfl⟩,by show 3-2<3-1;decide,(by repeat'(first|exact trivial|refine⟨rfl,?_⟩|refine⟨congrArg some ?_,?_⟩)),(by repeat with_reducible first|exact Take.nil|apply Take.c|apply Take.drop)⟩
 ·obtain rfl:=ho (by decide)
  repeat'(first|apply zF|apply zB|apply zE|(apply o_g zC;exact rfl;exact rfl)|(apply o_ar zC;exact rfl;exact rfl)|(apply zM zC;(iterate 3 exact rfl);(focus exact pk))|(apply zD;exact rfl;exact rfl;(focus first|exact rfl);exact rfl;(focus exact⟨_,c2 T ((A12,⟨fCod T N,false⟩)::(N,⟨[fNum],false⟩)::h) (hv.re (.drop (.drop .nil))),by repeat with_reducible first|exact Take.nil|apply Take.c⟩);rintro _ _ ⟨rfl,rfl⟩)|(apply zU;exact rfl;exact rfl)|(apply yF;iterate 4 exact rfl)|(apply yB;exact rfl)|(apply zS;exact rfl)|(apply yD;exact rfl;(focus first|omega))|apply zA|apply zG|apply zI|apply zH|((with_reducible apply Sd.mk);first|exact True.intro|omega)|((with_reducible apply Ln.mk);first|rfl)|((with_reducible apply Wr.mk);first|exact IntWalk.i64_in _ (by omega))|((with_reducible apply Ce.mk);first|rfl)|exact True.intro|exact rfl)
  all_goals first
   |contradiction
   |(exfalso;omega)
   |exact⟨(3,o),⟨by show 3≤3;decide,fun _=>rfl⟩,by show 3-3<3-2;decide,(by repeat'(first|exact trivial|refine⟨rfl,?_⟩|refine⟨congrArg some ?_,?_⟩)),(by repeat with_reducible first|exact Take.nil|apply Take.c|apply Take.drop)⟩
 ·obtain rfl:=ho (by decide)
  repeat'(first|apply zF|apply zB|apply zE|(apply o_g zC;exact rfl;exact rfl)|(apply zS;exact rfl)|apply zA|apply zK|apply zJ|apply zN|apply zV|((with_reducible apply Sd.mk);first|exact True.intro))
  all_goals first
   |contradiction
   |(exfalso;omega)
   |(apply zL;(exact(show ResS _ _ _ _ [_,_] from⟨rfl,⟨rfl,trivial⟩⟩));(focus exact⟨rfl,rfl⟩);(focus repeat with_reducible first|exact Take.nil|apply Take.c|apply Take.drop))

theorem Tread_any (D E:List UInt8)(G:List Int)(h:SH)(hD:D.length≤1000000)(hr:rdN D 2=(0,E,0))(hE:E.length≤1000000)(hd:mDecN E 4096=(G,0))(hg:G≠[])(hl:G.length≤4096)(hj:jok (-1) G) :
  SRun Tryz.prog 56 [S D] h fun r q=>∃A,r=.tuple #[gsl A 0 G.length G.length 1,B true]∧q=(A,⟨nodes (jns (-1) G),false⟩)::h:=by
 have k1:=fun n h=>rNumber_any n D 2 h hD
 rw[hr]at k1
 have k1:∀n h,SRun Tryz.prog 47 [gptr n 0 2,I 2] (rdB n D 0::h) fun r q=>r=I 0∧q=rdB n E 0::h:=k1
 have k2:=fun n h=>rErr_any n E 0 h
 have k3:=fun n h=>rLeft_any n E 0 h
 have k4:=fun n h=>rTake_any n E E.length h (by omega) (by omega)
 rw[Int.toNat_natCast,List.take_length,List.drop_length]at k4
 have k5:∀h,SRun Tryz.prog 97 [S E,I 4096] h fun r q=>∃A,r=.tuple #[gsl A 0 G.length G.length 1,I 0]∧q=(A,⟨nodes G,false⟩)::h:=fun h=>(DecodeNumbers_any E 4096 h hE).mono fun r q k=>by
  rw[hd]at k
  rcases k with⟨k,_⟩|⟨_,k⟩
  ·exact absurd k hg
  ·exact k
 have k6:=fun v h hv=>join_any G v h hv hl hj
 generalize jns (-1) G=L at *
 refine zR Tryz.func56 rfl rfl ?_
 repeat'(first|apply zF|apply zB|apply zE|(apply o_g zC;exact rfl;exact rfl)|(apply zD;exact rfl;exact rfl;(focus first|exact rfl);exact rfl;(focus exact⟨_,yN _ _,by repeat with_reducible exact Take.nil⟩);rintro _ _ ⟨nr,rfl,rfl⟩)|(apply zD;exact rfl;exact rfl;(focus first|exact rfl);exact rfl;(focus exact⟨_,k1 _ _,by repeat with_reducible exact Take.nil⟩);rintro _ _ ⟨rfl,rfl⟩)|(apply zD;exact rfl;exact rfl;(focus first|exact rfl);exact rfl;(focus exact⟨_,k2 _ _,by repeat with_reducible exact Take.nil⟩);rintro _ _ ⟨rfl,rfl⟩)|(apply zD;exact rfl;exact rfl;(focus first|exact rfl);exact rfl;(focus exact⟨_,k3 _ _,by repeat with_reducible exact Take.nil⟩);rintro _ _ ⟨rfl,rfl⟩)|(apply zD;exact rfl;exact rfl;(focus first|exact rfl);exact rfl;(focus exact⟨_,k4 _ _,by repeat with_reducible exact Take.nil⟩);rintro _ _ ⟨rfl,rfl⟩)|(apply zD;exact rfl;exact rfl;(focus first|exact rfl);exact rfl;(focus exact⟨_,k5 _,by repeat with_reducible exact Take.nil⟩);rintro _ _ ⟨A1,rfl,rfl⟩)|(apply zD;exact rfl;exact rfl;(focus first|exact rfl);exact rfl;(focus exact⟨_,k6 _ _ (hasX rfl .head),by repeat with_reducible exact Take.nil⟩);rintro _ _ ⟨A2,rfl,rfl⟩)|(apply yB;exact rfl)|(apply zS;exact rfl)|apply zA|apply zG|apply zI|apply zN|apply zH|((with_reducible apply Sd.mk);first|exact True.intro))
 all_goals first
  |contradiction
  |(exfalso;omega)
  |(apply zL;(exact(show ResS _ _ _ _ [_,_] from⟨rfl,⟨rfl,trivial⟩⟩));(focus exact⟨A2,rfl,rfl⟩);(focus repeat with_reducible first|exact Take.nil|apply Take.c|apply Take.drop))
theorem TDecode_any (D E:List UInt8)(G L:List Int)(m:Int)(h:SH)(hD:D.length≤1000000)(hr:rdN D 2=(0,E,0))(hE:E.length≤1000000)(hd:mDecN E 4096=(G,0))(hg:G≠[])(hl:G.length≤4096)(hj:jok (-1) G)
  (hL:jns (-1) G=L) (hEnc:∀v h,Has h (nodes L) 1 L.length v→SRun Tryz.prog 21 [v] h fun r q=>r=.tuple #[S D,I 0]∧q=h) (hm:(L.length:Int)≤m) :
  SRun Tryz.prog 23 [S D,I m] h fun r q=>∃A,r=.tuple #[gsl A 0 L.length L.length 1,I 0]∧q=(A,⟨nodes L,false⟩)::h:=by
 have k1:=fun h=>Tread_any D E G h hD hr hE hd hg hl hj
 have hn:=jns_len G (-1)
 rw[hL]at k1 hn
 rw[←hn]at k1
 refine zY Tryz.func23 rfl rfl ?_
 repeat'(first|apply zF|apply zB|apply zE|(apply o_g zC;exact rfl;exact rfl)|(apply yR;exact rfl;exact rfl)|(apply zD;exact rfl;exact rfl;(focus first|exact rfl);exact rfl;(focus exact⟨_,k1 _,by repeat with_reducible exact Take.nil⟩);rintro _ _ ⟨A1,rfl,rfl⟩)|(apply zD;exact rfl;exact rfl;(focus first|exact rfl);exact rfl;(focus exact⟨_,hEnc _ _ (hasX rfl .head),by repeat with_reducible exact Take.nil⟩);rintro _ _ ⟨rfl,rfl⟩)|(apply zU;exact rfl;exact rfl)|(apply zS;exact rfl)|(apply yD;exact rfl;(focus first|omega))|(apply w_ifN;exact rfl;all_goals intro hc)|apply zA|apply zP|apply zI|apply zN|((with_reducible apply Sd.mk);first|exact True.intro))
 all_goals first
  |contradiction
  |(exfalso;omega)
  |(apply zL;(exact(show ResS _ _ _ _ [_,_] from⟨rfl,⟨rfl,trivial⟩⟩));(focus exact⟨A1,rfl,rfl⟩);(focus repeat with_reducible first|exact Take.nil|apply Take.c|apply Take.drop))

abbrev Lt :List Int:=[0,5,10,15,21]
abbrev Lb :List (List UInt8):=[[48,48],[48,49],[49,48],[49,49],[48,120]]
theorem awT_enc (v:Value)(h:SH)(hv:Has h (nodes Lt) 1 Lt.length v):SRun Tryz.prog 21 [v] h fun r q=>r=.tuple #[S (cod0 Lt),I 0]∧q=h :=
 TEncode_any 0 5 10 [15,21] 5 v h hv (by decide) (by decide +kernel) (by decide +kernel) (by decide +kernel) (by decide +kernel) (by decide +kernel) (by decide +kernel) (by decide +kernel) (by decide +kernel) (by decide +kernel)
  ⟨by decide +kernel,by decide +kernel,by decide +kernel,by decide +kernel,by decide +kernel,by decide +kernel⟩ (by decide +kernel) (by decide +kernel)
theorem awT_dec (h:SH):SRun Tryz.prog 23 [S (cod0 Lt),I 5] h fun r q=>∃A,r=.tuple #[gsl A 0 5 5 1,I 0]∧q=(A,⟨nodes Lt,false⟩)::h :=
 TDecode_any (cod0 Lt) (mEncN (gps (-1) Lt)).1 (gps (-1) Lt) Lt 5 h (by decide +kernel) (by decide +kernel) (by decide +kernel) (by decide +kernel) (by decide +kernel) (by decide +kernel) (by decide +kernel) (by decide +kernel) (fun v h hv=>awT_enc v h hv) (by decide +kernel)
def Db :List UInt8:=vnum 0++plnE Lb
theorem Lb_ok :∀s∈Lb,isV s∧(s.length:Int)=2:=by decide +kernel
theorem awB_enc (v:Value)(h:SH)(hv:Has h (Lb.map sV) 1 Lb.length v):SRun Tryz.prog 22 [I 2,v] h fun r q=>r=.tuple #[S Db,I 0]∧q=h :=
 BEncode_any 2 (plnE Lb) (cntE Lb) (mixE 2 Lb) (rlA (Lb.map sh1)) Lb v h hv (by decide) (by decide) Lb_ok
  (fun h hv=>plain_any 2 Lb v h hv (by decide) (by decide) (by decide) (by decide +kernel) (by decide +kernel))
  (fun h hv=>counter_any 2 Lb v h hv (by decide) (by decide) (by decide) Lb_ok (by decide +kernel) (by decide +kernel) (by decide +kernel) ⟨by decide +kernel,by decide +kernel,by decide +kernel,by decide +kernel,by decide +kernel,by decide +kernel⟩ (by decide +kernel) (by decide +kernel) (by decide +kernel))
  (fun h hv=>mixed_any 2 Lb v h hv (by decide) (by decide) (by decide +kernel) (by decide +kernel) ⟨by decide +kernel,by decide +kernel,by decide +kernel,by decide +kernel,by decide +kernel,by decide +kernel⟩)
  (fun h hv=>words_any 2 Lb v h hv (by decide) (by decide) ⟨by decide +kernel,by decide +kernel,by decide +kernel,by decide +kernel,by decide +kernel,by decide +kernel⟩)
  (by decide +kernel) (by decide +kernel) (by decide +kernel) (by decide +kernel)
theorem awB_dec (h:SH):SRun Tryz.prog 24 [I 2,S Db,I 5] h fun r q=>∃A,r=.tuple #[gsl A 0 5 5 1,I 0]∧q=(A,⟨Lb.map sV,false⟩)::h :=
 BDecode_any 2 Db (plnE Lb) Lb 5 h (by decide +kernel) (by decide +kernel) (by decide)
  (fun nr h=>readPlain_any 2 5 20 (plnE Lb) ((plnE Lb).drop 1) Lb nr h (by decide +kernel) (by decide +kernel) (by decide +kernel) (by decide +kernel) (by decide) (by decide) (by decide +kernel) (by decide +kernel) (by decide) (by decide +kernel) (by decide) (by decide) (by decide +kernel) (by decide +kernel))
  (fun v h hv=>awB_enc v h hv) (by decide)
def Dc :List UInt8:=(encF [(1,cod0 Lt),(2,Db)] []).1
theorem awF_enc (v:Value)(h:SH)(hv:Has h (recs frC [(1,cod0 Lt),(2,Db)]) 2 2 v):SRun Tryz.prog 7 [v] h fun r q=>r=.tuple #[S Dc,I 0]∧q=h:=by
 have:=EncodeF_any [(1,cod0 Lt),(2,Db)] v h hv (by decide) (by decide +kernel)
 rw[show(encF [(1,cod0 Lt),(2,Db)] []).2=0 by decide +kernel]at this
 exact this
theorem awF_dec (h:SH):SRun Tryz.prog 11 [S Dc] h fun r q=>∃A fl ro h1,r=.tuple #[.slice (some ⟨A,0,some 4⟩) 2 fl,I 0]∧Pick q A ⟨[I 1,S (cod0 Lt),I 2,S Db],ro⟩ h1∧Take q h :=
 (DecodeF_any Dc h (by decide +kernel)).mono fun r q k=>by
  rw[show decF Dc.length Dc []=some [(1,cod0 Lt),(2,Db)] by decide +kernel]at k
  obtain⟨v,rfl,⟨ad,fl,rfl,hh⟩,t⟩:=k
  obtain⟨A,ro,h1,rfl,hp⟩:=hh (by decide)
  exact⟨A,fl,ro,h1,rfl,hp,t⟩
end Go.Proofs.YteddogfolceahaaGreat
end
