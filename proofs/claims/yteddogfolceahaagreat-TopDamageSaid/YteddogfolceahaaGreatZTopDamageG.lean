/- Part 7 of the proof of the law TopDamage: texts merged. No condition. -/
import Derived.Test.YteddogfolceahaaGreatZTopDamageF
import Derived.ProofKit
import Derived.Deep.Slices
set_option linter.unusedSimpArgs false
set_option linter.unusedVariables false
section
set_option maxRecDepth 4000
namespace Go.Proofs.YteddogfolceahaaGreat
open Go.Gh Go.RowKit

abbrev vld (w m:Int):Prop:=1≤w∧w≤4096∧2≤m∧m≤273

def lcp (l:List UInt8)(i j:Nat):Nat→Nat
 |0=>0
 |m+1=>if bat l i=bat l j then lcp l (i+1) (j+1) m+1 else 0

theorem lcp_le (l:List UInt8):∀(m i j:Nat),lcp l i j m≤m
 |0,_,_=>Nat.le_refl _
 |m+1,i,j=>by
  unfold lcp;split
  ·have:=lcp_le l m (i+1) (j+1);omega
  ·omega

theorem valid_any (x y:Int)(h:SH):SRun Tryz.prog 68 [I x,I y] h fun r q=>r=B (decide (vld x y))∧q=h:=by
 refine zY Tryz.func68 rfl rfl ?_
 repeat'(first|apply zF|apply zB|apply zE|(apply o_g zC;exact rfl;exact rfl)|(apply zU;exact rfl;exact rfl)|(apply yF;iterate 4 exact rfl)|(apply o_guardT;(iterate 3 exact rfl);all_goals intro hc)|apply zA|apply zN|((with_reducible apply Sd.mk);first|exact True.intro))
 all_goals (apply zL;(exact(show ResS _ _ _ _ [_] from⟨rfl,trivial⟩));(focus refine⟨?_,rfl⟩;show B _=B _;congr 1;unfold vld;first|(rw[decide_eq_decide];omega)|(symm;rw[decide_eq_false_iff_not];omega));(focus repeat with_reducible first|exact Take.nil|apply Take.c|apply Take.drop))
theorem common_any (l:List UInt8)(i j m:Nat)(h:SH)(h1:i+m≤l.length)(h2:j+m≤l.length)(h5:l.length≤9223372036854775807) :
  SRun Tryz.prog 111 [S l,I i,I j,I m] h fun r q=>r=I (lcp l i j m)∧q=h:=by
 refine w_body4 Tryz.func111 rfl rfl ?_
 repeat'(first|apply zF|apply zB|apply zE|(apply o_g zC;exact rfl;exact rfl)|apply zA|apply zH|((with_reducible apply Sd.mk);first|exact True.intro))
 refine zZ (S:=Nat) (fun k=>[(0,S l),(1,I i),(2,I j),(3,I m),(10,I m),(11,I k)]) (fun _=>h)
  (fun k=>k≤m∧lcp l i j m=k+lcp l (i+k) (j+k) (m-k)) (fun k=>m-k) 0 ⟨by omega,by simp⟩ (by repeat'(first|exact trivial|refine⟨rfl,?_⟩|refine⟨congrArg some ?_,?_⟩)) (by repeat with_reducible first|exact Take.nil|apply Take.c|apply Take.drop) ?_
 rintro k ⟨hk,he⟩
 repeat'(first|apply zF|apply zB|apply zE|(apply yH;(focus kernel_rfl);(focus kernel_rfl))|(apply o_g zC;exact rfl;exact rfl)|(apply o_ar zC;exact rfl;exact rfl)|(apply o_max;iterate 3 exact rfl)|(apply w_ifN;exact rfl;all_goals intro hc)|(apply w_if;exact rfl;all_goals intro hc)|apply zA|apply zP|apply zK|apply zG|apply yP|apply zJ|apply zI|apply zN|apply zV|apply zH|((with_reducible apply Sd.mk);first|exact True.intro|omega)|((with_reducible apply Wr.mk);first|exact IntWalk.i64_in _ (by omega)))
 ·obtain⟨q,hq⟩:∃q,m-k=q+1:=⟨m-k-1,by omega⟩
  rw[hq,lcp,if_neg (by push_cast;assumption)]at he
  (apply zL;(exact(show ResS _ _ _ _ [_] from⟨rfl,trivial⟩));(focus exact⟨by show I _=I _;rw[he];rfl,rfl⟩);(focus repeat with_reducible first|exact Take.nil|apply Take.c|apply Take.drop))
 ·refine⟨k+1,⟨by omega,?_⟩,by omega,(by repeat'(first|exact trivial|refine⟨rfl,?_⟩|refine⟨congrArg some ?_,?_⟩)),(by repeat with_reducible first|exact Take.nil|apply Take.c|apply Take.drop)⟩
  obtain⟨q,hq⟩:∃q,m-k=q+1:=⟨m-k-1,by omega⟩
  rw[hq,lcp,if_pos (by push_cast;assumption)]at he
  rw[he,show m-(k+1)=q from by omega,show i+(k+1)=i+k+1 from by omega,show j+(k+1)=j+k+1 from by omega]
  omega
 ·have:k=m:=by omega
  subst this
  (apply zL;(exact(show ResS _ _ _ _ [_] from⟨rfl,trivial⟩));(focus refine⟨?_,rfl⟩;show I _=I _;rw[he];simp[lcp]);(focus repeat with_reducible first|exact Take.nil|apply Take.c|apply Take.drop))

theorem common_int (l:List UInt8)(i j m:Int)(h:SH)(hi:0≤i)(hj:0≤j)(hm:0≤m)(h1:i+m≤l.length)(h2:j+m≤l.length)(h5:l.length≤9223372036854775807) :
  SRun Tryz.prog 111 [S l,I i,I j,I m] h fun r q=>r=I (lcp l i.toNat j.toNat m.toNat)∧q=h:=by
 obtain⟨i,rfl⟩:=Int.eq_ofNat_of_zero_le hi
 obtain⟨j,rfl⟩:=Int.eq_ofNat_of_zero_le hj
 obtain⟨m,rfl⟩:=Int.eq_ofNat_of_zero_le hm
 exact common_any l i j m h (by omega) (by omega) h5

def com (l:List UInt8)(i j:Int):Nat:=if 0≤i∧0≤j∧i≤l.length∧j≤l.length then lcp l i.toNat j.toNat (l.length-max i j).toNat else 0

def atd (l:List UInt8)(i d m:Int):Int:=if d<1∨i<d then 0 else if min (com l (i-d) i:Int) m<2 then 0 else min (com l (i-d) i:Int) m

abbrev cpF (c:Int × Int):List Value:=[I c.1,I c.2]
theorem cpW (c:Int × Int):(cpF c).length=2:=rfl
@[simp] theorem len_cps (l:List (Int × Int)):(recs cpF l).length=2*l.length:=by rw[recs_len cpW];omega
abbrev cpS (A:Nat)(l:List (Int × Int)):Value:=gsl A 0 (2*l.length) l.length 2
abbrev cpB (l:List (Int × Int))(ro:Bool):Blk:=⟨recs cpF l,ro⟩

def rc (l:List UInt8)(i m:Int):Nat→List (Int × Int) × Int
 |0=>([],0)
 |d+1=>if(rc l i m d).2<atd l i (d+1) m then((rc l i m d).1++[(atd l i (d+1) m,(d:Int)+1)],atd l i (d+1) m)else rc l i m d

def rcands (l:List UInt8)(i w m:Int):List (Int × Int) :=
 if vld w m∧0≤i∧i≤l.length∧l.length≤4096 then(rc l i m (min w i).toNat).1 else []


abbrev BS :=Nat × List (Int × Int)
def bgo (i:Nat)(w:Int)(m j:Nat)(s:BS):Prop:=¬(w<(i:Int)-j∨m≤s.1)
instance (i:Nat) (w:Int) (m j:Nat) (s:BS):Decidable (bgo i w m j s):=by unfold bgo;infer_instance
def bup (l:List UInt8)(i m j:Nat)(s:BS):BS:=if s.1<lcp l j i m then(lcp l j i m,s.2++[((lcp l j i m:Int),(i:Int)-(j:Int))])else s
def nbst (l:List UInt8)(i:Nat)(w:Int)(m j:Nat)(s:BS):BS:=if bgo i w m j s then bup l i m j s else s
def brun (l:List UInt8)(i:Nat)(w:Int)(m:Nat):List Nat→BS→BS
 |[],s=>s
 |j::r,s=>if bgo i w m j s then brun l i w m r (bup l i m j s)else s

theorem lcp_ne (l:List UInt8):∀(m i j b:Nat),bat l (i+b:Nat)≠bat l (j+b:Nat)→lcp l i j m≤b
 |0,_,_,_,_=>Nat.zero_le _
 |m+1,i,j,b,h=>by
  unfold lcp
  split
  ·rename_i e
   cases b with
   |zero=>exact absurd e h
   |succ b =>
    have:=lcp_ne l m (i+1) (j+1) b (by rw[show i+1+b=i+(b+1)by omega,show j+1+b=j+(b+1)by omega];exact h)
    omega
  ·omega

inductive BH (l:List UInt8)(i:Nat)(w:Int)(m n5 n6 n7 n8 n11 n12:Nat)(h:SH):BS→SH→Prop
 |nil (best:Nat):BH l i w m n5 n6 n7 n8 n11 n12 h (best,[]) ((n12,⟨[I best],false⟩)::(n11,⟨[.slice none 0 0],false⟩)::(n8,⟨[I m],false⟩)::(n7,⟨[I w],false⟩)::(n6,⟨[I i],false⟩)::(n5,⟨[S l],false⟩)::h)
 |some (best:Nat) (cs:List (Int × Int)) (A:Nat):BH l i w m n5 n6 n7 n8 n11 n12 h (best,cs)
   ((n12,⟨[I best],false⟩)::(n11,⟨[cpS A cs],false⟩)::(n8,⟨[I m],false⟩)::(n7,⟨[I w],false⟩)::(n6,⟨[I i],false⟩)::(n5,⟨[S l],false⟩)::(A,cpB cs false)::h)

theorem BH.pick {l:List UInt8}{i:Nat}{w:Int}{m n5 n6 n7 n8 n11 n12:Nat}{h h1:SH}{s:BS}{p:SH}(b:BH l i w m n5 n6 n7 n8 n11 n12 h s p){A:Nat}{g:Blk}(hp:Pick h A g h1):∃p1,Pick p A g p1:=by
 cases b with
 |nil=>exact⟨_,hp.tail.tail.tail.tail.tail.tail⟩
 |some=>exact⟨_,hp.tail.tail.tail.tail.tail.tail.tail⟩

theorem bst_stop {l:List UInt8}{i:Nat}{w:Int}{m j:Nat}{s:BS}(h:¬bgo i w m j s):nbst l i w m j s=s:=if_neg h
theorem bst_same {l:List UInt8}{i:Nat}{w:Int}{m j:Nat}{s:BS}(h:lcp l j i m≤s.1):nbst l i w m j s=s:=by
 unfold nbst bup;split
 ·rw[if_neg (by omega)]
 ·rfl
theorem bst_new {l:List UInt8}{i:Nat}{w:Int}{m j best:Nat}{cs:List (Int × Int)}(hg:bgo i w m j (best,cs))(h:best<lcp l j i m):nbst l i w m j (best,cs)=(lcp l j i m,cs++[((lcp l j i m:Int),(i:Int)-(j:Int))]):=by
 unfold nbst bup;rw[if_pos hg,if_pos h]

theorem better1_any (l:List UInt8)(i:Nat)(w:Int)(m n5 n6 n7 n8 n11 n12 j:Nat)(h:SH)(s:BS)(p:SH)(hb:BH l i w m n5 n6 n7 n8 n11 n12 h s p)(h5:l.length≤4096)(hj:j<i)(him:i+m≤l.length)(hs:s.2.length≤4096)(hw:-4611686018427387904≤w) :
  SRun Tryz.prog 110 [I j,gptr n6 0 1,gptr n7 0 1,gptr n12 0 1,gptr n8 0 1,gptr n5 0 1,gptr n11 0 1] p
   fun r q=>r=B (decide (bgo i w m j s))∧BH l i w m n5 n6 n7 n8 n11 n12 h (nbst l i w m j s) q:=by
 cases hb with
 |nil best =>
  refine w_body7 Tryz.func110 rfl rfl ?_
  repeat'(first|apply zF|apply zB|apply zE|(apply yH;(focus kernel_rfl);(focus kernel_rfl))|(apply o_g zC;exact rfl;exact rfl)|(apply o_ar zC;exact rfl;exact rfl)|(apply zM zC;(iterate 3 exact rfl);(focus exact pk))|(apply zX zC;(iterate 4 exact rfl);(focus exact up))|(apply yT zC;exact rfl;exact rfl;(focus first|with_reducible exact pl90);exact rfl;(focus repeat(first|exact BuildR.nil|(apply BuildR.one;exact rfl;exact rfl;(first|(focus(repeat(first|exact SetAt.zero|apply SetAt.succ));done)))));exact rfl)|(apply zT zC;(iterate 5 exact rfl);(focus decide);exact rfl;(focus decide);(focus repeat(first|exact CatR.last rfl));exact rfl)|(apply o_append_nil zC;(iterate 5 exact rfl);(focus exact⟨by decide⟩);(focus exact pk))|(apply zD;exact rfl;exact rfl;(focus first|exact rfl);exact rfl;(focus exact⟨_,common_int _ _ _ _ _ (by omega) (by omega) (by omega) (by omega) (by omega) (by omega),by repeat with_reducible exact Take.nil⟩);rintro _ _ ⟨rfl,rfl⟩)|(apply zU;exact rfl;exact rfl)|(apply yF;iterate 4 exact rfl)|(apply o_guardF;(iterate 3 exact rfl);all_goals intro hc)|(apply yB;exact rfl)|(apply w_ifN;exact rfl;all_goals intro hc)|(apply w_if;exact rfl;all_goals intro hc)|apply zA|apply zP|apply zI|apply zN|((with_reducible apply Sd.mk);first|exact True.intro|omega|(constructor <;> first|omega|(unfold maxLen;omega)))|((with_reducible apply Ln.mk);first|rfl)|((with_reducible apply Wr.mk);first|exact IntWalk.i64_in _ (by omega))|((with_reducible apply Ce.mk);first|rfl)|((with_reducible apply Se.mk);first|(focus(repeat(first|exact SetAt.zero));done))|((with_reducible apply Su.mk);first|exact zQ)|exact True.intro|intro A|exact rfl)
  ·have hg:¬bgo i w m j (best,[]):=fun h=>h (.inr (by show m≤best;omega))
   (apply zL;(exact(show ResS _ _ _ _ [_] from⟨rfl,trivial⟩));(focus rw[decide_eq_false hg,bst_stop hg];exact⟨rfl,.nil _⟩);(focus repeat with_reducible first|exact Take.nil|apply Take.c|apply Take.drop))
  ·have hg:bgo i w m j (best,[]):=by unfold bgo;show ¬(_∨m≤best);omega
   (apply zL;(exact(show ResS _ _ _ _ [_] from⟨rfl,trivial⟩));(focus rw[decide_eq_true hg,bst_same (lcp_ne l m j i best (by push_cast;assumption))];exact⟨rfl,.nil _⟩);(focus repeat with_reducible first|exact Take.nil|apply Take.c|apply Take.drop))
  ·have hg:bgo i w m j (best,[]):=by unfold bgo;show ¬(_∨m≤best);omega
   have hlt:best<lcp l j i m:=by exact_mod_cast hc
   (apply zL;(exact(show ResS _ _ _ _ [_] from⟨rfl,trivial⟩));(focus rw[decide_eq_true hg,bst_new hg hlt];exact⟨rfl,.some _ [_] A⟩);(focus repeat(first|with_reducible exact Take.nil|with_reducible apply Take.c|((with_reducible apply Take.cE);first|exact rfl|(apply blkE;(focus first|exact rfl|exact yI rfl|exact yO rfl|exact congrArg (fun v=>[v]) (gslE rfl rfl (by first|rfl|exact ‹_›|omega|(simp ;first|done|omega)) (by first|rfl|exact ‹_›|omega|(simp ;first|done|omega)) rfl))))|with_reducible apply Take.drop)))
  ·have hg:bgo i w m j (best,[]):=by unfold bgo;show ¬(_∨m≤best);omega
   have hle:lcp l j i m≤best:=by
    have:¬best<lcp l j i m:=by exact_mod_cast hc
    omega
   (apply zL;(exact(show ResS _ _ _ _ [_] from⟨rfl,trivial⟩));(focus rw[decide_eq_true hg,bst_same hle];exact⟨rfl,.nil _⟩);(focus repeat with_reducible first|exact Take.nil|apply Take.c|apply Take.drop))
  ·have hg:¬bgo i w m j (best,[]):=fun h=>h (.inl (by assumption))
   (apply zL;(exact(show ResS _ _ _ _ [_] from⟨rfl,trivial⟩));(focus rw[decide_eq_false hg,bst_stop hg];exact⟨rfl,.nil _⟩);(focus repeat with_reducible first|exact Take.nil|apply Take.c|apply Take.drop))
 |some best cs Ac =>
  have hs':cs.length≤4096:=hs
  refine w_body7 Tryz.func110 rfl rfl ?_
  repeat'(first|apply zF|apply zB|apply zE|(apply yH;(focus kernel_rfl);(focus kernel_rfl))|(apply o_g zC;exact rfl;exact rfl)|(apply o_ar zC;exact rfl;exact rfl)|(apply zM zC;(iterate 3 exact rfl);(focus exact pk))|(apply zX zC;(iterate 4 exact rfl);(focus exact up))|(apply yT zC;exact rfl;exact rfl;(focus first|with_reducible exact pl90);exact rfl;(focus repeat(first|exact BuildR.nil|(apply BuildR.one;exact rfl;exact rfl;(first|(focus(repeat(first|exact SetAt.zero|apply SetAt.succ));done)))));exact rfl)|(apply zT zC;(iterate 5 exact rfl);(focus decide);exact rfl;(focus decide);(focus repeat(first|exact CatR.last rfl));exact rfl)|(apply o_append zC;(iterate 5 exact rfl);(focus exact⟨by decide⟩);(focus exact up);(focus exact pk))|(apply zD;exact rfl;exact rfl;(focus first|exact rfl);exact rfl;(focus exact⟨_,common_int _ _ _ _ _ (by omega) (by omega) (by omega) (by omega) (by omega) (by omega),by repeat with_reducible exact Take.nil⟩);rintro _ _ ⟨rfl,rfl⟩)|(apply zU;exact rfl;exact rfl)|(apply yF;iterate 4 exact rfl)|(apply o_guardF;(iterate 3 exact rfl);all_goals intro hc)|(apply yB;exact rfl)|(apply w_ifN;exact rfl;all_goals intro hc)|(apply w_if;exact rfl;all_goals intro hc)|apply zA|apply zP|apply zI|apply zN|((with_reducible apply Sd.mk);first|exact True.intro|omega|(constructor <;> first|omega|(unfold maxLen;omega)))|((with_reducible apply Ln.mk);first|rfl|omega|(simp ;first|done|omega))|((with_reducible apply Wr.mk);first|exact IntWalk.i64_in _ (by omega))|((with_reducible apply Ce.mk);first|rfl)|((with_reducible apply Se.mk);first|(focus(repeat(first|exact SetAt.zero));done))|((with_reducible apply Su.mk);first|exact zQ)|exact True.intro|intro A|exact rfl)
  ·have hg:¬bgo i w m j (best,cs):=fun h=>h (.inr (by show m≤best;omega))
   (apply zL;(exact(show ResS _ _ _ _ [_] from⟨rfl,trivial⟩));(focus rw[decide_eq_false hg,bst_stop hg];exact⟨rfl,.some _ _ Ac⟩);(focus repeat with_reducible first|exact Take.nil|apply Take.c|apply Take.drop))
  ·have hg:bgo i w m j (best,cs):=by unfold bgo;show ¬(_∨m≤best);omega
   (apply zL;(exact(show ResS _ _ _ _ [_] from⟨rfl,trivial⟩));(focus rw[decide_eq_true hg,bst_same (lcp_ne l m j i best (by push_cast;assumption))];exact⟨rfl,.some _ _ Ac⟩);(focus repeat with_reducible first|exact Take.nil|apply Take.c|apply Take.drop))
  ·have hg:bgo i w m j (best,cs):=by unfold bgo;show ¬(_∨m≤best);omega
   have hlt:best<lcp l j i m:=by exact_mod_cast hc
   (apply zL;(exact(show ResS _ _ _ _ [_] from⟨rfl,trivial⟩));(focus rw[decide_eq_true hg,bst_new hg hlt];exact⟨rfl,.some _ _ Ac⟩);(focus repeat(first|with_reducible exact Take.nil|with_reducible apply Take.c|((with_reducible apply Take.cE);first|exact rfl|(apply blkE;(focus first|exact rfl|exact yI rfl|exact yO rfl|exact congrArg (fun v=>[v]) (gslE rfl rfl (by first|rfl|exact ‹_›|omega|(simp ;first|done|omega)) (by first|rfl|exact ‹_›|omega|(simp ;first|done|omega)) rfl))))|with_reducible apply Take.drop)))
  ·have hg:bgo i w m j (best,cs):=by unfold bgo;show ¬(_∨m≤best);omega
   have hle:lcp l j i m≤best:=by
    have:¬best<lcp l j i m:=by exact_mod_cast hc
    omega
   (apply zL;(exact(show ResS _ _ _ _ [_] from⟨rfl,trivial⟩));(focus rw[decide_eq_true hg,bst_same hle];exact⟨rfl,.some _ _ Ac⟩);(focus repeat with_reducible first|exact Take.nil|apply Take.c|apply Take.drop))
  ·have hg:¬bgo i w m j (best,cs):=fun h=>h (.inl (by assumption))
   (apply zL;(exact(show ResS _ _ _ _ [_] from⟨rfl,trivial⟩));(focus rw[decide_eq_false hg,bst_stop hg];exact⟨rfl,.some _ _ Ac⟩);(focus repeat with_reducible first|exact Take.nil|apply Take.c|apply Take.drop))

theorem brun_len {l:List UInt8}{i:Nat}{w:Int}{m:Nat}:∀{js:List Nat} {s:BS},(brun l i w m js s).2.length≤s.2.length+js.length
 |[],s=>by simp[brun]
 |j::r,s=>by
  unfold brun
  split
  ·have h1:=brun_len (l:=l) (i:=i) (w:=w) (m:=m) (js:=r) (s:=bup l i m j s)
   have h2:(bup l i m j s).2.length≤s.2.length+1:=by unfold bup;split <;> simp
   simp only[List.length_cons];omega
  ·simp

def down :Nat→List Nat
 |0=>[]
 |n+1=>n::down n
theorem down_len :∀n,(down n).length=n
 |0=>rfl
 |n+1=>by simp[down,down_len n]

theorem Candidates1_any (l:List UInt8)(i:Nat)(w:Int)(m n5 n6 n7 n8 n11 n12 n:Nat)(h:SH)(s:BS)(p:SH)(hb:BH l i w m n5 n6 n7 n8 n11 n12 ((n,⟨[I i],false⟩)::h) s p)(h5:l.length≤4096)(hi:i≤4096)(him:i+m≤l.length)(hs:s.2.length=0)(hw:-4611686018427387904≤w) :
  SRun Tryz.prog 109 [.func (.func 110) ⟨[]⟩ ⟨[gptr n6 0 1,gptr n7 0 1,gptr n12 0 1,gptr n8 0 1,gptr n5 0 1,gptr n11 0 1]⟩,gptr n 0 1] p
   fun r q=>BH l i w m n5 n6 n7 n8 n11 n12 ((n,⟨[I i],false⟩)::h) (brun l i w m (down i) s) q:=by
 refine zY Tryz.func109 rfl rfl ?_
 obtain⟨p1,hp1⟩:=hb.pick Pick.head
 repeat'(first|apply zF|apply zB|apply zE|(apply o_g zC;exact rfl;exact rfl)|(apply o_ar zC;exact rfl;exact rfl)|(apply zM zC;(iterate 3 exact rfl);(focus exact pk))|apply zA|apply zH|((with_reducible apply Sd.mk);first|exact True.intro)|((with_reducible apply Ln.mk);first|rfl)|((with_reducible apply Wr.mk);first|exact IntWalk.i64_in _ (by omega))|((with_reducible apply Ce.mk);first|rfl)|exact True.intro|exact rfl)
 refine zZ (S:=Nat × BS × SH) (fun x=>[(0,.func (.func 110) ⟨[]⟩ ⟨[gptr n6 0 1,gptr n7 0 1,gptr n12 0 1,gptr n8 0 1,gptr n5 0 1,gptr n11 0 1]⟩),(1,gptr n 0 1),(3,I (x.1-1))]) (fun x=>x.2.2)
  (fun x=>x.1≤i∧BH l i w m n5 n6 n7 n8 n11 n12 ((n,⟨[I i],false⟩)::h) x.2.1 x.2.2∧brun l i w m (down i) s=brun l i w m (down x.1) x.2.1∧x.2.1.2.length+x.1≤4096) (fun x=>x.1) (i,s,p) ⟨Nat.le_refl _,hb,rfl,by show s.2.length+i≤_;omega⟩ (by repeat'(first|exact trivial|refine⟨rfl,?_⟩|refine⟨congrArg some ?_,?_⟩)) (by repeat with_reducible first|exact Take.nil|apply Take.c|apply Take.drop) ?_
 rintro⟨k,s1,p2⟩ ⟨hk,hb1,he,hl⟩
 simp only at hk hb1 he hl
 cases k with
 |zero =>
  repeat'(first|apply zF|apply zB|apply zE|(apply o_g zC;exact rfl;exact rfl)|(apply yF;iterate 4 exact rfl)|(apply zS;exact rfl)|apply zA|apply zK|apply zJ|apply zV|((with_reducible apply Sd.mk);first|exact True.intro))
  (apply s_finN;(exact(show ResS _ _ _ _ [] from trivial));(focus rw[he];exact hb1);(focus repeat with_reducible first|exact Take.nil|apply Take.c|apply Take.drop))
 |succ q =>
  have e1:((q+1:Nat):Int)-1=q:=by omega
  show SWp _ _ _ _ [_,_,(3,I (((q+1:Nat):Int)-1))] p2
  rw[e1]
  repeat'(first|apply zF|apply zB|apply zE|(apply o_g zC;exact rfl;exact rfl)|(apply o_ar zC;exact rfl;exact rfl)|(apply zD;exact rfl;exact rfl;(focus first|exact rfl);exact rfl;(focus exact⟨_,better1_any l i w m n5 n6 n7 n8 n11 n12 q _ s1 p2 hb1 h5 (by omega) him (by omega) hw,by repeat with_reducible exact Take.nil⟩);rintro _ _ ⟨rfl,hb2⟩)|(apply zU;exact rfl;exact rfl)|(apply w_ifN;exact rfl;all_goals intro hc)|apply zA|apply zK|apply zG|apply zJ|apply zI|apply zV|apply zH|((with_reducible apply Sd.mk);first|exact True.intro)|((with_reducible apply Wr.mk);first|exact IntWalk.i64_in _ (by omega)))
  ·have hg:bgo i w m q s1:=hc
   refine⟨(q,bup l i m q s1,_),⟨by show q≤i;omega,by rw[←show nbst l i w m q s1=bup l i m q s1 from if_pos hg];exact hb2,?_,?_⟩,by show q<q+1;omega,(by repeat'(first|exact trivial|refine⟨rfl,?_⟩|refine⟨congrArg some ?_,?_⟩)),(by repeat with_reducible first|exact Take.nil|apply Take.c|apply Take.drop)⟩
   ·rw[he];exact if_pos hg
   ·have h2:(bup l i m q s1).2.length≤s1.2.length+1:=by unfold bup;split <;> simp
    show(bup l i m q s1).2.length+q≤4096;omega
  ·have hg:¬bgo i w m q s1:=fun h=>h hc
   (apply s_finN;(exact(show ResS _ _ _ _ [] from trivial));(focus rw[he,show brun l i w m (down (q+1)) s1=s1 from if_neg hg,←bst_stop hg];exact hb2);(focus repeat with_reducible first|exact Take.nil|apply Take.c|apply Take.drop))

def bfind (l:List UInt8)(i:Nat)(w m:Int)(js:List Nat):List (Int × Int):=(brun l i w (min m ((l.length:Int)-i)).toNat js (1,[])).2

def IsCs (h:SH)(cs:List (Int × Int))(r:Value)(q:SH):Prop:=(cs=[]∧r=.slice none 0 0∧q=h)∨∃A,r=cpS A cs∧q=(A,cpB cs false)::h

theorem better_any (l:List UInt8)(i:Nat)(w m:Int)(js:List Nat)(f:FuncId)(fc:Array Value)(h:SH)(h5:l.length≤4096)(hi:i≤l.length)(hm:0≤m)(hm2:m≤4611686018427387904)(he:enters Tryz.prog f=true)
  (hit:∀n5 n6 n7 n8 n11 n12 p,BH l i w (min m ((l.length:Int)-i)).toNat n5 n6 n7 n8 n11 n12 h (1,[]) p →
   SRun Tryz.prog f ((#[]:Array Value).toList++[.func (.func 110) ⟨[]⟩ ⟨[gptr n6 0 1,gptr n7 0 1,gptr n12 0 1,gptr n8 0 1,gptr n5 0 1,gptr n11 0 1]⟩]++fc.toList) p
    fun r q=>BH l i w (min m ((l.length:Int)-i)).toNat n5 n6 n7 n8 n11 n12 h (brun l i w (min m ((l.length:Int)-i)).toNat js (1,[])) q) :
  SRun Tryz.prog 69 [S l,I i,I w,I m,.func (.func f) #[] fc] h (IsCs h (bfind l i w m js)):=by
 refine w_body5 Tryz.func69 rfl rfl ?_
 obtain⟨mm,hmm⟩:∃mm:Nat,min m ((l.length:Int)-i)=mm:=⟨(min m ((l.length:Int)-i)).toNat,by omega⟩
 repeat'(first|apply zF|apply zB|apply zE|(apply o_g zC;exact rfl;exact rfl)|(apply o_ar zC;exact rfl;exact rfl)|(apply o_min;iterate 3 exact rfl)|(apply zM zC;(iterate 3 exact rfl);(focus exact pk))|(apply zX zC;(iterate 4 exact rfl);(focus exact up))|(apply yG zC;iterate 5 exact rfl)|(apply o_box (tt:=tyT);iterate 5 exact rfl)|(apply o_makeFunc;iterate 3 exact rfl)|apply zA|((with_reducible apply Sd.mk);first|exact True.intro)|((with_reducible apply Ln.mk);first|rfl)|((with_reducible apply Wr.mk);first|exact IntWalk.i64_in _ (by omega))|((with_reducible apply Ce.mk);first|rfl)|((with_reducible apply Se.mk);first|(focus(repeat(first|exact SetAt.zero));done))|exact True.intro|intro A|exact rfl)
 rw[hmm]at hit ⊢
 simp only[Int.toNat_natCast]at hit
 have hbf:bfind l i w m js=(brun l i w mm js (1,[])).2:=by unfold bfind;rw[hmm];rfl
 rw[hbf]
 (apply zD;exact rfl;exact rfl;exact he;exact rfl;exact⟨_,hit _ _ _ _ _ _ _ (.nil 1),Take.nil⟩)
 intro r q hb2
 generalize hs:brun l i w mm js (1,[])=s at hb2 ⊢
 cases hb2 with
 |nil best =>
  repeat'(first|apply zF|apply zB|apply zE|(apply o_g zC;exact rfl;exact rfl)|(apply zM zC;(iterate 3 exact rfl);(focus exact pk))|apply zA|apply zN|((with_reducible apply Sd.mk);first|exact True.intro)|((with_reducible apply Ln.mk);first|rfl)|((with_reducible apply Ce.mk);first|rfl)|exact True.intro|exact rfl)
  (apply zL;(exact(show ResS _ _ _ _ [_] from⟨rfl,trivial⟩));(focus exact .inl ⟨rfl,rfl,rfl⟩);(focus repeat with_reducible first|exact Take.nil|apply Take.c|apply Take.drop))
 |some best cs A =>
  repeat'(first|apply zF|apply zB|apply zE|(apply o_g zC;exact rfl;exact rfl)|(apply zM zC;(iterate 3 exact rfl);(focus exact pk))|apply zA|apply zN|((with_reducible apply Sd.mk);first|exact True.intro)|((with_reducible apply Ln.mk);first|rfl)|((with_reducible apply Ce.mk);first|rfl)|exact True.intro|exact rfl)
  (apply zL;(exact(show ResS _ _ _ _ [_] from⟨rfl,trivial⟩));(focus exact .inr ⟨A,rfl,rfl⟩);(focus repeat with_reducible first|exact Take.nil|apply Take.c|apply Take.drop))

def cands (l:List UInt8)(i w m:Int):List (Int × Int):=if vld w m∧0≤i∧i≤l.length∧l.length≤4096 then bfind l i.toNat w m (down i.toNat)else []

theorem Candidates_any (l:List UInt8)(i w m:Int)(h:SH)(h5:l.length≤4611686018427387904) :
  SRun Tryz.prog 67 [S l,I i,I w,I m] h (IsCs h (cands l i w m)):=by
 by_cases hc0:vld w m∧0≤i∧i≤l.length∧l.length≤4096
 ·have hv:=hc0.1
  obtain⟨n,rfl⟩:=Int.eq_ofNat_of_zero_le hc0.2.1
  have hc1:=hc0.2.2
  have hcs:cands l n w m=bfind l n w m (down n):=if_pos hc0
  rw[hcs]
  refine w_body4 Tryz.func67 rfl rfl ?_
  clear hc0
  repeat'(first|apply zF|apply zB|apply zE|(apply o_g zC;exact rfl;exact rfl)|(apply o_not;exact rfl;exact rfl)|(apply zM zC;(iterate 3 exact rfl);(focus exact pk))|(apply o_box (tt:=tyT);iterate 5 exact rfl)|(apply o_makeFunc;iterate 3 exact rfl)|(apply zD;exact rfl;exact rfl;(focus first|exact rfl);exact rfl;(focus exact⟨_,valid_any _ _ _,by repeat with_reducible exact Take.nil⟩);rintro _ _ ⟨rfl,rfl⟩)|(apply zD;exact rfl;exact rfl;(focus first|exact rfl);exact rfl;(focus exact⟨_,better_any l n w m (down n) _ _ _ (by omega) (by omega) (by omega) (by omega) rfl (fun n5 n6 n7 n8 n11 n12 p hb=>Candidates1_any l n w _ n5 n6 n7 n8 n11 n12 _ _ (1,[]) p hb (by omega) (by omega) (by omega) rfl (by omega)),by repeat with_reducible exact Take.nil⟩);rintro _ _ hq)|(apply zU;exact rfl;exact rfl)|(apply o_gF;(iterate 3 exact rfl);(focus first|omega))|(apply yD;exact rfl;(focus first|omega))|apply zA|apply zI|apply zN|((with_reducible apply Sd.mk);first|exact True.intro)|((with_reducible apply Ln.mk);first|rfl)|((with_reducible apply Ce.mk);first|rfl)|exact True.intro|intro A|exact rfl)
  rcases hq with⟨e,rfl,rfl⟩|⟨A',rfl,rfl⟩
  ·(apply zL;(exact(show ResS _ _ _ _ [_] from⟨rfl,trivial⟩));(focus exact .inl ⟨e,rfl,rfl⟩);(focus repeat with_reducible first|exact Take.nil|apply Take.c|apply Take.drop))
  ·(apply zL;(exact(show ResS _ _ _ _ [_] from⟨rfl,trivial⟩));(focus exact .inr ⟨A',rfl,rfl⟩);(focus repeat with_reducible first|exact Take.nil|apply Take.c|apply Take.drop))
 ·have hcs:cands l i w m=[]:=if_neg hc0
  rw[hcs]
  refine w_body4 Tryz.func67 rfl rfl ?_
  repeat'(first|apply zF|apply zB|apply zE|(apply o_g zC;exact rfl;exact rfl)|(apply o_not;exact rfl;exact rfl)|(apply zM zC;(iterate 3 exact rfl);(focus exact pk))|(apply o_box (tt:=tyT);iterate 5 exact rfl)|(apply zD;exact rfl;exact rfl;(focus first|exact rfl);exact rfl;(focus exact⟨_,valid_any _ _ _,by repeat with_reducible exact Take.nil⟩);rintro _ _ ⟨rfl,rfl⟩)|(apply zU;exact rfl;exact rfl)|(apply yF;iterate 4 exact rfl)|(apply o_guardFN;(iterate 3 exact rfl);all_goals intro hc)|(apply o_guardF;(iterate 3 exact rfl);all_goals intro hc)|(apply yB;exact rfl)|(apply yC;exact rfl;(focus first|omega))|apply zA|apply zP|apply zN|((with_reducible apply Sd.mk);first|exact True.intro)|((with_reducible apply Ln.mk);first|rfl)|((with_reducible apply Ce.mk);first|rfl)|exact True.intro|intro A|exact rfl)
  all_goals first|(apply zL;(exact(show ResS _ _ _ _ [_] from⟨rfl,trivial⟩));(focus exact .inl ⟨rfl,rfl,rfl⟩);(focus repeat with_reducible first|exact Take.nil|apply Take.c|apply Take.drop))|exact absurd ⟨by assumption,by omega,by omega,by omega⟩ hc0

theorem cands_le (l:List UInt8)(i w m:Int):(cands l i w m).length≤4096:=by
 unfold cands
 split
 ·unfold bfind
  have h1:=brun_len (l:=l) (i:=i.toNat) (w:=w) (m:=(min m ((l.length:Int)-i.toNat)).toNat) (js:=down i.toNat) (s:=(1,[]))
  rw[down_len]at h1
  simp only[List.length_nil,Nat.zero_add]at h1
  omega
 ·simp


theorem lcp_min (l:List UInt8):∀(a b i j:Nat),lcp l i j (min a b)=min (lcp l i j a) b
 |0,b,i,j=>by simp[lcp]
 |a+1,0,i,j=>by simp[lcp]
 |a+1,b+1,i,j=>by
  rw[show min (a+1) (b+1)=min a b+1 by omega]
  unfold lcp
  split
  ·rw[lcp_min l a b (i+1) (j+1)];omega
  ·simp

theorem atd_eq (l:List UInt8)(i d:Nat)(m:Int)(hd:1≤d)(hdi:d≤i)(hi:i≤l.length)(hm:0≤m) :
  atd l i d m=if lcp l (i-d) i (min m ((l.length:Int)-i)).toNat<2 then 0 else(lcp l (i-d) i (min m ((l.length:Int)-i)).toNat:Int):=by
 have e:min (com l ((i:Int)-d) i:Int) m=(lcp l (i-d) i (min m ((l.length:Int)-i)).toNat:Int):=by
  unfold com
  rw[if_pos (by omega),show((i:Int)-d).toNat=i-d by omega,show((i:Int)).toNat=i by omega,show((l.length:Int)-max ((i:Int)-d) i).toNat=l.length-i by omega]
  have:=lcp_min l (l.length-i) m.toNat (i-d) i
  rw[show(min m ((l.length:Int)-i)).toNat=min (l.length-i) m.toNat by omega,this]
  omega
 unfold atd
 rw[if_neg (by omega),e]
 split
 ·rw[if_pos (by omega)]
 ·rw[if_neg (by omega)]

theorem rc_pos (l:List UInt8)(i m:Int)(hm:0≤m):∀d,0≤(rc l i m d).2
 |0=>Int.le_refl _
 |d+1=>by
  have:=rc_pos l i m hm d
  unfold rc;split
  ·show 0≤atd l i (d+1) m;omega
  ·exact this
theorem atd_range (l:List UInt8)(i d m:Int):atd l i d m=0∨2≤atd l i d m:=by unfold atd;repeat' split <;> omega

theorem rc_succ (l:List UInt8)(i m:Int)(d:Nat):rc l i m (d+1)=if(rc l i m d).2<atd l i (d+1) m then((rc l i m d).1++[(atd l i (d+1) m,(d:Int)+1)],atd l i (d+1) m)else rc l i m d:=rfl
theorem rc_stable (l:List UInt8)(i:Nat)(m:Int)(hi:i≤l.length)(hm:0≤m)(d:Nat)(h:min m ((l.length:Int)-i)≤max 1 (rc l i m d).2):∀k,d+k≤i→rc l i m (d+k)=rc l i m d
 |0,_=>rfl
 |k+1,hk=>by
  have ih:=rc_stable l i m hi hm d h k (by omega)
  rw[show d+(k+1)=d+k+1 by omega]
  have hp:=rc_pos l i m hm d
  have ha:=atd_eq l i (d+k+1) m (by omega) (by omega) hi hm
  have hle:=lcp_le l (min m ((l.length:Int)-i)).toNat (i-(d+k+1)) i
  have e:((d+k:Nat):Int)+1=((d+k+1:Nat):Int):=by omega
  rw[rc_succ,ih,e,ha,if_neg]
  split <;> omega

theorem brun_rc (l:List UInt8)(i:Nat)(w m:Int)(hi:i≤l.length)(hm:2≤m)(hw:1≤w):∀(k:Nat) (s:BS),k≤i→((i-k:Nat):Int)≤w→s.2=(rc l i m (i-k)).1→(s.1:Int)=max 1 (rc l i m (i-k)).2 →
  (brun l i w (min m ((l.length:Int)-i)).toNat (down k) s).2=(rc l i m (min w i).toNat).1
 |0,s,hk,hkw,h1,h2=>by
  show s.2=_
  rw[h1,show(min w (i:Int)).toNat=i-0 by omega]
 |k+1,s,hk,hkw,h1,h2=>by
  have ha:=atd_eq l i (i-k) m (by omega) (by omega) hi (by omega)
  rw[show i-(i-k)=k by omega]at ha
  have hstep:rc l i m (i-k)=if(rc l i m (i-(k+1))).2<atd l i (i-k:Nat) m then((rc l i m (i-(k+1))).1++[(atd l i (i-k:Nat) m,((i-k:Nat):Int))],atd l i (i-k:Nat) m)else rc l i m (i-(k+1)):=by
   have e:i-k=i-(k+1)+1:=by omega
   have e2:((i-(k+1):Nat):Int)+1=((i-k:Nat):Int):=by omega
   rw[e,rc_succ,e2,e]
  have hp:=rc_pos l i m (by omega) (i-(k+1))
  by_cases hg:bgo i w (min m ((l.length:Int)-i)).toNat k s
  ·show(if bgo i w (min m ((l.length:Int)-i)).toNat k s then brun l i w (min m ((l.length:Int)-i)).toNat (down k) (bup l i (min m ((l.length:Int)-i)).toNat k s)else s).2=_
   rw[if_pos hg]
   have hg':¬(w<(i:Int)-k∨(min m ((l.length:Int)-i)).toNat≤s.1):=hg
   refine brun_rc l i w m hi hm hw k _ (by omega) (by omega) ?_ ?_
   ·unfold bup
    rw[hstep]
    split
    ·rw[if_pos (by rw[ha,if_neg (by omega)];omega),h1,ha,if_neg (by omega)]
     show _++[(_,(i:Int)-(k:Int))]=_++[(_,((i-k:Nat):Int))]
     rw[show((i-k:Nat):Int)=(i:Int)-k by omega]
    ·rw[if_neg (by rw[ha];split <;> omega)];exact h1
   ·unfold bup
    rw[hstep]
    split
    ·rw[if_pos (by rw[ha,if_neg (by omega)];omega),ha,if_neg (by omega)]
     show((lcp l k i _:Nat):Int)=max 1 ((lcp l k i _:Nat):Int)
     omega
    ·rw[if_neg (by rw[ha];split <;> omega)];exact h2
  ·show(if bgo i w (min m ((l.length:Int)-i)).toNat k s then brun l i w (min m ((l.length:Int)-i)).toNat (down k) (bup l i (min m ((l.length:Int)-i)).toNat k s)else s).2=_
   rw[if_neg hg]
   have hg':w<(i:Int)-k∨(min m ((l.length:Int)-i)).toNat≤s.1:=Classical.not_not.1 hg
   rw[h1]
   by_cases hw2:w<(i:Int)-k
   ·rw[show(min w (i:Int)).toNat=i-(k+1)by omega]
   ·have:=rc_stable l i m hi (by omega) (i-(k+1)) (by omega) ((min w (i:Int)).toNat-(i-(k+1))) (by omega)
    rw[show i-(k+1)+((min w (i:Int)).toNat-(i-(k+1)))=(min w (i:Int)).toNat by omega]at this
    rw[this]

theorem cands_eq (l:List UInt8)(i w m:Int):cands l i w m=rcands l i w m:=by
 unfold cands rcands
 split
 ·rename_i h
  obtain⟨⟨h1,h2,h3,h4⟩,h5,h6,h7⟩:=h
  obtain⟨i,rfl⟩:=Int.eq_ofNat_of_zero_le h5
  have:=brun_rc l i w m (by omega) h3 h1 i (1,[]) (Nat.le_refl _) (by omega) (by simp[rc]) (by simp only[Nat.sub_self,rc];rfl)
  exact this
 ·rfl


theorem rc_in (l:List UInt8)(i m:Int):∀d,0≤(rc l i m d).2∧∀c∈(rc l i m d).1,∃e:Nat,1≤e∧e≤d∧c=(atd l i e m,(e:Int))∧0<c.1
 |0=>⟨Int.le_refl _,fun c h=>nomatch h⟩
 |d+1=>by
  obtain⟨h1,h2⟩:=rc_in l i m d
  unfold rc
  split
  ·rename_i hlt
   refine⟨by show 0≤atd l i (d+1) m;omega,fun c hc=>?_⟩
   rcases List.mem_append.1 hc with hc|hc
   ·obtain⟨e,g1,g2,g3⟩:=h2 c hc
    exact⟨e,g1,by omega,g3⟩
   ·obtain rfl:=List.mem_singleton.1 hc
    exact⟨d+1,by omega,Nat.le_refl _,by push_cast;rfl,by show 0<atd l i (d+1) m;omega⟩
  ·exact⟨h1,fun c hc=>let ⟨e,g1,g2,g3⟩:=h2 c hc;⟨e,g1,by omega,g3⟩⟩
theorem cands_in {l:List UInt8}{i:Nat}{w:Int}{c:Int × Int}(h:c∈cands l i w 273):2≤c.1∧c.1≤273∧1≤c.2∧c.2≤4096∧(i:Int)+c.1≤l.length:=by
 rw[cands_eq]at h
 unfold rcands at h
 split at h
 ·rename_i hv
  obtain⟨e,h1,h2,rfl,h3⟩:=(rc_in l i 273 _).2 c h
  have hcm:(com l ((i:Int)-e) i:Int)≤(l.length:Int)-i:=by
   have:=lcp_le l (l.length-max ((i:Int)-e) i).toNat ((i:Int)-e).toNat (i:Int).toNat
   unfold com
   split <;> omega
  dsimp only at h3 ⊢
  unfold atd at h3 ⊢
  by_cases g1:(e:Int)<1∨(i:Int)<e
  ·rw[if_pos g1]at h3;omega
  ·rw[if_neg g1]at h3 ⊢
   by_cases g2:min (com l ((i:Int)-e) i:Int) 273<2
   ·rw[if_pos g2]at h3;omega
   ·rw[if_neg g2];omega
 ·cases h
def trN (d:Int)(lo:Nat):Nat→List Pc
 |0=>[]
 |n+1=>if lo<n+1 then(((n+1:Nat):Int),d,0)::trN d lo n else []
def shr (cs:List (Int × Int))(k:Nat):Nat:=if 0<k then cs[k-1]!.1.toNat else 1
def trK (cs:List (Int × Int)):Nat→List Pc
 |0=>[]
 |k+1=>trN cs[k]!.2 (shr cs k) cs[k]!.1.toNat++trK cs k
def litP (l:List UInt8)(i:Nat):Pc:=(1,0,bat l i)
def triesL (l:List UInt8)(i:Nat)(w:Int):List Pc:=trK (cands l i w 273) (cands l i w 273).length++[litP l i]
def runT (c:Cst)(i:Nat)(ts:List Pc)(s:Bool × List St):Bool × List St:=ts.foldl (tryS c i) s
def rowT (c:Cst)(l:List UInt8)(w:Int)(i:Nat)(T:List St):List St:=(runT c i (triesL l i w) (false,T)).2
def st0 :St:=(0,0,0,0,0)
def parT (c:Cst)(l:List UInt8)(w:Int):Nat→List St
 |0=>List.replicate (l.length+1) st0
 |j+1=>rowT c l w (l.length-(j+1)) (parT c l w j)
def walkT (T:List St)(n:Nat):Nat→Nat→List Pc
 |0,_=>[]
 |f+1,i=>if i<n then T[i]!.2.2::walkT T n f (i+T[i]!.2.2.1.toNat)else []
def parse (c:Cst)(l:List UInt8)(w:Int):List Pc × Int :=
 if vC c∧1≤w∧w≤4096 then(if 4096<l.length then([],9)else(walkT (parT c l w l.length) l.length l.length 0,0))else([],1)
theorem trN_in {d:Int}{lo:Nat}:∀{n:Nat} {t:Pc},t∈trN d lo n→(lo:Int)<t.1∧t.1≤n∧t.2.1=d∧t.2.2=0
 |0,_,h=>nomatch h
 |n+1,t,h=>by
  unfold trN at h
  split at h
  ·rcases List.mem_cons.1 h with rfl|h
   ·exact⟨by show(lo:Int)<((n+1:Nat):Int);omega,Int.le_refl _,rfl,rfl⟩
   ·have:=trN_in h;exact⟨this.1,by omega,this.2.2⟩
  ·cases h
abbrev fits (l:List UInt8)(i:Nat)(t:Pc):Prop:=vP t∧(i:Int)+t.1≤l.length∧1≤t.1
theorem shr_pos {l:List UInt8}{i:Nat}{w:Int}{k:Nat}(h:k<(cands l i w 273).length):1≤shr (cands l i w 273) k:=by
 unfold shr
 split
 ·have:=cands_in (bang_mem (show k-1<(cands l i w 273).length by omega));omega
 ·omega
theorem trN_fits {l:List UInt8}{i:Nat}{w:Int}{k:Nat}(h:k<(cands l i w 273).length){t:Pc}(ht:t∈trN (cands l i w 273)[k]!.2 (shr (cands l i w 273) k) (cands l i w 273)[k]!.1.toNat):fits l i t:=by
 have h1:=cands_in (bang_mem h)
 have h2:=shr_pos h
 have h3:=trN_in ht
 exact⟨.inr ⟨by omega,by omega,by omega,by omega,h3.2.2.2⟩,by omega,by omega⟩
theorem trK_fits {l:List UInt8}{i:Nat}{w:Int}:∀{k:Nat},k≤(cands l i w 273).length→∀t∈trK (cands l i w 273) k,fits l i t
 |0,_,_,h=>nomatch h
 |k+1,hk,t,h=>by
  rcases List.mem_append.1 h with h|h
  ·exact trN_fits (by omega) h
  ·exact trK_fits (by omega) t h
theorem lit_fits {l:List UInt8}{i:Nat}(h:i<l.length):fits l i (litP l i):=⟨.inl ⟨rfl,rfl⟩,by show(i:Int)+1≤_;omega,Int.le_refl _⟩
def TOk (n:Nat)(T:List St):Prop:=T.length=n+1∧∀j,j≤n→0≤T[j]!.1∧T[j]!.1≤27000*((n:Int)-j)∧0≤T[j]!.2.1∧T[j]!.2.1≤(n:Int)-j
theorem lzset_bang {α:Type}[Inhabited α]{l:List α}{i j:Nat}{x:α}(h:i<l.length):(l.set i x)[j]! = if j=i then x else l[j]!:=by
 simp only[getElem!_def,List.getElem?_set]
 by_cases e:i=j
 ·subst e;rw[if_pos rfl,if_pos h,if_pos rfl]
 ·rw[if_neg e,if_neg (Ne.symm e)]
theorem tryS_ok {c:Cst}{l:List UInt8}{i:Nat}{s:Bool × List St}{t:Pc}(hc:vC c)(h:TOk l.length s.2)(ht:fits l i t):TOk l.length (tryS c i s t).2:=by
 unfold tryS
 split
 ·refine⟨by rw[List.length_set];exact h.1,fun j hj=>?_⟩
  rw[lzset_bang (by have:=h.1;omega)]
  split
  ·rename_i e;subst e
   have h1:=h.2 (j+t.1.toNat) (by omega)
   have h2:=price_in hc ht.1
   unfold nxt;dsimp only
   omega
  ·exact h.2 j hj
 ·exact h
theorem runT_ok {c:Cst}{l:List UInt8}{i:Nat}(hc:vC c):∀{ts:List Pc} {s:Bool × List St},TOk l.length s.2→(∀t∈ts,fits l i t)→TOk l.length (runT c i ts s).2
 |[],_,h,_=>h
 |t::ts,s,h,ht=>runT_ok hc (ts:=ts) (tryS_ok hc h (ht t (by simp))) (fun x hx=>ht x (by simp[hx]))
theorem runT_app (c:Cst)(i:Nat)(a b:List Pc)(s:Bool × List St):runT c i (a++b) s=runT c i b (runT c i a s):=List.foldl_append ..

theorem tryS_at {c:Cst}{l:List UInt8}{i:Nat}{s:Bool × List St}{t:Pc}(hl:s.2.length=l.length+1)(hi:i<l.length)(ht:fits l i t)(h:s.1=true→fits l i s.2[i]!.2.2):(tryS c i s t).1=true∧fits l i (tryS c i s t).2[i]!.2.2:=by
 unfold tryS
 split
 ·refine⟨rfl,?_⟩
  dsimp only
  rw[lzset_bang (by omega),if_pos rfl];exact ht
 ·rename_i hn
  have:s.1=true:=by cases hs:s.1 <;> simp_all
  exact⟨this,h this⟩
theorem runT_at {c:Cst}{l:List UInt8}{i:Nat}(hi:i<l.length):∀{ts:List Pc} {s:Bool × List St},s.2.length=l.length+1→(∀t∈ts,fits l i t)→(s.1=true→fits l i s.2[i]!.2.2)→(s.1=true∨ts≠[])→fits l i (runT c i ts s).2[i]!.2.2
 |[],s,_,_,h,h2=>by rcases h2 with h2|h2;exact h h2;exact absurd rfl h2
 |t::ts,s,hl,ht,h,_=>by
  have h1:=tryS_at (c:=c) hl hi (ht t (by simp)) h
  exact runT_at hi (ts:=ts) (s:=tryS c i s t) (by rw[tryS_len];exact hl) (fun x hx=>ht x (by simp[hx])) (fun _=>h1.2) (.inl h1.1)
theorem tryS_else {c:Cst}{i j:Nat}{s:Bool × List St}{t:Pc}(h:j≠i)(hi:i<s.2.length):(tryS c i s t).2[j]! = s.2[j]!:=by
 unfold tryS;split
 ·rw[lzset_bang hi,if_neg h]
 ·rfl
theorem runT_else {c:Cst}{i j:Nat}(h:j≠i):∀{ts:List Pc} {s:Bool × List St},i<s.2.length→(runT c i ts s).2[j]! = s.2[j]!
 |[],_,_=>rfl
 |t::ts,s,hi=>by
  rw[←tryS_else (c:=c) (t:=t) h hi]
  exact runT_else h (ts:=ts) (s:=tryS c i s t) (by rw[tryS_len];exact hi)
theorem triesL_fits {l:List UInt8}{i:Nat}{w:Int}(hi:i<l.length):∀t∈triesL l i w,fits l i t:=fun t ht=>by
 rcases List.mem_append.1 ht with ht|ht
 ·exact trK_fits (Nat.le_refl _) t ht
 ·obtain rfl:=List.mem_singleton.1 ht;exact lit_fits hi
theorem parT_ok {c:Cst}{l:List UInt8}{w:Int}(hc:vC c):∀{j:Nat},j≤l.length→TOk l.length (parT c l w j)∧∀i,l.length-j≤i→i<l.length→fits l i (parT c l w j)[i]!.2.2
 |0,_=>⟨⟨by simp[parT],fun j hj=>by
   rw[show(parT c l w 0)[j]! = st0 by unfold parT;rw[getElem!_pos _ j (by simp;omega),List.getElem_replicate]]
   show 0≤(0:Int)∧(0:Int)≤_∧0≤(0:Int)∧(0:Int)≤_;omega⟩,fun i h1 h2=>by omega⟩
 |j+1,hj=>by
  obtain⟨h1,h2⟩:=parT_ok hc (w:=w) (show j≤l.length by omega)
  have hi:l.length-(j+1)<l.length:=by omega
  refine⟨runT_ok hc (s:=(false,_)) h1 (triesL_fits hi),fun i g1 g2=>?_⟩
  by_cases e:i=l.length-(j+1)
  ·subst e
   exact runT_at hi (s:=(false,_)) h1.1 (triesL_fits hi) (fun h=>absurd h Bool.false_ne_true) (.inr (by unfold triesL;simp))
  ·show fits l i (runT c (l.length-(j+1)) _ (false,parT c l w j)).2[i]!.2.2
   rw[runT_else e (by show _<(parT c l w j).length;have:=h1.1;omega)]
   exact h2 i (by omega) g2
theorem validWindow_any (w:Int)(h:SH):SRun Tryz.prog 36 [I w] h fun r q=>r=B (decide (1≤w∧w≤4096))∧q=h:=by
 refine zR Tryz.func36 rfl rfl ?_
 repeat'(first|apply zF|apply zB|apply zE|(apply o_g zC;exact rfl;exact rfl)|(apply zU;exact rfl;exact rfl)|(apply yF;iterate 4 exact rfl)|(apply o_guardT;(iterate 3 exact rfl);all_goals intro hc)|apply zA|apply zN|((with_reducible apply Sd.mk);first|exact True.intro))
 all_goals (apply zL;(exact(show ResS _ _ _ _ [_] from⟨rfl,trivial⟩));(focus refine⟨?_,rfl⟩;show B _=B _;congr 1;first|(rw[decide_eq_decide];omega)|(symm;rw[decide_eq_false_iff_not];omega)|(symm;rw[decide_eq_true_eq];omega));(focus repeat with_reducible first|exact Take.nil|apply Take.c|apply Take.drop))
theorem sub_pc {T:List St}{i:Nat}(hi:i<T.length):SubAt (recs stC T) (0+((i:Int)).toNat*5+2) (pcC T[i]!.2.2):=fun k v hk=>by
 rw[Int.toNat_natCast,Nat.zero_add,Nat.add_assoc]
 have hk3:k<3:=(List.getElem?_eq_some_iff.1 hk).1
 rw[recs_get stcW hi (show 2+k<5 by omega)]
 match k,hk3 with
 |0,_=>exact hk
 |1,_=>exact hk
 |2,_=>exact hk
theorem TOk.st {n j:Nat}{T:List St}(h:TOk n T)(hn:n≤4096)(hj:j≤n):stOk T[j]!:=by
 have:=h.2 j hj
 unfold stOk;omega
theorem parT_succ (c:Cst)(l:List UInt8)(w:Int)(j i:Nat)(hi:i=l.length-(j+1)):parT c l w (j+1)=(tryS c i (runT c i (trK (cands l i w 273) (cands l i w 273).length) (false,parT c l w j)) (litP l i)).2:=by
 subst hi
 show(runT c _ (triesL l _ w) _).2=_
 unfold triesL
 rw[runT_app];rfl
abbrev PF (n3 n8 n9 n10:Nat):Value:=.func (.func 66) ⟨[]⟩ ⟨[gptr n8 0 1,gptr n9 0 1,gptr n3 0 4,gptr n10 0 1]⟩
def IsPs (h:SH)(ps:List Pc)(r:Value)(q:SH):Prop:=(ps=[]∧r=.slice none 0 0∧q=h)∨ps≠[]∧∃A,r=gsl A 0 (3*ps.length) ps.length 3∧q=(A,⟨recs pcC ps,false⟩)::h
theorem Parse_any (c:Cst)(l:List UInt8)(w:Int)(h:SH)(hl:l.length≤9223372036854775807) :
  SRun Tryz.prog 35 [csV c,S l,I w] h fun r q=>∃v,r=.tuple #[v,I (parse c l w).2]∧IsPs h (parse c l w).1 v q:=by
 by_cases hc0:vC c
 ·by_cases hw:1≤w∧w≤4096
  ·by_cases hn:l.length≤4096
   ·have hpz:(parT c l w 0).length=l.length+1:=by simp[parT]
    have hzr:zrow (.agg ⟨[I 0,I 0,I 0,I 0,.int .u8 0]⟩) (((l.length:Int)+1).toNat*5)=recs stC (parT c l w 0):=by
     rw[show((l.length:Int)+1).toNat=l.length+1 by omega]
     exact recs_zrow (f:=stC) (w:=5) stcW (show 0<5 by omega) st0 rfl _
    refine w_body3 Tryz.func35 rfl rfl ?_
    repeat'(first|apply zF|apply zB|apply zE|(apply o_g zC;exact rfl;exact rfl)|(apply o_ar zC;exact rfl;exact rfl)|(apply o_not;exact rfl;exact rfl)|(apply yQ zC;(iterate 3 exact rfl);(focus exact pk))|(apply zX zC;(iterate 4 exact rfl);(focus exact up))|(apply yG zC;iterate 5 exact rfl)|(apply o_box (tt:=tyT);iterate 5 exact rfl)|(apply o_makeSlice zC;(iterate 6 exact rfl);(focus decide);(focus first|omega);(focus first|exact hzr);exact rfl)|(apply zD;exact rfl;exact rfl;(focus first|exact rfl);exact rfl;(focus exact⟨_,validC_any c _,by repeat with_reducible exact Take.nil⟩);rintro _ _ ⟨rfl,rfl⟩)|(apply zD;exact rfl;exact rfl;(focus first|exact rfl);exact rfl;(focus exact⟨_,validWindow_any w _,by repeat with_reducible exact Take.nil⟩);rintro _ _ ⟨rfl,rfl⟩)|(apply zU;exact rfl;exact rfl)|(apply o_gF;(iterate 3 exact rfl);(focus first|omega))|(apply yD;exact rfl;(focus first|omega))|apply zA|apply zI|apply zH|((with_reducible apply Sd.mk);first|exact True.intro)|((with_reducible apply Ln.mk);first|rfl)|((with_reducible apply Wr.mk);first|exact IntWalk.i64_in _ (by omega))|((with_reducible apply Se.mk);first|(focus(repeat(first|exact SetAt.zero));done))|((with_reducible apply Su.mk);first|exact zQ)|exact True.intro|intro A|exact rfl)
    rename_i n3 A0 n8
    obtain⟨n9,rfl⟩:∃n9,n9=A:=⟨_,rfl⟩
    have hgl:gsl A0 0 (((l.length:Int)+1).toNat*5) ((l.length:Int)+1).toNat 5=gsl A0 0 ((parT c l w 0).length*5) (parT c l w 0).length 5:=gslE rfl rfl (by omega) (by omega) rfl
    rw[hgl]
    refine zZ (S:=Nat × Nat) (fun x=>[(1,S l),(2,I w),(3,gptr n3 0 4),(8,gptr n8 0 1),(9,gptr x.2 0 1)])
     (fun x=>(x.2,⟨[I ((l.length:Int)-x.1-1)],false⟩)::(n8,⟨[gsl A0 0 ((parT c l w x.1).length*5) (parT c l w x.1).length 5],false⟩)::(A0,⟨recs stC (parT c l w x.1),false⟩)::(n3,⟨csC c,false⟩)::h)
     (fun x=>x.1≤l.length) (fun x=>l.length-x.1) (0,n9) (by simp) (by repeat'(first|exact trivial|refine⟨rfl,?_⟩|refine⟨congrArg some ?_,?_⟩)) (by show Take ((n9,⟨[I ((l.length:Int)-((0:Nat):Int)-1)],false⟩)::_) _;rw[show(l.length:Int)-((0:Nat):Int)-1=(l.length:Int)-1 by omega];exact(by repeat with_reducible first|exact Take.nil|apply Take.c|apply Take.drop)) ?_
    rintro⟨j,n9⟩ hj
    dsimp only at hj ⊢
    obtain⟨⟨hTl,hT⟩,hF⟩:=parT_ok hc0 (w:=w) hj
    by_cases hjl:j<l.length
    ·obtain⟨i,hi⟩:∃i,i=l.length-(j+1):=⟨_,rfl⟩
     rw[show(l.length:Int)-j-1=(i:Int)by omega]
     have hil:i<l.length:=by omega
     have hsu:=parT_succ c l w j i hi
     have hfl:=lit_fits hil
     repeat'(first|apply zF|apply zB|apply zE|(apply o_g zC;exact rfl;exact rfl)|(apply zM zC;(iterate 3 exact rfl);(focus exact pk))|(apply zX zC;(iterate 4 exact rfl);(focus exact up))|(apply yG zC;iterate 5 exact rfl)|(apply o_makeFunc;iterate 3 exact rfl)|(apply zD;exact rfl;exact rfl;(focus first|exact rfl);exact rfl;(focus exact⟨_,Candidates_any l i w 273 _ (by omega),by repeat with_reducible exact Take.nil⟩);rintro _ _ hq)|(apply yB;exact rfl)|apply zA|apply zI|apply zH|((with_reducible apply Sd.mk);first|exact True.intro)|((with_reducible apply Ln.mk);first|rfl)|((with_reducible apply Ce.mk);first|rfl)|((with_reducible apply Se.mk);first|(focus(repeat(first|exact SetAt.zero));done))|exact True.intro|intro A|exact rfl)
     obtain⟨n10,rfl⟩:∃n10,n10=A:=⟨_,rfl⟩
     rename_i r0 q0
     have hq2:∃h2,Take h2 h∧Has h2 (recs cpF (cands l i w 273)) 2 (cands l i w 273).length r0∧Take q0 (TB n3 n8 n9 n10 A0 c i (false,parT c l w j) h2):=by
      rcases hq with⟨e,rfl,rfl⟩|⟨A',rfl,rfl⟩
      ·exact⟨h,(by repeat with_reducible first|exact Take.nil|apply Take.c|apply Take.drop),⟨none,0,by rw[e];rfl,fun g=>absurd (by rw[e];rfl) g⟩,(by repeat with_reducible first|exact Take.nil|apply Take.c|apply Take.drop)⟩
      ·exact⟨(A',cpB (cands l i w 273) false)::h,(by repeat with_reducible first|exact Take.nil|apply Take.c|apply Take.drop),⟨_,_,rfl,fun _=>⟨A',false,_,rfl,.head⟩⟩,(by repeat with_reducible first|exact Take.nil|apply Take.c|apply Take.drop)⟩
     clear hq
     obtain⟨h2,ht2,⟨ad,fl,rfl,hcs⟩,ht3⟩:=hq2
     have hcl:=cands_le l i w 273
     repeat'(first|apply zE|(apply o_g zC;exact rfl;exact rfl)|(apply o_ar zC;exact rfl;exact rfl)|apply zA|apply zH|((with_reducible apply Sd.mk);first|exact True.intro)|((with_reducible apply Wr.mk);first|exact IntWalk.i64_in _ (by omega)))
     refine zZ (S:=Nat × (Bool × List St)) (fun x=>[(1,S l),(2,I w),(3,gptr n3 0 4),(8,gptr n8 0 1),(9,gptr n9 0 1),(11,PF n3 n8 n9 n10),(12,.slice ad (cands l i w 273).length fl),(13,I ((x.1:Int)-1))]) (fun x=>TB n3 n8 n9 n10 A0 c i x.2 h2)
      (fun x=>x.1≤(cands l i w 273).length∧TOk l.length x.2.2∧runT c i (trK (cands l i w 273) x.1) x.2=runT c i (trK (cands l i w 273) (cands l i w 273).length) (false,parT c l w j)) (fun x=>x.1)
      ((cands l i w 273).length,(false,parT c l w j)) ⟨Nat.le_refl _,⟨hTl,hT⟩,rfl⟩ (by repeat'(first|exact trivial|refine⟨rfl,?_⟩|refine⟨congrArg some ?_,?_⟩)) ht3 ?_
     rintro⟨k,f,T⟩ ⟨hk,hTk,hrun⟩
     dsimp only at hk hTk hrun ⊢
     by_cases hk0:0<k
     ·obtain⟨k,rfl⟩:∃m,k=m+1:=⟨k-1,by omega⟩
      rw[show(((k+1:Nat):Int))-1=(k:Int)by omega]
      obtain⟨A',ro,h4,rfl,hp⟩:=hcs (by omega)
      have hci:=cands_in (bang_mem (show k<(cands l i w 273).length by omega))
      repeat'((fail_if_success (show SWp _ _ (Code.cond (Operand.tmp 53) _ _) _ _ _));first|apply zF|apply zB|apply zE|(apply o_g zC;exact rfl;exact rfl)|(apply yB;exact rfl)|apply zA|apply zI|apply zH|((with_reducible apply Sd.mk);first|exact True.intro))
      refine w_meet (S:=Unit) (fun _=>[(1,S l),(2,I w),(3,gptr n3 0 4),(8,gptr n8 0 1),(9,gptr n9 0 1),(11,PF n3 n8 n9 n10),(12,.slice (some ⟨A',0,some (2*(cands l i w 273).length)⟩) (cands l i w 273).length fl),(13,I k),(14,I (shr (cands l i w 273) k))])
       (fun _=>TB n3 n8 n9 n10 A0 c i (f,T) h2) (fun _=>True) ?_ ?_
      ·by_cases hk1:0<k
       ·have hs:(shr (cands l i w 273) k:Int)=(cands l i w 273)[k-1]!.1:=by
         have:=cands_in (bang_mem (show k-1<(cands l i w 273).length by omega))
         unfold shr;rw[if_pos hk1];omega
        obtain⟨m,rfl⟩:∃m,k=m+1:=⟨k-1,by omega⟩
        rw[Nat.add_sub_cancel]at hs
        repeat'(first|apply zB|apply zE|(apply o_g zC;exact rfl;exact rfl)|(apply o_ar zC;exact rfl;exact rfl)|(apply zM zC;(iterate 3 exact rfl);(focus exact pk))|(apply yC;exact rfl;(focus first|omega))|apply zA|((with_reducible apply Sd.mk);first|exact True.intro|omega)|((with_reducible apply Ln.mk);first|(simp ;first|done|omega))|((with_reducible apply Wr.mk);first|exact IntWalk.i64_in _ (by omega))|((with_reducible apply Ce.mk);first|exact cell_rec (fun _=>rfl) (by omega) (by decide) rfl)|exact True.intro|exact rfl)
        rw[show(((m+1:Nat):Int)-1).toNat=m by omega,hs]
        exact⟨(),trivial,(by repeat'(first|exact trivial|refine⟨rfl,?_⟩|refine⟨congrArg some ?_,?_⟩)),(by repeat with_reducible first|exact Take.nil|apply Take.c|apply Take.drop)⟩
       ·have hs:(shr (cands l i w 273) k:Int)=1:=by unfold shr;rw[if_neg hk1];rfl
        repeat'(first|(apply yD;exact rfl;(focus first|omega))|apply zA|apply zI)
        rw[hs]
        exact⟨(),trivial,(by repeat'(first|exact trivial|refine⟨rfl,?_⟩|refine⟨congrArg some ?_,?_⟩)),(by repeat with_reducible first|exact Take.nil|apply Take.c|apply Take.drop)⟩
      ·rintro _ _
       repeat'(first|apply zF|apply zB|apply zE|(apply o_g zC;exact rfl;exact rfl)|(apply zM zC;(iterate 3 exact rfl);(focus exact pk))|apply zA|apply zH|((with_reducible apply Sd.mk);first|exact True.intro|omega)|((with_reducible apply Ln.mk);first|(simp ;first|done|omega))|((with_reducible apply Ce.mk);first|exact cell_recZ (fun _=>rfl) (by omega) (by decide) rfl)|exact True.intro|exact rfl)
       obtain⟨N,hN⟩:∃N:Nat,(cands l i w 273)[k]!.1=(N:Int):=⟨_,(Int.toNat_of_nonneg (by omega)).symm⟩
       have hrun2:runT c i (trN (cands l i w 273)[k]!.2 (shr (cands l i w 273) k) N++trK (cands l i w 273) k) (f,T)=runT c i (trK (cands l i w 273) (cands l i w 273).length) (false,parT c l w j):=by
        rw[←hrun,trK,hN,Int.toNat_natCast]
       rw[hN]at hci ⊢
       refine zZ (S:=Nat × (Bool × List St)) (fun x=>[(1,S l),(2,I w),(3,gptr n3 0 4),(8,gptr n8 0 1),(9,gptr n9 0 1),(11,PF n3 n8 n9 n10),(12,.slice (some ⟨A',0,some (2*(cands l i w 273).length)⟩) (cands l i w 273).length fl),(13,I k),(14,I (shr (cands l i w 273) k)),(15,I x.1)]) (fun x=>TB n3 n8 n9 n10 A0 c i x.2 h2)
        (fun x=>x.1≤N∧TOk l.length x.2.2∧runT c i (trN (cands l i w 273)[k]!.2 (shr (cands l i w 273) k) x.1++trK (cands l i w 273) k) x.2=runT c i (trK (cands l i w 273) (cands l i w 273).length) (false,parT c l w j)) (fun x=>x.1)
        (N,(f,T)) ⟨Nat.le_refl _,hTk,hrun2⟩ (by repeat'(first|exact trivial|refine⟨rfl,?_⟩|refine⟨congrArg some ?_,?_⟩)) (by repeat with_reducible first|exact Take.nil|apply Take.c|apply Take.drop) ?_
       clear hrun2 hrun hTk
       rintro⟨n,f,T⟩ ⟨hnN,hTk,hrun⟩
       dsimp only at hnN hTk hrun ⊢
       have hsp:=shr_pos (l:=l) (i:=i) (w:=w) (show k<(cands l i w 273).length by omega)
       by_cases hlo:shr (cands l i w 273) k<n
       ·obtain⟨n,rfl⟩:∃m,n=m+1:=⟨n-1,by omega⟩
        rw[trN,if_pos hlo,List.cons_append]at hrun
        have hft:fits l i (((n+1:Nat):Int),(cands l i w 273)[k]!.2,0):=⟨.inr ⟨by dsimp only;omega,by dsimp only;omega,by dsimp only;omega,by dsimp only;omega,rfl⟩,by dsimp only;omega,by dsimp only;omega⟩
        have hst:=hTk.st hn (show i+(n+1)≤l.length by omega)
        have htl:=hTk.1
        repeat'(first|apply zF|apply zB|apply zE|(apply o_g zC;exact rfl;exact rfl)|(apply o_ar zC;exact rfl;exact rfl)|(apply zM zC;(iterate 3 exact rfl);(focus exact pk))|(apply yT zC;exact rfl;exact rfl;(focus first|with_reducible exact pl81);exact rfl;(focus repeat(first|exact BuildR.nil|(apply BuildR.one;exact rfl;exact rfl;(first|(focus(repeat(first|exact SetAt.zero|apply SetAt.succ));done)))));exact rfl)|(apply zD;exact rfl;exact rfl;(focus first|exact rfl);exact rfl;(focus exact⟨_,try_any c (((n+1:Nat):Int),(cands l i w 273)[k]!.2,0) n3 n8 n9 n10 A0 i (f,T) h2 hc0 hft.1 (by show i+(n+1)<T.length;omega) (by show T.length≤4097;omega) hst,by repeat with_reducible exact Take.nil⟩);rintro _ _ ⟨rfl,rfl⟩)|(apply yC;exact rfl;(focus first|omega))|apply zA|apply zG|apply zI|apply zH|((with_reducible apply Sd.mk);first|exact True.intro|omega)|((with_reducible apply Ln.mk);first|(simp ;first|done|omega))|((with_reducible apply Wr.mk);first|exact IntWalk.i64_in _ (by omega))|((with_reducible apply Ce.mk);first|exact cell_recZ (fun _=>rfl) (by omega) (by decide) rfl)|exact True.intro|exact rfl)
        rw[show(((n+1:Nat):Int))-1=(n:Int)by omega]
        exact⟨(n,tryS c i (f,T) (((n+1:Nat):Int),(cands l i w 273)[k]!.2,0)),⟨by show n≤N;omega,tryS_ok (s:=(f,T)) hc0 hTk hft,hrun⟩,Nat.lt_succ_self n,(by repeat'(first|exact trivial|refine⟨rfl,?_⟩|refine⟨congrArg some ?_,?_⟩)),(by repeat with_reducible first|exact Take.nil|apply Take.c|apply Take.drop)⟩
       ·have hnil:trN (cands l i w 273)[k]!.2 (shr (cands l i w 273) k) n=[]:=by
         cases n with
         |zero=>rfl
         |succ n=>rw[trN,if_neg hlo]
        rw[hnil,List.nil_append]at hrun
        repeat'(first|apply zF|apply zB|apply zE|(apply o_g zC;exact rfl;exact rfl)|(apply o_ar zC;exact rfl;exact rfl)|(apply yD;exact rfl;(focus first|omega))|apply zA|apply zK|apply zG|apply zJ|apply zV|((with_reducible apply Sd.mk);first|exact True.intro)|((with_reducible apply Wr.mk);first|exact IntWalk.i64_in _ (by omega)))
        exact⟨(k,(f,T)),⟨by show k≤_;omega,hTk,hrun⟩,Nat.lt_succ_self k,(by repeat'(first|exact trivial|refine⟨rfl,?_⟩|refine⟨congrArg some ?_,?_⟩)),(by repeat with_reducible first|exact Take.nil|apply Take.c|apply Take.drop)⟩
     ·obtain rfl:k=0:=by omega
      have hrun2:(f,T)=runT c i (trK (cands l i w 273) (cands l i w 273).length) (false,parT c l w j):=hrun
      rw[←hrun2]at hsu
      have htl:=hTk.1
      have hst:=hTk.st hn (show i+1≤l.length by omega)
      repeat'(first|apply zF|apply zB|apply zE|(apply o_g zC;exact rfl;exact rfl)|(apply o_ar zC;exact rfl;exact rfl)|(apply zM zC;(iterate 3 exact rfl);(focus exact pk))|(apply zX zC;(iterate 4 exact rfl);(focus exact up))|(apply yG zC;iterate 5 exact rfl)|(apply yT zC;exact rfl;exact rfl;(focus first|with_reducible exact pl81);exact rfl;(focus repeat(first|exact BuildR.nil|(apply BuildR.one;exact rfl;exact rfl;(first|(focus(repeat(first|exact SetAt.zero|apply SetAt.succ));done)))));exact rfl)|(apply zD;exact rfl;exact rfl;(focus first|exact rfl);exact rfl;(focus exact⟨_,try_any c (litP l i) n3 n8 n9 n10 A0 i (f,T) h2 hc0 hfl.1 (by show i+1<T.length;omega) (by show T.length≤4097;omega) hst,by repeat with_reducible exact Take.nil⟩);rintro _ _ ⟨rfl,rfl⟩)|(apply zS;exact rfl)|apply zA|apply zK|apply zG|apply zJ|apply zV|((with_reducible apply Sd.mk);first|exact True.intro|omega)|((with_reducible apply Ln.mk);first|rfl)|((with_reducible apply Wr.mk);first|exact IntWalk.i64_in _ (by omega))|((with_reducible apply Ce.mk);first|rfl)|((with_reducible apply Se.mk);first|(focus(repeat(first|exact SetAt.zero));done))|exact True.intro|intro A|exact rfl)
      refine⟨(j+1,A),by show j+1≤_;omega,by show l.length-(j+1)<_;omega,(by repeat'(first|exact trivial|refine⟨rfl,?_⟩|refine⟨congrArg some ?_,?_⟩)),?_⟩
      dsimp only
      rw[hsu,show(l.length:Int)-((j+1:Nat):Int)-1=(i:Int)-1 by omega]
      exact(by repeat(first|with_reducible exact Take.nil|exact ht2|with_reducible apply Take.c|with_reducible apply Take.drop))
    ·obtain rfl:j=l.length:=by omega
     repeat'(first|apply zF|apply zB|apply zE|(apply o_g zC;exact rfl;exact rfl)|(apply zM zC;(iterate 3 exact rfl);(focus exact pk))|(apply yD;exact rfl;(focus first|omega))|apply zA|apply zK|apply zJ|apply zV|apply zH|((with_reducible apply Sd.mk);first|exact True.intro)|((with_reducible apply Ln.mk);first|rfl)|((with_reducible apply Ce.mk);first|rfl)|exact True.intro|exact rfl)
     have hPF:∀i,i<l.length→fits l i (parT c l w l.length)[i]!.2.2:=fun i hi=>hF i (by omega) hi
     have hTl2:(parT c l w l.length).length=l.length+1:=hTl
     have hpr:parse c l w=(walkT (parT c l w l.length) l.length l.length 0,0):=by unfold parse;rw[if_pos ⟨hc0,hw⟩,if_neg (by omega)]
     rw[hpr]
     obtain⟨T,hTe⟩:∃T,T=parT c l w l.length:=⟨_,rfl⟩
     rw[←hTe]at hPF hTl2 ⊢
     obtain⟨hB,hBe⟩:∃hB,hB=(n8,(⟨[gsl A0 0 (T.length*5) T.length 5],false⟩:Blk))::(A0,⟨recs stC T,false⟩)::(n3,⟨csC c,false⟩)::h:=⟨_,rfl⟩
     refine zZ (S:=Nat × Nat × List Pc × Value × SH) (fun x=>[(1,S l),(8,gptr n8 0 1),(16,x.2.2.2.1),(17,I x.1)]) (fun x=>x.2.2.2.2)
      (fun x=>x.1≤l.length∧l.length≤x.2.1+x.1∧x.2.2.1++walkT T l.length x.2.1 x.1=walkT T l.length l.length 0∧x.2.2.1.length≤x.1∧IsPs hB x.2.2.1 x.2.2.2.1 x.2.2.2.2) (fun x=>l.length-x.1)
      (0,l.length,[],_,_) ⟨by simp,by simp,rfl,by simp,.inl ⟨rfl,rfl,rfl⟩⟩ (by repeat'(first|exact trivial|refine⟨rfl,?_⟩|refine⟨congrArg some ?_,?_⟩)) (by rw[hBe];exact(by repeat with_reducible first|exact Take.nil|apply Take.c|apply Take.drop)) ?_
     rintro⟨i,f,ps,v,q⟩ ⟨hi,hif,hwk,hpl,hps⟩
     dsimp only at hi hif hwk hpl hps ⊢
     by_cases hil:i<l.length
     ·obtain⟨f,rfl⟩:∃m,f=m+1:=⟨f-1,by omega⟩
      rw[walkT,if_pos hil]at hwk
      have hft:=hPF i hil
      have hsub:=sub_pc (T:=T) (i:=i) (by omega)
      obtain⟨m,hm⟩:∃m:Nat,T[i]!.2.2.1=(m:Int):=⟨_,(Int.toNat_of_nonneg (by omega)).symm⟩
      rw[show T[i]!.2.2.1.toNat=m by omega]at hwk
      rcases hps with⟨rfl,rfl,rfl⟩|⟨hne,A2,rfl,rfl⟩
      ·subst hBe
       repeat'(first|apply zF|apply zB|apply zE|(apply o_g zC;exact rfl;exact rfl)|(apply o_ar zC;exact rfl;exact rfl)|(apply zM zC;(iterate 3 exact rfl);(focus exact pk))|(apply yQ zC;(iterate 3 exact rfl);(focus exact pk))|(apply zT zC;(iterate 5 exact rfl);(focus decide);exact rfl;(focus decide);(focus repeat(first|exact CatR.last rfl));exact rfl)|(apply o_append_nil zC;(iterate 5 exact rfl);(focus exact⟨by decide⟩);(focus exact pk))|(apply yC;exact rfl;(focus first|omega))|apply zA|apply zG|apply zI|apply zH|((with_reducible apply Sd.mk);first|exact True.intro|omega|(constructor <;> first|omega|(unfold maxLen;omega)))|((with_reducible apply Ln.mk);first|rfl|(simp ;first|done|omega))|((with_reducible apply Wr.mk);first|exact IntWalk.i64_in _ (by omega))|((with_reducible apply Ce.mk);first|rfl|exact cell_recZ (fun _=>rfl) (by omega) (by decide) rfl)|((with_reducible apply Su.mk);first|exact hsub|exact zQ)|exact True.intro|intro A|exact rfl)
       rw[show(i:Int)+T[i]!.2.2.1=((i+m:Nat):Int)by omega]
       exact⟨(i+m,f,[T[i]!.2.2],gsl A 0 (3*1) 1 3,(A,⟨recs pcC [T[i]!.2.2],false⟩)::(n8,⟨[gsl A0 0 (T.length*5) T.length 5],false⟩)::(A0,⟨recs stC T,false⟩)::(n3,⟨csC c,false⟩)::h),⟨by show i+m≤l.length;omega,by show l.length≤f+(i+m);omega,hwk,by show 1≤i+m;omega,.inr ⟨by simp,A,rfl,rfl⟩⟩,by show l.length-(i+m)<l.length-i;omega,(by repeat'(first|exact trivial|refine⟨rfl,?_⟩|refine⟨congrArg some ?_,?_⟩)),(by repeat(first|with_reducible exact Take.nil|with_reducible apply Take.c|((with_reducible apply Take.cE);first|exact rfl|(apply blkE;(focus first|exact rfl|exact yI rfl|exact yO rfl|exact congrArg (fun v=>[v]) (gslE rfl rfl (by first|rfl|exact ‹_›|omega|(simp ;first|done|omega)) (by first|rfl|exact ‹_›|omega|(simp ;first|done|omega)) rfl))))|with_reducible apply Take.drop))⟩
      ·subst hBe
       repeat'(first|apply zF|apply zB|apply zE|(apply o_g zC;exact rfl;exact rfl)|(apply o_ar zC;exact rfl;exact rfl)|(apply zM zC;(iterate 3 exact rfl);(focus exact pk))|(apply yQ zC;(iterate 3 exact rfl);(focus exact pk))|(apply zT zC;(iterate 5 exact rfl);(focus decide);exact rfl;(focus decide);(focus repeat(first|exact CatR.last rfl));exact rfl)|(apply o_append zC;(iterate 5 exact rfl);(focus exact⟨by decide⟩);(focus exact up);(focus exact pk))|(apply yC;exact rfl;(focus first|omega))|apply zA|apply zG|apply zI|apply zH|((with_reducible apply Sd.mk);first|exact True.intro|omega|(constructor <;> first|omega|(unfold maxLen;omega)))|((with_reducible apply Ln.mk);first|rfl|omega|(simp ;first|done|omega))|((with_reducible apply Wr.mk);first|exact IntWalk.i64_in _ (by omega))|((with_reducible apply Ce.mk);first|rfl|exact cell_recZ (fun _=>rfl) (by omega) (by decide) rfl)|((with_reducible apply Su.mk);first|exact hsub|exact zQ)|exact True.intro|intro A|exact rfl)
       rw[show(i:Int)+T[i]!.2.2.1=((i+m:Nat):Int)by omega]
       exact⟨(i+m,f,ps++[T[i]!.2.2],gsl A2 0 (3*(ps++[T[i]!.2.2]).length) (ps++[T[i]!.2.2]).length 3,(A2,⟨recs pcC (ps++[T[i]!.2.2]),false⟩)::(n8,⟨[gsl A0 0 (T.length*5) T.length 5],false⟩)::(A0,⟨recs stC T,false⟩)::(n3,⟨csC c,false⟩)::h),⟨by show i+m≤l.length;omega,by show l.length≤f+(i+m);omega,by rw[List.append_assoc];exact hwk,by show(ps++[_]).length≤i+m;rw[List.length_append,List.length_singleton];omega,.inr ⟨by first|exact hne|simp,A2,rfl,rfl⟩⟩,by show l.length-(i+m)<l.length-i;omega,⟨rfl,rfl,congrArg some (gslE rfl rfl (by simp;try omega) (by simp) rfl),rfl,trivial⟩,(by repeat(first|with_reducible exact Take.nil|with_reducible apply Take.c|((with_reducible apply Take.cE);first|exact rfl|(apply blkE;(focus first|exact rfl|exact yI rfl|exact yO rfl|exact congrArg (fun v=>[v]) (gslE rfl rfl (by first|rfl|exact ‹_›|omega|(simp ;first|done|omega)) (by first|rfl|exact ‹_›|omega|(simp ;first|done|omega)) rfl))))|with_reducible apply Take.drop))⟩
     ·obtain rfl:i=l.length:=by omega
      have hw0:walkT T l.length f l.length=[]:=by
       cases f with
       |zero=>rfl
       |succ f=>rw[walkT,if_neg (Nat.lt_irrefl _)]
      rw[hw0,List.append_nil]at hwk
      subst hwk
      rcases hps with⟨e,rfl,rfl⟩|⟨hne,A2,rfl,rfl⟩
      ·subst hBe
       repeat'(first|apply zF|apply zB|apply zE|(apply o_g zC;exact rfl;exact rfl)|(apply yD;exact rfl;(focus first|omega))|apply zA|apply zK|apply zJ|apply zN|apply zV|((with_reducible apply Sd.mk);first|exact True.intro))
       (apply zL;(exact(show ResS _ _ _ _ [_,_] from⟨rfl,⟨rfl,trivial⟩⟩));(focus exact⟨_,rfl,.inl ⟨e,rfl,rfl⟩⟩);(focus repeat with_reducible first|exact Take.nil|apply Take.c|apply Take.drop))
      ·subst hBe
       repeat'(first|apply zF|apply zB|apply zE|(apply o_g zC;exact rfl;exact rfl)|(apply yD;exact rfl;(focus first|omega))|apply zA|apply zK|apply zJ|apply zN|apply zV|((with_reducible apply Sd.mk);first|exact True.intro))
       (apply zL;(exact(show ResS _ _ _ _ [_,_] from⟨rfl,⟨rfl,trivial⟩⟩));(focus exact⟨_,rfl,.inr ⟨by first|exact hne|simp,A2,rfl,rfl⟩⟩);(focus repeat with_reducible first|exact Take.nil|apply Take.c|apply Take.drop))
   ·refine w_body3 Tryz.func35 rfl rfl ?_
    repeat'(first|apply zF|apply zB|apply zE|(apply o_g zC;exact rfl;exact rfl)|(apply o_not;exact rfl;exact rfl)|(apply yQ zC;(iterate 3 exact rfl);(focus exact pk))|(apply o_box (tt:=tyT);iterate 5 exact rfl)|(apply zD;exact rfl;exact rfl;(focus first|exact rfl);exact rfl;(focus exact⟨_,validC_any c _,by repeat with_reducible exact Take.nil⟩);rintro _ _ ⟨rfl,rfl⟩)|(apply zD;exact rfl;exact rfl;(focus first|exact rfl);exact rfl;(focus exact⟨_,validWindow_any w _,by repeat with_reducible exact Take.nil⟩);rintro _ _ ⟨rfl,rfl⟩)|(apply zU;exact rfl;exact rfl)|(apply o_gF;(iterate 3 exact rfl);(focus first|omega))|(apply yC;exact rfl;(focus first|omega))|(apply yD;exact rfl;(focus first|omega))|apply zA|apply zP|apply zI|apply zN|((with_reducible apply Sd.mk);first|exact True.intro)|((with_reducible apply Ln.mk);first|rfl)|((with_reducible apply Su.mk);first|exact zQ)|exact True.intro|intro A|exact rfl)
    all_goals first
     |(apply zL;(exact(show ResS _ _ _ _ [_,_] from⟨rfl,⟨rfl,trivial⟩⟩));(focus exact⟨_,by unfold parse;rw[if_pos ⟨hc0,hw⟩,if_pos (by omega)];rfl,.inl ⟨by unfold parse;rw[if_pos ⟨hc0,hw⟩,if_pos (by omega)],rfl,rfl⟩⟩);(focus repeat with_reducible first|exact Take.nil|apply Take.c|apply Take.drop))
     |(exfalso;omega)
     |(exfalso;simp_all;done)
  ·refine w_body3 Tryz.func35 rfl rfl ?_
   repeat'(first|apply zF|apply zB|apply zE|(apply o_g zC;exact rfl;exact rfl)|(apply o_not;exact rfl;exact rfl)|(apply yQ zC;(iterate 3 exact rfl);(focus exact pk))|(apply o_box (tt:=tyT);iterate 5 exact rfl)|(apply zD;exact rfl;exact rfl;(focus first|exact rfl);exact rfl;(focus exact⟨_,validC_any c _,by repeat with_reducible exact Take.nil⟩);rintro _ _ ⟨rfl,rfl⟩)|(apply zD;exact rfl;exact rfl;(focus first|exact rfl);exact rfl;(focus exact⟨_,validWindow_any w _,by repeat with_reducible exact Take.nil⟩);rintro _ _ ⟨rfl,rfl⟩)|(apply zU;exact rfl;exact rfl)|(apply o_gF;(iterate 3 exact rfl);(focus first|omega))|(apply yC;exact rfl;(focus first|omega))|apply zA|apply zP|apply zN|((with_reducible apply Sd.mk);first|exact True.intro)|((with_reducible apply Ln.mk);first|rfl)|((with_reducible apply Su.mk);first|exact zQ)|exact True.intro|intro A|exact rfl)
   all_goals first
    |(apply zL;(exact(show ResS _ _ _ _ [_,_] from⟨rfl,⟨rfl,trivial⟩⟩));(focus exact⟨_,by unfold parse;rw[if_neg (fun g=>hw g.2)];rfl,.inl ⟨by unfold parse;rw[if_neg (fun g=>hw g.2)],rfl,rfl⟩⟩);(focus repeat with_reducible first|exact Take.nil|apply Take.c|apply Take.drop))
    |(exfalso;simp_all;done)
 ·refine w_body3 Tryz.func35 rfl rfl ?_
  repeat'(first|apply zF|apply zB|apply zE|(apply o_g zC;exact rfl;exact rfl)|(apply o_not;exact rfl;exact rfl)|(apply yQ zC;(iterate 3 exact rfl);(focus exact pk))|(apply o_box (tt:=tyT);iterate 5 exact rfl)|(apply zD;exact rfl;exact rfl;(focus first|exact rfl);exact rfl;(focus exact⟨_,validC_any c _,by repeat with_reducible exact Take.nil⟩);rintro _ _ ⟨rfl,rfl⟩)|(apply yF;iterate 4 exact rfl)|(apply o_sT;(iterate 3 exact rfl);(focus first|omega);exact rfl)|(apply yB;exact rfl)|apply zA|apply zP|apply zN|((with_reducible apply Sd.mk);first|exact True.intro)|((with_reducible apply Ln.mk);first|rfl)|((with_reducible apply Su.mk);first|exact zQ)|exact True.intro|intro A|exact rfl)
  all_goals first
   |(apply zL;(exact(show ResS _ _ _ _ [_,_] from⟨rfl,⟨rfl,trivial⟩⟩));(focus exact⟨_,by unfold parse;rw[if_neg (fun g=>hc0 g.1)];rfl,.inl ⟨by unfold parse;rw[if_neg (fun g=>hc0 g.1)],rfl,rfl⟩⟩);(focus repeat with_reducible first|exact Take.nil|apply Take.c|apply Take.drop))
   |(exfalso;simp_all;done)

theorem srun_post {P:Program}{f:FuncId}{xs:List Value}{p:SH}{R:Value→SH→Prop}(k:SRun P f xs p fun r q=>∃q',R r q'∧Take q q'):SRun P f xs p R:=by
 unfold SRun at k ⊢
 intro H i
 exact(k H i).mono fun r H' ⟨q,⟨q',g1,g2⟩,g3⟩=>⟨q',g1,g3.le g2.le⟩
structure Ms where
 K:List Int
 P:List Int
 c:Int
 L:List Int
 D:List Int
structure MsOk (x:Ms):Prop where
 K:x.K.length=2
 P:x.P.length=2048
 c:0≤x.c∧x.c≤255
 L:x.L.length=64
 D:x.D.length=64
def nu0 :List Int:=List.replicate 64 1024
def by0 :List Int:=List.replicate 2048 1024
def ms0 :Ms:=⟨List.replicate 2 1024,by0,0,nu0,nu0⟩
theorem ms0_ok :MsOk ms0:=⟨rfl,List.length_replicate,⟨Int.le_refl _,by show(0:Int)≤255;decide⟩,List.length_replicate,List.length_replicate⟩
structure Mad where
 k:Nat
 kn:Nat
 b:Nat
 bn:Nat
 l:Nat
 ln:Nat
 d:Nat
 dn:Nat
abbrev kiC (N:Nat):List Value:=[I 1,gsl N 0 2 2 0]
abbrev msB (a:Mad)(x:Ms)(h:SH):SH:=(a.k,⟨kiC a.kn,false⟩)::(a.kn,⟨nodes x.K,false⟩)::(a.b,⟨byC a.bn x.c,false⟩)::(a.bn,⟨nodes x.P,false⟩) ::
 (a.l,⟨numC a.ln,false⟩)::(a.ln,⟨nodes x.L,false⟩)::(a.d,⟨numC a.dn,false⟩)::(a.dn,⟨nodes x.D,false⟩)::h
theorem Take.f2 {A B C D:Nat × Blk}{h:SH}:Take (A::B::C::D::h) (C::D::A::B::h):=.cons (.tail (.tail .head)) (.cons (.tail (.tail .head)) .nil)
theorem Take.f4 {A B C D E F:Nat × Blk}{h:SH}:Take (A::B::C::D::E::F::h) (E::F::A::B::C::D::h):=.cons (.tail (.tail (.tail (.tail .head)))) (.cons (.tail (.tail (.tail (.tail .head)))) .nil)
theorem Take.b4 {A B C D E F:Nat × Blk}{h:SH}:Take (E::F::A::B::C::D::h) (A::B::C::D::E::F::h):=.cons (.tail (.tail .head)) (.cons (.tail (.tail .head)) (.cons (.tail (.tail .head)) (.cons (.tail (.tail .head)) .nil)))
theorem Take.f6 {A B C D E F G H:Nat × Blk}{h:SH}:Take (A::B::C::D::E::F::G::H::h) (G::H::A::B::C::D::E::F::h):=.cons (.tail (.tail (.tail (.tail (.tail (.tail .head)))))) (.cons (.tail (.tail (.tail (.tail (.tail (.tail .head)))))) .nil)
theorem Take.b6 {A B C D E F G H:Nat × Blk}{h:SH}:Take (G::H::A::B::C::D::E::F::h) (A::B::C::D::E::F::G::H::h):=.cons (.tail (.tail .head)) (.cons (.tail (.tail .head)) (.cons (.tail (.tail .head)) (.cons (.tail (.tail .head)) (.cons (.tail (.tail .head)) (.cons (.tail (.tail .head)) .nil)))))
section
variable (a:Mad) (n m:Nat) (x:Ms) (e:Enc) (v:Int) (h p:SH) (hb:EncT n (msB a x h) none e p) (hx:MsOk x) (hok:EncOk m e) (hm:m+400≤999000)
 include hb hx hok hm
theorem kEncW :SRun Tryz.prog 42 [gptr a.k 0 2,gptr n 0 3,I v] p fun _ q=>EncT n (msB a { x with K:=(tenc v 1 x.K e 1).1 } h) none (tenc v 1 x.K e 1).2 q:=by
 have:=TreeEncodeT n a.k a.kn 0 2 2 1 m none (kiC a.kn) [] [] x.K e v ((a.b,⟨byC a.bn x.c,false⟩)::(a.bn,⟨nodes x.P,false⟩)::(a.l,⟨numC a.ln,false⟩)::(a.ln,⟨nodes x.L,false⟩)::(a.d,⟨numC a.dn,false⟩)::(a.dn,⟨nodes x.D,false⟩)::h) p
  (by rw[List.nil_append,List.append_nil];exact hb) rfl rfl rfl rfl hx.K (by decide) hok (by omega)
 rw[List.nil_append,List.append_nil]at this
 exact this.mono fun _ _ g=>g.2
theorem bEncW (hv:0≤v∧v≤255):SRun Tryz.prog 43 [gptr a.b 0 17,gptr n 0 3,Y v] p fun _ q=>EncT n (msB a { x with P:=(benc x.P x.c e v).1,c:=v } h) none (benc x.P x.c e v).2 q:=by
 obtain⟨p',hb',tp⟩:=hb.re Take.f2
 exact srun_post (((BytesEncode_any n a.b a.bn m x.P x.c v e _ p' ⟨none,hb'⟩ hx.P hx.c hv hok (by omega)).take tp).mono fun _ q ⟨a',hb2⟩=>hb2.none'.re Take.f2)
theorem lEncW :SRun Tryz.prog 44 [gptr a.l 0 2,gptr n 0 3,I v] p fun _ q=>EncT n (msB a { x with L:=(nenc x.L e v).1 } h) none (nenc x.L e v).2 q:=by
 obtain⟨p',hb',tp⟩:=hb.re Take.f4
 exact srun_post (((NumEncodeT_any n a.l a.ln m x.L e v _ p' hb' hx.L hok (by omega)).take tp).mono fun _ q hb2=>hb2.re Take.b4)
theorem dEncW :SRun Tryz.prog 44 [gptr a.d 0 2,gptr n 0 3,I v] p fun _ q=>EncT n (msB a { x with D:=(nenc x.D e v).1 } h) none (nenc x.D e v).2 q:=by
 obtain⟨p',hb',tp⟩:=hb.re Take.f6
 exact srun_post (((NumEncodeT_any n a.d a.dn m x.D e v _ p' hb' hx.D hok (by omega)).take tp).mono fun _ q hb2=>hb2.re Take.b6)
end
section
variable (a:Mad) (n:Nat) (x:Ms) (d:Dec) (h:SH) (hx:MsOk x) (hok:DecOk d)
 include hx hok
theorem kDecW :SRun Tryz.prog 82 [gptr a.k 0 2,gptr n 0 5] (decB n d::msB a x h) fun r q=>r=I (((tdec 1 x.K d 1).2.2:Int)-2)∧q=decB n (tdec 1 x.K d 1).2.1::msB a { x with K:=(tdec 1 x.K d 1).1 } h:=by
 have:=TreeDecode_any n a.k a.kn 0 2 2 1 (kiC a.kn) [] [] x.K d ((a.b,⟨byC a.bn x.c,false⟩)::(a.bn,⟨nodes x.P,false⟩)::(a.l,⟨numC a.ln,false⟩)::(a.ln,⟨nodes x.L,false⟩)::(a.d,⟨numC a.dn,false⟩)::(a.dn,⟨nodes x.D,false⟩)::h) rfl rfl rfl rfl hx.K (by decide) hok
 rw[List.nil_append,List.append_nil,List.nil_append,List.append_nil]at this
 exact this
theorem bDecW :SRun Tryz.prog 83 [gptr a.b 0 17,gptr n 0 5] (decB n d::msB a x h) fun r q=>r=Y (bdec x.P x.c d).2.2∧q=decB n (bdec x.P x.c d).2.1::msB a { x with P:=(bdec x.P x.c d).1,c:=(bdec x.P x.c d).2.2 } h :=
 srun_post (((BytesDecode_any n a.b a.bn x.P x.c d _ hx.P hx.c hok).take (.cons .head Take.f2)).mono fun _ q ⟨g1,g2⟩=>⟨_,⟨g1,rfl⟩,by rw[g2];exact .cons .head Take.f2⟩)
theorem lDecW :SRun Tryz.prog 84 [gptr a.l 0 2,gptr n 0 5] (decB n d::msB a x h) fun r q=>r=I (ndec x.L d).2.2∧q=decB n (ndec x.L d).2.1::msB a { x with L:=(ndec x.L d).1 } h :=
 srun_post (((NumDecode_any n a.l a.ln x.L d _ hx.L hok).take (.cons .head Take.f4)).mono fun _ q ⟨g1,g2⟩=>⟨_,⟨g1,rfl⟩,by rw[g2];exact .cons .head Take.b4⟩)
theorem dDecW :SRun Tryz.prog 84 [gptr a.d 0 2,gptr n 0 5] (decB n d::msB a x h) fun r q=>r=I (ndec x.D d).2.2∧q=decB n (ndec x.D d).2.1::msB a { x with D:=(ndec x.D d).1 } h :=
 srun_post (((NumDecode_any n a.d a.dn x.D d _ hx.D hok).take (.cons .head Take.f6)).mono fun _ q ⟨g1,g2⟩=>⟨_,⟨g1,rfl⟩,by rw[g2];exact .cons .head Take.b6⟩)
end
abbrev setC (a:Mad):List Value:=[gptr a.k 0 2,gptr a.b 0 17,gptr a.l 0 2,gptr a.d 0 2]
theorem mk_set (k kn b bn l ln d dn:Nat)(K P L D:List Int)(h:SH):∃a:Mad,Value.agg ⟨[gptr k 0 2,gptr b 0 17,gptr l 0 2,gptr d 0 2]⟩=.agg ⟨setC a⟩ ∧
  ((k,(⟨kiC kn,false⟩:Blk))::(kn,⟨nodes K,false⟩)::(b,⟨byC bn 0,false⟩)::(bn,⟨nodes P,false⟩)::(l,⟨numC ln,false⟩)::(ln,⟨nodes L,false⟩)::(d,⟨numC dn,false⟩)::(dn,⟨nodes D,false⟩)::h)=msB a ⟨K,P,0,L,D⟩ h :=
 ⟨⟨k,kn,b,bn,l,ln,d,dn⟩,rfl,rfl⟩
theorem newSet_any (h:SH):SRun Tryz.prog 39 [] h fun r q=>∃a:Mad,r=.agg ⟨setC a⟩∧q=msB a ms0 h:=by
 have hT:∀h,SRun Tryz.prog 73 [I 1] h fun r q=>∃T N,r=.tuple #[gptr T 0 2,I 0]∧q=(T,⟨[I 1,gsl N 0 2 2 0],false⟩)::(N,⟨nodes (List.replicate 2 1024),false⟩)::h:=fun h=>(NewTree_any 1 h).mono fun r q g=>by
  rcases g with⟨_,_,T,N,g1,g2⟩|⟨g,_⟩
  ·exact⟨T,N,g1,g2⟩
  ·exact absurd ⟨by decide,by decide⟩ g
 have hB:∀h,SRun Tryz.prog 74 [] h fun r q=>∃M N,r=gptr M 0 17∧q=(M,⟨byC N 0,false⟩)::(N,⟨nodes by0,false⟩)::h:=NewBytes_any
 have hI:∀h,SRun Tryz.prog 75 [] h fun r q=>∃M N,r=gptr M 0 2∧q=(M,⟨numC N,false⟩)::(N,⟨nodes nu0,false⟩)::h:=NewNumbers_any
 unfold ms0
 generalize by0=X at *
 generalize nu0=Z at *
 generalize List.replicate 2 (1024:Int)=Y at *
 refine w_body0 Tryz.func39 rfl rfl ?_
 repeat'(first|apply zF|apply zB|apply zE|(apply o_g zC;exact rfl;exact rfl)|(apply yE zC;(iterate 4 exact rfl);(focus exact⟨rfl⟩);(focus exact up))|(apply yG zC;iterate 5 exact rfl)|(apply yT zC;exact rfl;exact rfl;(focus first|with_reducible exact pl96);exact rfl;(focus repeat(first|exact BuildR.nil|(apply BuildR.one;exact rfl;exact rfl;(first|(focus(repeat(first|exact SetAt.zero|apply SetAt.succ));done)))));exact rfl)|(apply zD;exact rfl;exact rfl;(focus first|exact rfl);exact rfl;(focus exact⟨_,hT _,by repeat with_reducible exact Take.nil⟩);rintro _ _ ⟨T,N,rfl,rfl⟩)|(apply zD;exact rfl;exact rfl;(focus first|exact rfl);exact rfl;(focus exact⟨_,hB _,by repeat with_reducible exact Take.nil⟩);rintro _ _ ⟨M1,N1,rfl,rfl⟩)|(apply zD;exact rfl;exact rfl;(focus first|exact rfl);exact rfl;(focus exact⟨_,hI _,by repeat with_reducible exact Take.nil⟩);rintro _ _ ⟨M2,N2,rfl,rfl⟩)|apply zA|apply zN|((with_reducible apply Sd.mk);first|exact True.intro)|((with_reducible apply Ln.mk);first|rfl)|((with_reducible apply Pu.mk);first|exact yA rfl)|exact True.intro|intro A)
 rename_i M4 N4
 (apply zL;(exact(show ResS _ _ _ _ [_] from(res_cell zC rfl rfl rfl (by exact pk) (by first|rfl|exact ‹_›|omega|(simp ;first|done|omega)) (by first|rfl|exact ‹_›|omega|(simp ;first|done|omega)) trivial)));(focus exact mk_set T N M1 N1 M4 N4 M2 N2 Y X Z Z h);(focus repeat with_reducible first|exact Take.nil|apply Take.c|apply Take.drop))

theorem rc_max (l:List UInt8)(i m:Int):∀(d e:Nat),1≤e→e≤d→atd l i e m≤(rc l i m d).2
 |0,e,h1,h2=>by omega
 |d+1,e,h1,h2=>by
  rw[rc_succ]
  by_cases h:e=d+1
  ·subst h
   have:((d+1:Nat):Int)=(d:Int)+1:=by omega
   rw[this]
   split
   ·exact Int.le_refl _
   ·omega
  ·have:=rc_max l i m d e h1 (by omega)
   split
   ·show atd l i e m≤atd l i (d+1) m;omega
   ·exact this

theorem rc_mem (l:List UInt8)(i m:Int)(hm:0≤m):∀(d:Nat) (c:Int × Int),c∈(rc l i m d).1→∃e:Nat,1≤e∧e≤d∧c=(atd l i e m,(e:Int))∧2≤c.1∧∀k,1≤k→k<e→atd l i k m<c.1
 |0,c,h=>by cases h
 |d+1,c,h=>by
  rw[rc_succ]at h
  split at h
  ·rename_i hlt
   rcases List.mem_append.1 h with h|h
   ·obtain⟨e,h1,h2,h3⟩:=rc_mem l i m hm d c h
    exact⟨e,h1,by omega,h3⟩
   ·simp only[List.mem_singleton]at h
    subst h
    have hp:=rc_pos l i m hm d
    refine⟨d+1,by omega,Nat.le_refl _,by simp,?_,fun k h1 h2=>?_⟩
    ·rcases atd_range l i ((d:Int)+1) m with h|h
     ·omega
     ·exact h
    ·have:=rc_max l i m d k h1 (by omega)
     show atd l i k m<atd l i (d+1) m;omega
  ·obtain⟨e,h1,h2,h3⟩:=rc_mem l i m hm d c h
   exact⟨e,h1,by omega,h3⟩

def rising :List (Int × Int)→Prop
 |[]=>True
 |[_]=>True
 |a::b::r=>a.1<b.1∧a.2<b.2∧rising (b::r)
theorem rising_snoc :∀{l:List (Int × Int)} {c:Int × Int},rising l→(∀x,l.getLast?=some x→x.1<c.1∧x.2<c.2)→rising (l++[c])
 |[],c,_,_=>trivial
 |[a],c,_,h=>⟨(h a rfl).1,(h a rfl).2,trivial⟩
 |a::b::r,c,h1,h2=>⟨h1.1,h1.2.1,rising_snoc (l:=b::r) h1.2.2 (fun x hx=>h2 x (by rw[List.getLast?_cons_cons];exact hx))⟩
theorem rising_get :∀{l:List (Int × Int)},rising l→∀k,k+1<l.length→l[k]!.1<l[k+1]!.1∧l[k]!.2<l[k+1]!.2
 |[],_,k,h=>by simp at h
 |[_],_,k,h=>by simp at h
 |a::b::r,h1,0,_=>⟨h1.1,h1.2.1⟩
 |a::b::r,h1,k+1,h=>rising_get (l:=b::r) h1.2.2 k (by simpa using h)

theorem rc_last (l:List UInt8)(i m:Int):∀d x,(rc l i m d).1.getLast?=some x→x.1=(rc l i m d).2∧x.2≤d
 |0,x,h=>by cases h
 |d+1,x,h=>by
  rw[rc_succ]at h ⊢
  split at h
  ·rename_i hlt
   rw[if_pos hlt]
   simp only[List.getLast?_append,List.getLast?_singleton,Option.some_or,Option.some.injEq]at h
   subst h
   exact⟨rfl,by simp⟩
  ·rename_i hlt
   rw[if_neg hlt]
   have:=rc_last l i m d x h
   exact⟨this.1,by omega⟩
theorem rc_nil (l:List UInt8)(i m:Int):∀d,(rc l i m d).1=[]→(rc l i m d).2=0
 |0,_=>rfl
 |d+1,h=>by
  rw[rc_succ]at h ⊢
  split at h
  ·simp at h
  ·rename_i hlt;rw[if_neg hlt];exact rc_nil l i m d h
theorem rc_rising (l:List UInt8)(i m:Int):∀d,rising (rc l i m d).1
 |0=>trivial
 |d+1=>by
  rw[rc_succ]
  split
  ·rename_i hlt
   refine rising_snoc (rc_rising l i m d) fun x hx=>?_
   obtain⟨h1,h2⟩:=rc_last l i m d x hx
   exact⟨by rw[h1];exact hlt,by simp only;omega⟩
  ·exact rc_rising l i m d

theorem lcp_ge (l:List UInt8):∀(m i j n:Nat),n≤lcp l i j m↔n≤m∧∀k:Nat,k<n→bat l ((i+k:Nat):Int)=bat l ((j+k:Nat):Int)
 |0,i,j,n=>by
  unfold lcp
  constructor
  ·intro h;exact⟨h,fun k hk=>by omega⟩
  ·exact fun h=>h.1
 |m+1,i,j,0=>by simp
 |m+1,i,j,n+1=>by
  unfold lcp
  split
  ·rename_i he
   rw[Nat.add_le_add_iff_right,lcp_ge l m (i+1) (j+1) n]
   constructor
   ·rintro⟨h1,h2⟩
    refine⟨by omega,fun k hk=>?_⟩
    cases k with
    |zero=>exact he
    |succ k=>have:=h2 k (by omega);rwa [show i+1+k=i+(k+1)by omega,show j+1+k=j+(k+1)by omega]at this
   ·rintro⟨h1,h2⟩
    refine⟨by omega,fun k hk=>?_⟩
    have:=h2 (k+1) (by omega)
    rwa [show i+(k+1)=i+1+k by omega,show j+(k+1)=j+1+k by omega]at this
  ·rename_i he
   constructor
   ·intro h;omega
   ·rintro⟨_,h2⟩
    exact absurd (h2 0 (by omega)) he
abbrev same (l:List UInt8)(i d n:Nat):Prop:=∀k:Nat,k<n→bat l ((i-d+k:Nat):Int)=bat l ((i+k:Nat):Int)
theorem atd_ge (l:List UInt8)(i d n:Nat)(hd:1≤d)(hdi:d≤i)(hi:i≤l.length)(hn:2≤n)(hn2:n≤273):(n:Int)≤atd l i d 273↔i+n≤l.length∧same l i d n:=by
 rw[atd_eq l i d 273 hd hdi hi (by omega)]
 have:=lcp_ge l (min (273:Int) ((l.length:Int)-i)).toNat (i-d) i n
 split
 ·constructor
  ·intro;omega
  ·rintro⟨h1,h2⟩
   have:=this.2 ⟨by omega,h2⟩
   omega
 ·rw[Int.ofNat_le,this]
  constructor
  ·rintro⟨h1,h2⟩;exact⟨by omega,h2⟩
  ·rintro⟨h1,h2⟩;exact⟨by omega,h2⟩
def occ (l:List UInt8)(w:Int)(i:Nat)(t:Pc):Prop :=
 (i<l.length∧t=litP l i)∨∃n d:Nat,t=((n:Int),(d:Int),0)∧2≤n∧n≤273∧1≤d∧(d:Int)≤w∧d≤i∧i+n≤l.length∧same l i d n
theorem occ.fits {l:List UInt8}{w:Int}{i:Nat}{t:Pc}(hw:w≤4096)(h:occ l w i t):fits l i t:=by
 rcases h with⟨h1,rfl⟩|⟨n,d,rfl,h1,h2,h3,h4,h5,h6,_⟩
 ·exact lit_fits h1
 ·exact⟨.inr ⟨by dsimp only;omega,by dsimp only;omega,by dsimp only;omega,by dsimp only;omega,rfl⟩,by dsimp only;omega,by dsimp only;omega⟩
theorem rc_first (l:List UInt8)(i m n:Int)(hm:0≤m)(hn:1≤n):∀(D d:Nat),1≤d→d≤D→n≤atd l i d m→∃k,k<(rc l i m D).1.length∧n≤(rc l i m D).1[k]!.1∧(rc l i m D).1[k]!.2≤d∧∀j,j<k→(rc l i m D).1[j]!.1<n
 |0,d,h1,h2,_=>by omega
 |D+1,d,h1,h2,h3=>by
  have low:∀j,j<(rc l i m D).1.length→(rc l i m D).1[j]!.1≤(rc l i m D).2:=fun j hj=>by
   obtain⟨e,g1,g2,g3,_⟩:=rc_mem l i m hm D _ (bang_mem hj)
   have:=rc_max l i m D e g1 g2
   rw[g3];exact this
  have old:∀d,1≤d→d≤D→n≤atd l i d m→∃k,k<(rc l i m (D+1)).1.length∧n≤(rc l i m (D+1)).1[k]!.1∧(rc l i m (D+1)).1[k]!.2≤d∧∀j,j<k→(rc l i m (D+1)).1[j]!.1<n:=fun d g1 g2 g3=>by
   obtain⟨k,k1,k2,k3,k4⟩:=rc_first l i m n hm hn D d g1 g2 g3
   rw[rc_succ]
   split
   ·have e:∀j,j<(rc l i m D).1.length→((rc l i m D).1++[(atd l i ((D:Int)+1) m,(D:Int)+1)])[j]! = (rc l i m D).1[j]!:=fun j hj=>by
     rw[getElem!_pos _ j (by rw[List.length_append];omega),List.getElem_append_left hj,getElem!_pos _ j hj]
    refine⟨k,by rw[List.length_append];omega,?_,?_,fun j hj=>?_⟩
    ·rw[e k k1];exact k2
    ·rw[e k k1];exact k3
    ·rw[e j (by omega)];exact k4 j hj
   ·exact⟨k,k1,k2,k3,k4⟩
  by_cases hd:d≤D
  ·exact old d h1 hd h3
  ·obtain rfl:d=D+1:=by omega
   rw[show((D+1:Nat):Int)=(D:Int)+1 by omega]at h3
   by_cases hlt:(rc l i m D).2<n
   ·rw[rc_succ,if_pos (by omega)]
    refine⟨(rc l i m D).1.length,by simp,?_,?_,fun j hj=>?_⟩
    ·rw[getElem!_pos _ _ (by simp),List.getElem_append_right (Nat.le_refl _)];simpa using h3
    ·rw[getElem!_pos _ _ (by simp),List.getElem_append_right (Nat.le_refl _)];simp
    ·rw[getElem!_pos _ j (by rw[List.length_append];omega),List.getElem_append_left hj]
     have:=low j hj
     rw[getElem!_pos _ j hj]at this;omega
   ·
    have hne:(rc l i m D).1≠[]:=fun hnil=>by have:=rc_nil l i m D hnil;omega
    obtain⟨x,hx⟩:∃x,(rc l i m D).1.getLast?=some x:=⟨_,List.getLast?_eq_some_getLast hne⟩
    have h5:=rc_last l i m D x hx
    obtain⟨e,g1,g2,g3,_⟩:=rc_mem l i m hm D x (List.mem_of_getLast? hx)
    obtain⟨k,k1,k2,k3,k4⟩:=old e g1 g2 (by rw[g3]at h5;dsimp only at h5;omega)
    exact⟨k,k1,k2,by omega,k4⟩
theorem cands_rc {l:List UInt8}{i:Nat}{w:Int}(hw:1≤w∧w≤4096)(hi:i≤l.length)(hn:l.length≤4096):cands l i w 273=(rc l i 273 (min w i).toNat).1:=by
 rw[cands_eq];unfold rcands;rw[if_pos ⟨⟨hw.1,hw.2,by omega,by omega⟩,by omega,by omega,hn⟩]
theorem trN_mem {d:Int}{lo:Nat}:∀{n m:Nat},lo<m→m≤n→((m:Int),d,(0:Int))∈trN d lo n
 |0,m,_,h=>by omega
 |n+1,m,h1,h2=>by
  unfold trN
  rw[if_pos (by omega)]
  by_cases e:m=n+1
  ·subst e;exact List.mem_cons_self
  ·exact List.mem_cons_of_mem _ (trN_mem h1 (by omega))
theorem trK_mem {cs:List (Int × Int)}{t:Pc}:∀{n k:Nat},k<n→t∈trN cs[k]!.2 (shr cs k) cs[k]!.1.toNat→t∈trK cs n
 |0,k,h,_=>by omega
 |n+1,k,h,ht=>by
  unfold trK
  by_cases e:k=n
  ·subst e;exact List.mem_append_left _ ht
  ·exact List.mem_append_right _ (trK_mem (by omega) ht)
theorem trN_sorted {d:Int}{lo:Nat}:∀{n:Nat},(trN d lo n).Pairwise (fun a b=>b.1<a.1)
 |0=>.nil
 |n+1=>by
  unfold trN
  split
  ·refine List.Pairwise.cons (fun t ht=>?_) trN_sorted
   have:=trN_in ht
   show t.1<((n+1:Nat):Int);omega
  ·exact .nil
theorem trK_in {cs:List (Int × Int)}:∀{k:Nat} {t:Pc},t∈trK cs k→∃j,j<k∧t∈trN cs[j]!.2 (shr cs j) cs[j]!.1.toNat
 |0,t,h=>by cases h
 |k+1,t,h=>by
  rcases List.mem_append.1 h with h|h
  ·exact⟨k,by omega,h⟩
  ·obtain⟨j,h1,h2⟩:=trK_in h;exact⟨j,by omega,h2⟩
theorem rising_lt {cs:List (Int × Int)}(h:rising cs):∀{k j:Nat},j≤k→k<cs.length→cs[j]!.1≤cs[k]!.1
 |0,j,h1,h2=>by
   obtain rfl:j=0:=by omega
   exact Int.le_refl _
 |k+1,j,h1,h2=>by
  by_cases e:j=k+1
  ·subst e;exact Int.le_refl _
  ·have g1:=rising_lt h (k:=k) (j:=j) (by omega) (by omega)
   have g2:=rising_get h k h2
   omega
theorem trK_sorted {cs:List (Int × Int)}(h:rising cs)(hp:∀c∈cs,2≤c.1):∀{k:Nat},k≤cs.length→(trK cs k).Pairwise (fun a b=>b.1<a.1)
 |0,_=>.nil
 |k+1,hk=>by
  unfold trK
  refine List.pairwise_append.2 ⟨trN_sorted,trK_sorted h hp (by omega),fun a ha b hb=>?_⟩
  obtain⟨j,h1,h2⟩:=trK_in hb
  have g1:=trN_in ha
  have g2:=trN_in h2
  have g3:=rising_lt h (k:=k-1) (j:=j) (by omega) (by omega)
  have g4:=hp _ (bang_mem (show k-1<cs.length by omega))
  have g5:=hp _ (bang_mem (show j<cs.length by omega))
  unfold shr at g1
  rw[if_pos (by omega)]at g1
  omega
section
variable {l:List UInt8} {i:Nat} {w:Int} (hw:1≤w∧w≤4096) (hi:i<l.length) (hn:l.length≤4096)
 include hw hi hn
theorem cands_occ {n d:Nat}(hn2:2≤n)(h:((n:Int),(d:Int))∈cands l i w 273):occ l w i ((n:Int),(d:Int),0):=by
 have h0:=cands_in h
 rw[cands_rc hw (by omega) hn]at h
 obtain⟨e,h1,h2,h3,_⟩:=rc_mem l i 273 (by omega) _ _ h
 have h4:=congrArg Prod.fst h3
 have h5:=congrArg Prod.snd h3
 dsimp only at h0 h4 h5
 obtain rfl:d=e:=by omega
 have:=(atd_ge l i d n h1 (by omega) (by omega) hn2 (by omega)).1 (by omega)
 exact .inr ⟨n,d,rfl,hn2,by omega,h1,by omega,by omega,this⟩
theorem tries_sorted :(triesL l i w).Pairwise (fun a b=>b.1<a.1):=by
 unfold triesL
 have hr:rising (cands l i w 273):=by rw[cands_rc hw (by omega) hn];exact rc_rising _ _ _ _
 refine List.pairwise_append.2 ⟨trK_sorted hr (fun c hc=>(cands_in hc).1) (Nat.le_refl _),List.pairwise_singleton _ _,fun a ha b hb=>?_⟩
 obtain rfl:=List.mem_singleton.1 hb
 obtain⟨j,h1,h2⟩:=trK_in ha
 have:=shr_pos h1
 have:=(trN_in h2).1
 show 1<a.1;omega
theorem tries_occ {t:Pc}(ht:t∈triesL l i w):occ l w i t:=by
 rcases List.mem_append.1 ht with ht|ht
 ·obtain⟨j,h1,h2⟩:=trK_in ht
  have g1:=trN_in h2
  have g2:=shr_pos h1
  have g3:=cands_in (bang_mem h1)
  have g4:=bang_mem h1
  obtain⟨a,b,y⟩:=t
  obtain⟨n,rfl⟩:∃n:Nat,a=n:=⟨a.toNat,by dsimp only at g1;omega⟩
  obtain⟨N,D,hND⟩:∃N D:Nat,(cands l i w 273)[j]! = ((N:Int),(D:Int)):=⟨(cands l i w 273)[j]!.1.toNat,(cands l i w 273)[j]!.2.toNat,by rw[Int.toNat_of_nonneg (by omega),Int.toNat_of_nonneg (by omega)]⟩
  rw[hND]at g1 g3 g4
  dsimp only at g1 g3
  rcases cands_occ hw hi hn (by omega) g4 with⟨_,h⟩|⟨n',d',h,k1,k2,k3,k4,k5,k6,k7⟩
  ·have:=congrArg (·.2.1) h;change (D:Int)=0 at this;omega
  ·have e1:=congrArg (·.1) h
   have e2:=congrArg (·.2.1) h
   change (N:Int)=n' at e1
   change (D:Int)=d' at e2
   obtain rfl:N=n':=by omega
   obtain rfl:D=d':=by omega
   exact .inr ⟨n,D,by rw[g1.2.2.1,g1.2.2.2],by omega,by omega,k3,k4,k5,by omega,fun k hk=>k7 k (by omega)⟩
 ·obtain rfl:=List.mem_singleton.1 ht
  exact .inl ⟨hi,rfl⟩
theorem tries_cover {t:Pc}(ht:occ l w i t):∃u∈triesL l i w,u.1=t.1∧u.2.1≤t.2.1∧(t.2.1=0∧u=t∨1≤u.2.1):=by
 rcases ht with⟨h1,rfl⟩|⟨n,d,rfl,h1,h2,h3,h4,h5,h6,h7⟩
 ·exact⟨litP l i,List.mem_append_right _ List.mem_cons_self,rfl,Int.le_refl _,.inl ⟨rfl,rfl⟩⟩
 ·have ha:=(atd_ge l i d n h3 h5 (by omega) h1 h2).2 ⟨h6,h7⟩
  obtain⟨k,k1,k2,k3,k4⟩:=rc_first l i 273 n (by omega) (by omega) (min w i).toNat d h3 (by omega) ha
  rw[←cands_rc hw (by omega) hn]at k1 k2 k3 k4
  have g3:=cands_in (bang_mem k1)
  refine⟨((n:Int),(cands l i w 273)[k]!.2,0),List.mem_append_left _ (trK_mem k1 (trN_mem ?_ (by omega))),rfl,k3,.inr (by dsimp only;omega)⟩
  unfold shr
  split
  ·have:=k4 (k-1) (by omega);omega
  ·omega
end
theorem price_mono {c:Cst}{n d e:Int}{y z:Int}(hc:vC c)(h1:1≤d)(h2:d≤e):price c (n,d,y)≤price c (n,e,z):=by
 unfold price
 dsimp only
 rw[if_neg (by omega),if_neg (by omega)]
 have:iblen d≤iblen e:=by unfold iblen;have:=blen_mono (n:=d.toNat) (m:=e.toNat) (by omega);omega
 have:=Int.mul_le_mul_of_nonneg_left this hc.2.2.1.1
 omega

def kb (a b:St):Prop:=a.1<b.1∨a.1=b.1∧(a.2.1<b.2.1∨a.2.1=b.2.1∧(b.2.2.1<a.2.2.1∨a.2.2.1=b.2.2.1∧a.2.2.2.1<b.2.2.2.1))
theorem kb_trans {a b c:St}(h1:¬kb b a)(h2:¬kb c b):¬kb c a:=by
 unfold kb at *;omega
theorem nxt_set {c:Cst}{T:List St}{i:Nat}{t:Pc}{x:St}(h:1≤t.1):nxt c (T.set i x) i t=nxt c T i t:=by
 unfold nxt
 have:(T.set i x)[i+t.1.toNat]! = T[i+t.1.toNat]!:=by
  simp only[getElem!_def,List.getElem?_set]
  rw[if_neg (by omega)]
 rw[this]
theorem runT_min {c:Cst}{i:Nat}:∀{ts:List Pc} {s:Bool × List St} {x:St},s.1=true→i<s.2.length→s.2[i]! = x→(∀t∈ts,1≤t.1∧t.1<x.2.2.1)→ts.Pairwise (fun a b=>b.1<a.1) →
  ((runT c i ts s).2[i]! = x∨∃t∈ts,(runT c i ts s).2[i]! = nxt c s.2 i t)∧¬kb x (runT c i ts s).2[i]!∧∀t∈ts,¬kb (nxt c s.2 i t) (runT c i ts s).2[i]!
 |[],s,x,_,_,h3,_,_=>⟨.inl h3,by show ¬kb x s.2[i]!;rw[h3];unfold kb;omega,fun t ht=>by cases ht⟩
 |t::ts,s,x,h1,h2,h3,h4,h5=>by
  have ht:=h4 t List.mem_cons_self
  rw[List.pairwise_cons]at h5
  show((runT c i ts (tryS c i s t)).2[i]! = x∨∃u∈t::ts,(runT c i ts (tryS c i s t)).2[i]! = nxt c s.2 i u)∧¬kb x (runT c i ts (tryS c i s t)).2[i]!∧∀u∈t::ts,¬kb (nxt c s.2 i u) (runT c i ts (tryS c i s t)).2[i]!
  by_cases hb:sbet (nxt c s.2 i t) s.2[i]!
  ·have e:tryS c i s t=(true,s.2.set i (nxt c s.2 i t)):=if_pos (.inr hb)
   rw[e]
   obtain⟨g1,g2,g3⟩:=runT_min (c:=c) (i:=i) (ts:=ts) (s:=(true,s.2.set i (nxt c s.2 i t))) (x:=nxt c s.2 i t) rfl (by simpa using h2) (by dsimp only;rw[lzset_bang h2,if_pos rfl]) (fun u hu=>⟨(h4 u (List.mem_cons_of_mem _ hu)).1,h5.1 u hu⟩) h5.2
   refine⟨.inr ?_,?_,fun u hu=>?_⟩
   ·rcases g1 with g1|⟨u,hu,g1⟩
    ·exact⟨t,List.mem_cons_self,g1⟩
    ·exact⟨u,List.mem_cons_of_mem _ hu,by rw[g1];exact nxt_set (h4 u (List.mem_cons_of_mem _ hu)).1⟩
   ·refine kb_trans g2 ?_
    rw[h3]at hb
    unfold kb;unfold sbet at hb;omega
   ·rcases List.mem_cons.1 hu with rfl|hu
    ·exact g2
    ·have:=g3 u hu
     rwa [nxt_set (h4 u (List.mem_cons_of_mem _ hu)).1]at this
  ·have e:tryS c i s t=s:=if_neg (by rintro(h|h);rw[h1]at h;cases h;exact hb h)
   rw[e]
   obtain⟨g1,g2,g3⟩:=runT_min (c:=c) (i:=i) (ts:=ts) h1 h2 h3 (fun u hu=>h4 u (List.mem_cons_of_mem _ hu)) h5.2
   refine⟨?_,g2,fun u hu=>?_⟩
   ·rcases g1 with g1|⟨u,hu,g1⟩
    ·exact .inl g1
    ·exact .inr ⟨u,List.mem_cons_of_mem _ hu,g1⟩
   ·rcases List.mem_cons.1 hu with rfl|hu
    ·refine kb_trans g2 ?_
     rw[h3]at hb
     have:(nxt c s.2 i u).2.2=u:=rfl
     unfold kb;unfold sbet at hb;rw[this];omega
    ·exact g3 u hu
def isMin (c:Cst)(l:List UInt8)(w:Int)(T:List St)(i:Nat):Prop :=
 occ l w i T[i]!.2.2∧T[i]! = nxt c T i T[i]!.2.2∧∀t,occ l w i t→¬kb (nxt c T i t) T[i]!
theorem litP_at (l:List UInt8)(i:Nat):(litP l i).2.1=0:=rfl
theorem nxt_near {c:Cst}(hc:vC c){T:List St}{i:Nat}{t u:Pc}(h1:u.1=t.1)(h2:u.2.1≤t.2.1)(h3:t.2.1=0∧u=t∨1≤u.2.1):¬kb (nxt c T i t) (nxt c T i u):=by
 rcases h3 with⟨_,rfl⟩|h3
 ·unfold kb;omega
 ·obtain⟨a,d,y⟩:=t
  obtain⟨a',e,z⟩:=u
  change a'=a at h1
  subst h1
  have:=price_mono (n:=a') (y:=z) (z:=y) hc h3 h2
  unfold kb nxt
  dsimp only at h2 h3 this ⊢
  omega
theorem parT_last {c:Cst}{l:List UInt8}{w:Int}(hc:vC c):∀{j:Nat},j≤l.length→(parT c l w j).length=l.length+1∧(parT c l w j)[l.length]! = st0
 |0,_=>by
  refine⟨by simp[parT],?_⟩
  unfold parT;rw[getElem!_pos _ _ (by simp),List.getElem_replicate]
 |j+1,hj=>by
  obtain⟨h1,h2⟩:=parT_last (l:=l) hc (w:=w) (j:=j) (by omega)
  refine⟨(parT_ok hc hj).1.1,?_⟩
  show(runT c (l.length-(j+1)) _ (false,parT c l w j)).2[l.length]! = st0
  rw[runT_else (by omega) (by show _<(parT c l w j).length;omega)];exact h2
section
variable {c:Cst} {l:List UInt8} {w:Int} (hc:vC c) (hw:1≤w∧w≤4096) (hn:l.length≤4096)
 include hc hw hn
theorem row_min {i:Nat}(hi:i<l.length){T:List St}(hT:T.length=l.length+1):isMin c l w (rowT c l w i T) i:=by
 have hocc:∀t∈triesL l i w,occ l w i t:=fun t ht=>tries_occ hw hi hn ht
 have hone:∀t,occ l w i t→1≤t.1:=fun t ht=>(ht.fits hw.2).2.2
 have key:∃t∈triesL l i w,(rowT c l w i T)[i]! = nxt c T i t∧∀u∈triesL l i w,¬kb (nxt c T i u) (nxt c T i t):=by
  have hs:=tries_sorted hw hi hn
  have hne:triesL l i w≠[]:=by unfold triesL;simp
  unfold rowT
  revert hocc hs hne
  cases triesL l i w with
  |nil=>intro _ _ h;exact absurd rfl h
  |cons t ts =>
   intro hocc hs _
   rw[List.pairwise_cons]at hs
   show ∃u∈t::ts,(runT c i ts (tryS c i (false,T) t)).2[i]! = nxt c T i u∧_
   have e:tryS c i (false,T) t=(true,T.set i (nxt c T i t)):=if_pos (.inl rfl)
   rw[e]
   obtain⟨g1,g2,g3⟩:=runT_min (c:=c) (i:=i) (ts:=ts) (s:=(true,T.set i (nxt c T i t))) (x:=nxt c T i t) rfl (by simp;omega) (by dsimp only;rw[lzset_bang (by omega),if_pos rfl]) (fun u hu=>⟨hone _ (hocc u (List.mem_cons_of_mem _ hu)),hs.1 u hu⟩) hs.2
   have g3':∀u∈ts,¬kb (nxt c T i u) (runT c i ts (true,T.set i (nxt c T i t))).2[i]!:=fun u hu=>by
    have:=g3 u hu
    rwa [nxt_set (hone _ (hocc u (List.mem_cons_of_mem _ hu)))]at this
   rcases g1 with g1|⟨u,hu,g1⟩
   ·exact⟨t,List.mem_cons_self,g1,fun u hu=>by
     rw[g1]at g2 g3'
     rcases List.mem_cons.1 hu with rfl|hu
     ·exact g2
     ·exact g3' u hu⟩
   ·rw[nxt_set (hone _ (hocc u (List.mem_cons_of_mem _ hu)))]at g1
    refine⟨u,List.mem_cons_of_mem _ hu,g1,fun v hv=>?_⟩
    rw[g1]at g2 g3'
    rcases List.mem_cons.1 hv with rfl|hv
    ·exact g2
    ·exact g3' v hv
 obtain⟨t,h1,h2,h3⟩:=key
 have same:∀u:Pc,1≤u.1→nxt c (rowT c l w i T) i u=nxt c T i u:=fun u hu=>by
  unfold nxt rowT
  rw[runT_else (by omega) (by show i<T.length;omega)]
 have e2:(rowT c l w i T)[i]!.2.2=t:=by rw[h2];rfl
 refine⟨by rw[e2];exact hocc t h1,by rw[e2,same t (hone _ (hocc t h1)),h2],fun u hu=>?_⟩
 rw[same u (hone u hu),h2]
 obtain⟨v,k1,k2,k3,k4⟩:=tries_cover hw hi hn hu
 exact kb_trans (h3 v k1) (nxt_near hc k2 k3 k4)
theorem parT_min :∀{j:Nat},j≤l.length→∀i,l.length-j≤i→i<l.length→isMin c l w (parT c l w j) i
 |0,_,i,h1,h2=>by omega
 |j+1,hj,i,h1,h2=>by
  have hl:=(parT_last (l:=l) (w:=w) hc (j:=j) (by omega)).1
  by_cases e:i=l.length-(j+1)
  ·subst e
   exact row_min hc hw hn h2 hl
  ·have ih:=parT_min (j:=j) (by omega) i (by omega) h2
   have same:∀k,k≠l.length-(j+1)→(parT c l w (j+1))[k]! = (parT c l w j)[k]!:=fun k hk=>by
    show(runT c (l.length-(j+1)) _ (false,parT c l w j)).2[k]! = _
    exact runT_else hk (by show _<(parT c l w j).length;omega)
   have sameN:∀u:Pc,1≤u.1→nxt c (parT c l w (j+1)) i u=nxt c (parT c l w j) i u:=fun u hu=>by
    unfold nxt;rw[same _ (by omega)]
   unfold isMin
   rw[same i e]
   have h3:=(ih.1.fits hw.2).2.2
   exact⟨ih.1,by rw[sameN _ h3];exact ih.2.1,fun t ht=>by rw[sameN t (ht.fits hw.2).2.2];exact ih.2.2 t ht⟩
end
def Cov (l:List UInt8)(w:Int):Nat→List Pc→Prop
 |i,[]=>i=l.length
 |i,t::r=>occ l w i t∧Cov l w (i+t.1.toNat) r
section
variable {c:Cst} {l:List UInt8} {w:Int} {T:List St} (hw:1≤w∧w≤4096)
 (hT:∀i,i<l.length→isMin c l w T i) (hT0:T[l.length]! = st0)
 include hw hT hT0
theorem walkT_cov :∀(f i:Nat),i≤l.length→l.length≤f+i→Cov l w i (walkT T l.length f i)∧costs c (walkT T l.length f i)=T[i]!.1∧((walkT T l.length f i).length:Int)=T[i]!.2.1
 |0,i,h1,h2=>by
  obtain rfl:i=l.length:=by omega
  rw[hT0];exact⟨rfl,rfl,rfl⟩
 |f+1,i,h1,h2=>by
  unfold walkT
  by_cases hi:i<l.length
  ·rw[if_pos hi]
   obtain⟨g1,g2,g3⟩:=hT i hi
   have g4:=g1.fits hw.2
   obtain⟨k1,k2,k3⟩:=walkT_cov f (i+T[i]!.2.2.1.toNat) (by omega) (by omega)
   have e1:=congrArg (·.1) g2
   have e2:=congrArg (·.2.1) g2
   change T[i]!.1=T[i+T[i]!.2.2.1.toNat]!.1+price c T[i]!.2.2 at e1
   change T[i]!.2.1=T[i+T[i]!.2.2.1.toNat]!.2.1+1 at e2
   refine⟨⟨g1,k1⟩,?_,?_⟩
   ·unfold costs;rw[k2,e1];omega
   ·rw[List.length_cons,e2,←k3];omega
  ·rw[if_neg hi]
   obtain rfl:i=l.length:=by omega
   rw[hT0];exact⟨rfl,rfl,rfl⟩
end
section
variable {c:Cst} {l:List UInt8} {w:Int} (hc:vC c) (hw:1≤w∧w≤4096) (hn:l.length≤4096)
 include hc hw hn
theorem parse_eq :parse c l w=(walkT (parT c l w l.length) l.length l.length 0,0):=by
 unfold parse;rw[if_pos ⟨hc,hw⟩,if_neg (by omega)]
theorem parse_cov :Cov l w 0 (parse c l w).1:=by
 rw[parse_eq hc hw hn]
 exact(walkT_cov hw (fun i hi=>parT_min hc hw hn (Nat.le_refl _) i (by omega) hi) (parT_last hc (Nat.le_refl _)).2 l.length 0 (by omega) (by omega)).1
end
theorem cov_vPs {l:List UInt8}{w:Int}(hw:w≤4096):∀{ps:List Pc} {i:Nat},Cov l w i ps→vPs ps
 |[],_,_=>fun t ht=>by cases ht
 |t::r,i,h=>fun u hu=>by
  rcases List.mem_cons.1 hu with rfl|hu
  ·exact(h.1.fits hw).1
  ·exact cov_vPs hw h.2 u hu
theorem cov_short {l:List UInt8}{w:Int}(hw:w≤4096):∀{ps:List Pc} {i:Nat},Cov l w i ps→ps.length+i≤l.length
 |[],i,h=>by have:i=l.length:=h;simp;omega
 |t::r,i,h=>by
  have h1:=h.1.fits hw
  have:=cov_short hw h.2
  rw[List.length_cons];omega

theorem IsPs.has {h q:SH}{ps:List Pc}{v:Value}(k:IsPs h ps v q):Has q (recs pcC ps) 3 ps.length v∧Take q h:=by
 rcases k with⟨rfl,rfl,rfl⟩|⟨_,A,rfl,rfl⟩
 ·exact⟨⟨none,0,rfl,fun g=>absurd rfl g⟩,(by repeat(first|with_reducible exact Take.nil|with_reducible apply Take.c|((with_reducible apply Take.cE);first|exact rfl|(apply blkE;(focus first|exact rfl|exact yI rfl|exact yO rfl|exact congrArg (fun v=>[v]) (gslE rfl rfl (by first|rfl|exact ‹_›|omega|(simp ;first|done|omega)) (by first|rfl|exact ‹_›|omega|(simp ;first|done|omega)) rfl))))|with_reducible apply Take.drop))⟩
 ·exact⟨⟨_,_,rfl,fun _=>⟨A,false,_,rfl,.head⟩⟩,(by repeat(first|with_reducible exact Take.nil|with_reducible apply Take.c|((with_reducible apply Take.cE);first|exact rfl|(apply blkE;(focus first|exact rfl|exact yI rfl|exact yO rfl|exact congrArg (fun v=>[v]) (gslE rfl rfl (by first|rfl|exact ‹_›|omega|(simp ;first|done|omega)) (by first|rfl|exact ‹_›|omega|(simp ;first|done|omega)) rfl))))|with_reducible apply Take.drop))⟩
end Go.Proofs.YteddogfolceahaaGreat
end
section
set_option maxRecDepth 4000
namespace Go.Gh
open Go.RowKit Go.ChangeShapes

theorem vrel_const {φ:Nat→Loc}{L:Lens}:∀{as0:List Value},as0.all yJ=true→VRel φ L as0 as0.toArray
 |as0,h=>⟨by simp,fun i v hi=>⟨v,by simpa using hi,Val.const ((List.all_eq_true.1 h) v (List.mem_of_getElem? hi))⟩⟩

section
variable {H:Type} {enc:TypeId × Value→H} {P:Program}
theorem trodAll_below (hl:laidOutB P=true){W W':World}(hb:Below W.heap.size W W'):∀{ts:List TypeId} {vs:List Value} {ds:List (DataW H)} {ps:List MemPlace},
  (ts.all fun t=>P.readableRec t && decide (t<P.types.size))=true→DataW.TrodAll enc P W 0 (fun _=>true) true ts vs ds ps→(∀x∈ps,x.block<W.heap.size) →
  DataW.TrodAll enc P W' 0 (fun b=>decide (b<W.heap.size)) true ts vs ds ps:=by
 intro ts
 induction ts with
 |nil=>intro vs ds ps _ h _;cases vs <;> cases ds <;> first|exact h|exact h.elim
 |cons t ts ih =>
  intro vs ds ps hr h hlt
  simp only[List.all_cons,Bool.and_eq_true,decide_eq_true_eq]at hr
  cases vs with
  |nil=>exact h.elim
  |cons v vs =>
   cases ds with
   |nil=>exact h.elim
   |cons d ds =>
    obtain⟨p,q,h1,h2,rfl⟩:=h
    exact⟨p,q,Below.trod hl hr.1.1 hr.1.2 h1 hb (fun x hx=>hlt x (List.mem_append_left _ hx)),ih (by simpa using hr.2) h2 (fun x hx=>hlt x (List.mem_append_right _ hx)),rfl⟩

theorem post_law {f:Func}{s:ChangeSpec}{W W':World}{args:Array Value}{ds gs:List (DataW H)}{before:List MemPlace}{tb:TypeId}(hl:laidOutB P=true)
  (hW:DataW.Whole enc P f.params.toList s.vars false W args.toList ds gs before) (hv:s.vars=[]) (hr:(f.params.toList.all fun t=>P.readableRec t && decide (t<P.types.size))=true)
  (ht:f.resultTypes=#[tb]) (hk:P.underlying tb=some .bool) (hs:(s.fn H ds).results=[.lit (.bool true)]∧(s.fn H ds).args=ds∧(s.fn H ds).vars=[]) (hb:Below W.heap.size W W') :
  s.post enc P f false true false false W args (.bool true) W':=by
 have hlt:∀p∈before,p.block<W.heap.size:=fun p hp=>hW.lt p hp
 have hW1:=hW
 obtain⟨p,q,h1,h2,h3,h4,h5⟩:=hW1
 rw[hv]at h2
 have hg:gs=[]∧q=[]:=by
  cases gs with
  |nil=>exact⟨rfl,h2⟩
  |cons g gs=>exact h2.elim
 obtain⟨rfl,rfl⟩:=hg
 rw[List.append_nil]at h3
 subst h3
 refine⟨ds,[],before,[],before,[],hW,?_,?_,?_,World.keptBut_mono (fun x hx=>⟨hx,.inr (.inl hx)⟩) (hb.frame (·∈before)),fun h=>by cases h⟩
 ·rw[List.append_nil,hs.1,ht]
  exact⟨[],[],shut_bool hk true,rfl,rfl⟩
 ·rw[List.append_nil,hs.2.1]
  exact trodAll_below hl hb hr h1 hlt
 ·rw[List.append_nil,hs.2.2,hv];rfl
end
end Go.Gh
namespace Go.Gh
open Go.RowKit
theorem wf_u8 {n:Int}(h:(Lit.int .u8 n).wf=true):0≤n∧n<256:=by simp[Lit.wf,IntKind.min,IntKind.max,IntKind.signed,IntKind.bits]at h;omega
theorem wf_u16 {n:Int}(h:(Lit.int .u16 n).wf=true):0≤n∧n<65536:=by simp[Lit.wf,IntKind.min,IntKind.max,IntKind.signed,IntKind.bits]at h;omega
theorem wf_u32 {n:Int}(h:(Lit.int .u32 n).wf=true):0≤n∧n<4294967296:=by simp[Lit.wf,IntKind.min,IntKind.max,IntKind.signed,IntKind.bits]at h;omega
theorem len_max {l:List UInt8}(h:(⟨⟨l⟩⟩:ByteArray).size≤maxLen):l.length≤9223372036854775807:=by
 have:(⟨⟨l⟩⟩:ByteArray).size=l.length:=rfl
 unfold maxLen at h;omega
end Go.Gh
end
section
set_option maxRecDepth 4000
namespace Go.Gh
open Go.RowKit Go.ChangeShapes Go.WideShapes

structure CB (W:World)(e:Loc × Blk):Prop where
 ro:e.2.ro=true
 mp:e.1.mp=false
 ex:∃c T fz,W.heap[e.1.b]?=some (.cells c T fz)∧c.size=e.1.size∧e.1.base+e.2.cells.length≤c.size∧∀i v,e.2.cells[i]?=some v→c[e.1.base+i]?=some v∧yJ v=true
structure Arg (W:World)(v:Value)(es:List (Loc × Blk))(g:Nat→Value):Prop where
 cb:∀e∈es,CB W e
 val:∀(φ:Nat→Loc) (L:Lens) (k:Nat),(∀(j:Nat) e,es[j]?=some e→φ (k+j)=e.1∧L (k+j)=some e.2.cells.length)→Val φ L (g k) v
theorem arg_const {W:World}{v:Value}(h:yJ v=true):Arg W v [] (fun _=>v):=⟨fun e he=>(by cases he),fun _ _ _ _=>Val.const h⟩
inductive ArgAll (W:World):Nat→List Value→List (Loc × Blk)→List Value→Prop
 |nil {k}:ArgAll W k [] [] []
 |cons {k v vs es es' g as0} (h:Arg W v es g) (r:ArgAll W (k+es.length) vs es' as0):ArgAll W k (v::vs) (es++es') (g k::as0)
def num :Nat→List Blk→SH
 |_,[]=>[]
 |k,b::r=>(k,b)::num (k+1) r
theorem pick_num :∀{l:List Blk} {k j:Nat} {b:Blk},l[j]?=some b→∃h1,Pick (num k l) (k+j) b h1
 |[],k,j,b,h=>by simp at h
 |x::r,k,0,b,h=>by simp only[List.getElem?_cons_zero,Option.some.injEq]at h;subst h;exact⟨_,.head⟩
 |x::r,k,j+1,b,h=>by
  obtain⟨h1,p⟩:=pick_num (k:=k+1) (l:=r) (j:=j) (by simpa using h)
  exact⟨_,.tail (by rw[show k+(j+1)=k+1+j by omega];exact p)⟩
theorem num_sat :∀{l:List Blk} {k:Nat} {x:Nat × Blk},x∈num k l→k≤x.1∧l[x.1-k]?=some x.2
 |[],k,x,h=>by cases h
 |b::r,k,x,h=>by
  rcases List.mem_cons.1 h with rfl|h
  ·simp
  ·obtain⟨h1,h2⟩:=num_sat h
   refine⟨by omega,?_⟩
   rw[show x.1-k=(x.1-(k+1))+1 by omega];simpa using h2
theorem num_nodup :∀(l:List Blk) (k:Nat),((num k l).map (·.1)).Nodup
 |[],_=>List.nodup_nil
 |b::r,k=>by
  simp only[num,List.map_cons,List.nodup_cons]
  refine⟨fun hm=>?_,num_nodup r (k+1)⟩
  obtain⟨x,hx,e⟩:=List.mem_map.1 hm
  have:=(num_sat hx).1
  omega
theorem ArgAll.cb {W:World}{k:Nat}{vs:List Value}{es:List (Loc × Blk)}{as0:List Value}(h:ArgAll W k vs es as0):∀e∈es,CB W e:=by
 induction h with
 |nil=>intro e he;cases he
 |cons h _ ih =>
  intro e he
  rcases List.mem_append.1 he with he|he
  ·exact h.cb e he
  ·exact ih e he
theorem ArgAll.rel {W:World}{k:Nat}{vs:List Value}{es:List (Loc × Blk)}{as0:List Value}(h:ArgAll W k vs es as0)(φ:Nat→Loc)(L:Lens)
  (hφ:∀(j:Nat) e,es[j]?=some e→φ (k+j)=e.1∧L (k+j)=some e.2.cells.length):vs.length=as0.length∧∀(i:Nat) a,as0[i]?=some a→∃v,vs[i]?=some v∧Val φ L a v:=by
 induction h with
 |nil=>exact⟨rfl,fun i a h=>by simp at h⟩
 |@cons k v vs es es' g as0 h _ ih =>
  have h1:=h.val φ L k fun j e he=>hφ j e (by rw[List.getElem?_append_left (List.getElem?_eq_some_iff.1 he).1];exact he)
  obtain⟨h2,h3⟩:=ih fun j e he=>by
   have:=hφ (es.length+j) e (by rw[List.getElem?_append_right (by omega),show es.length+j-es.length=j by omega];exact he)
   rwa [show k+(es.length+j)=k+es.length+j by omega]at this
  refine⟨by simp[h2],fun i a hi=>?_⟩
  cases i with
  |zero=>simp only[List.getElem?_cons_zero,Option.some.injEq]at hi;subst hi;exact⟨v,rfl,h1⟩
  |succ i=>obtain⟨u,g1,g2⟩:=h3 i a (by simpa using hi);exact⟨u,by simpa using g1,g2⟩

theorem calls_args {P:Program}{f:FuncId}{W:World}{vs:List Value}{es:List (Loc × Blk)}{as0:List Value}(ha:ArgAll W 0 vs es as0)(h:SRun P f as0 (num 0 (es.map (·.2))) fun r _=>r=B true) :
  Calls P f vs.toArray W fun e W'=>e=.returned (.bool true)∧Below W.heap.size W W':=by
 unfold SRun at h
 have h1:=h (es.map fun e=>some e.2) (.start (fun x hx=>(by have:=(num_sat hx).2;simpa using this)) (num_nodup _ _))
 unfold Run at h1
 have hcb:=ha.cb
 obtain⟨hl,hv⟩:=ha.rel (fun A=>((es[A]?).map (·.1)).getD ⟨0,0,0,false⟩) (lens (es.map fun e=>some e.2)) fun j e he=>by
  simp only[Nat.zero_add,he,Option.map_some,Option.getD_some,lens,List.getElem?_map,Option.join_some,and_self]
 have get:∀(A:Nat) (g:Blk),(es.map fun e=>some e.2)[A]?=some (some g)→∃e:Loc × Blk,es[A]?=some e∧e.2=g:=fun A g hA=>by
  rw[List.getElem?_map]at hA
  cases he:es[A]? with
  |none=>rw[he]at hA;cases hA
  |some e=>rw[he]at hA;simp only[Option.map_some,Option.some.injEq]at hA;exact⟨e,rfl,hA⟩
 have hro:∀(A:Nat) (g:Blk),(es.map fun e=>some e.2)[A]?=some (some g)→g.ro=true:=fun A g hA=>by
  obtain⟨e,h1,rfl⟩:=get A g hA
  exact(hcb e (List.mem_of_getElem? h1)).ro
 have h2:=h1 W.heap.size W (fun A=>((es[A]?).map (·.1)).getD ⟨0,0,0,false⟩) (lens (es.map fun e=>some e.2)) (fun A=>((es[A]?).map (·.1)).getD ⟨0,0,0,false⟩) W vs.toArray (.refl _ _)
  ⟨Below.refl _ _,Nat.le_refl _,fun A g hA=>by
    obtain⟨e,h1,rfl⟩:=get A g hA
    have hc:=hcb e (List.mem_of_getElem? h1)
    obtain⟨c,T,fz,g1,g2,g3,g4⟩:=hc.ex
    refine⟨⟨.cells c T fz,c,?_,.cells ?_ ?_ (fun hr=>?_),?_,fun i v hi=>?_⟩⟩
    ·simp only[h1,Option.map_some,Option.getD_some];exact g1
    ·simp only[h1,Option.map_some,Option.getD_some];exact hc.mp
    ·simp only[h1,Option.map_some,Option.getD_some];exact g2
    ·rw[hc.ro]at hr;cases hr
    ·simp only[h1,Option.map_some,Option.getD_some];exact g3
    ·simp only[h1,Option.map_some,Option.getD_some];exact⟨v,(g4 i v hi).1,Val.const (g4 i v hi).2⟩,
   fun A g hA hr=>(by rw[hro A g hA]at hr;cases hr),fun A A' g _ hA hr=>by rw[hro A g hA]at hr;cases hr⟩
  ⟨by simp[hl],fun i a hi=>by obtain⟨v,g1,g2⟩:=hv i a hi;exact⟨v,by simpa using g1,g2⟩⟩
 refine h2.mono ?_
 rintro e W' ⟨φ',r,H',v,g1,g2,rfl,g4,q,rfl,g5⟩
 cases g4
 exact⟨rfl,g2.below⟩

theorem has_at {esL es esR:List (Loc × Blk)}(j:Nat)(b:Loc × Blk)(h:es[j]?=some b):∃h1,Pick (num 0 ((esL++(es++esR)).map (·.2))) (esL.length+j) b.2 h1:=by
 have hg:((esL++(es++esR)).map (·.2))[esL.length+j]?=some b.2:=by
  rw[List.getElem?_map,List.getElem?_append_right (by omega),show esL.length+j-esL.length=j by omega,List.getElem?_append_left (List.getElem?_eq_some_iff.1 h).1,h];rfl
 obtain⟨h1,p⟩:=pick_num (k:=0) hg
 rw[Nat.zero_add]at p
 exact⟨h1,p⟩
structure Elem {H:Type}(enc:TypeId × Value→H)(P:Program)(e:TypeId){α:Type}(f:α→List Value)(w:Nat)(ok:α→Prop):Prop where
 cells:P.cellsOf e=w
 pos:0<w
 len:∀y,(f y).length=w
 cst:∀y,∀v∈f y,yJ v=true
 rd:∀{W:World} {base:Nat} {sp:Nat→Bool} {held:Bool} {n:Nat} {cs:List Value} {x:DataW H × List MemPlace},DataW.trod enc P W base sp held n e cs=some x→∃y,cs=f y∧ok y

section
variable {H:Type} {enc:TypeId × Value→H} {P:Program} {W:World} {α:Type} {f:α→List Value} {w:Nat} {ok:α→Prop}
theorem cell_heap {a:Addr}{v:Value}(h:W.cell? a=some v):a.spot=none∧∃c T fz,W.heap[a.block]?=some (.cells c T fz)∧c[a.off]?=some v:=by
 unfold World.cell? at h
 split at h
 ·rename_i c T fz hc
  split at h
  ·cases h
  ·rename_i hs
   exact⟨by cases hsp:a.spot <;> simp_all,c,T,fz,hc,h⟩
 ·cases h
theorem arg_cells [Inhabited α]{t e:TypeId}{base:Nat}{held:Bool}{cs:List Value}{x:DataW H × List MemPlace}{fuel:Nat}(E:Elem enc P e f w ok)(ht:P.underlying t=some (.slice e))
  (hf:DataW.trod enc P W base (fun _=>true) held fuel t cs=some x) :
  ∃(v:Value) (l:List α) (es:List (Loc × Blk)) (g:Nat→Value),cs=[v]∧Arg W v es g∧(∀x∈l,ok x)∧l.length≤maxLen∧∀(h:SH) (k:Nat),(∀(j:Nat) b,es[j]?=some b→∃h1,Pick h (k+j) b.2 h1)→Has h (recs f l) w l.length (g k):=by
 rcases Go.Deep.open_slice ht hf with⟨h0,_⟩|⟨a',len',cap',m,n,D,Pl,h0,hb,hl,hm,hmm,_,hx⟩
 ·subst h0
  exact⟨_,[],[],fun _=>.slice none 0 0,rfl,⟨fun e he=>(by cases he),fun _ _ _ _=>.snil⟩,fun x hx=>(by cases hx),by simp,fun h k _=>⟨none,0,rfl,fun hn=>absurd rfl hn⟩⟩
 ·subst h0
  obtain⟨len,rfl⟩:∃l,l=len':=⟨_,rfl⟩
  obtain⟨cap,rfl⟩:∃l,l=cap':=⟨_,rfl⟩
  simp only[if_true]at hmm
  subst hmm
  by_cases hz:len=0
  ·subst hz
   exact⟨_,[],[],fun _=>.slice (some ⟨0,0,none⟩) 0 0,rfl,⟨fun e he=>(by cases he),fun _ _ _ _=>.sdead _ _ hm⟩,fun x hx=>(by cases hx),by simp,fun h k _=>⟨_,0,rfl,fun hn=>absurd rfl hn⟩⟩
  ·rw[E.cells]at hx
   obtain⟨Y,hY⟩:=Go.Deep.choose_lt (α:=α) (n:=len) (p:=fun i y=>W.cells? base (a'.add (i*w)) w=some (f y)∧ok y) fun i hi=>by
    obtain⟨cs,h1,h2⟩:=hx i (by omega)
    obtain⟨y,rfl,h3⟩:=E.rd h2
    exact⟨y,h1,h3⟩
   have hw:=E.pos
   have hcell:∀i j,i<len→j<w→∃u,(f (Y i))[j]?=some u∧W.cell? ((a'.add (i*w)).add j)=some u:=fun i j hi hj=>by
    obtain⟨_,_,h1⟩:=World.cells?_some (hY i hi).1
    obtain⟨u,hu⟩:∃u,(f (Y i))[j]?=some u:=⟨_,List.getElem?_eq_getElem (by rw[E.len];exact hj)⟩
    exact⟨u,hu,(h1 j hj).trans hu⟩
   obtain⟨u0,_,hu0⟩:=hcell 0 0 (by omega) hw
   obtain⟨hsp,c,T,fz,hc,_⟩:=cell_heap hu0
   simp only[Nat.zero_mul,Addr.add,if_true]at hsp hc
   obtain⟨ab,ao,asp⟩:=a'
   simp only at hsp hc
   subst hsp
   have hget:∀i j,i<len→j<w→∃u,(f (Y i))[j]?=some u∧c[ao+(i*w+j)]?=some u:=fun i j hi hj=>by
    obtain⟨u,h1,h2⟩:=hcell i j hi hj
    rw[Go.Deep.add_add]at h2
    obtain⟨_,c2,T2,fz2,h3,h4⟩:=cell_heap h2
    have eb:(Addr.add ⟨ab,ao,none⟩ (i*w+j)).block=ab:=by unfold Addr.add;split <;> rfl
    have eo:(Addr.add ⟨ab,ao,none⟩ (i*w+j)).off=ao+(i*w+j):=by unfold Addr.add;split <;> simp_all
    rw[eb,hc]at h3
    simp only[Option.some.injEq,Obj.cells.injEq]at h3
    obtain⟨rfl,_,_⟩:=h3
    rw[eo]at h4
    exact⟨u,h1,h4⟩
   have hll:((List.range len).map Y).length=len:=by simp
   have hlY:∀i,i<len→((List.range len).map Y)[i]! = Y i:=fun i hi=>by rw[getElem!_pos _ i (by simpa using hi)];simp
   have hrl:(recs f ((List.range len).map Y)).length=len*w:=by rw[recs_len E.len,hll]
   refine⟨_,(List.range len).map Y,[(⟨ab,ao,c.size,false⟩,⟨recs f ((List.range len).map Y),true⟩)],fun k=>.slice (some ⟨k,0,some (w*len)⟩) len 0,rfl,⟨fun e he=>?_,fun φ L k hφ=>?_⟩,fun x hx=>?_,by rw[hll];omega,fun h k hp=>?_⟩
   ·obtain rfl:=List.mem_singleton.1 he
    refine⟨rfl,rfl,c,T,fz,hc,rfl,?_,fun i u hi=>?_⟩
    ·show ao+(recs f _).length≤c.size
     rw[hrl]
     obtain⟨u,_,h1⟩:=hget (len-1) (w-1) (by omega) (by omega)
     have:=(Array.getElem?_eq_some_iff.1 h1).1
     have e:(len-1)*w+(w-1)+1=len*w:=by
      obtain⟨q,rfl⟩:∃q,len=q+1:=⟨len-1,by omega⟩
      rw[Nat.add_sub_cancel,Nat.add_mul];omega
     omega
    ·have hi2:i<len*w:=by have:=(List.getElem?_eq_some_iff.1 hi).1;rw[hrl]at this;exact this
     have hq:i/w<len:=(Nat.div_lt_iff_lt_mul hw).2 hi2
     have hr:=Nat.mod_lt i hw
     have e:=Nat.div_add_mod' i w
     have hg:=recs_get (l:=(List.range len).map Y) E.len (i:=i/w) (j:=i%w) (by rw[hll];exact hq) hr
     rw[e,hlY _ hq]at hg
     obtain⟨u2,h1,h2⟩:=hget (i/w) (i%w) hq hr
     rw[e]at h2
     have:u=u2:=by
      have h3:=hi.symm.trans (hg.trans h1)
      exact Option.some.inj h3
     subst this
     exact⟨h2,E.cst _ _ (List.mem_of_getElem? h1)⟩
   ·obtain⟨h1,h2⟩:=hφ 0 _ rfl
    rw[Nat.add_zero]at h1 h2
    exact .slc k 0 (w*len) (w*len) len 0 _ ⟨ab,ao,none⟩ (by rw[h2,hrl,Nat.mul_comm]) (Nat.le_refl _) hl hm fun _=>⟨by rw[h1];rfl,fun h=>absurd rfl h,by rw[h1]⟩
   ·obtain⟨i,hi,rfl⟩:=List.mem_map.1 hx
    exact(hY i (List.mem_range.1 hi)).2
   ·obtain⟨h1,p⟩:=hp 0 _ rfl
    rw[hll]
    exact⟨_,0,rfl,fun _=>⟨k,true,h1,rfl,p⟩⟩

theorem arg_slice [Inhabited α]{t e:TypeId}{base:Nat}{held:Bool}{v:Value}{d:DataW H}{ps:List MemPlace}{r:Reach}{b0:Nat}(E:Elem enc P e f w ok)(ht:P.underlying t=some (.slice e))(hval:Value.okWide P W r b0 t v)
  (hd:DataW.Trod enc P W base (fun _=>true) held t v d ps) :
  ∃(l:List α) (es:List (Loc × Blk)) (g:Nat→Value),Arg W v es g∧(∀x∈l,ok x)∧l.length≤maxLen∧∀(h:SH) (k:Nat),(∀(j:Nat) b,es[j]?=some b→∃h1,Pick h (k+j) b.2 h1)→Has h (recs f l) w l.length (g k):=by
 obtain⟨a,len,cap,rfl⟩:=okWide_slice ht hval
 obtain⟨fuel,hf⟩:=hd
 simp only[Value.cells]at hf
 obtain⟨v,l,es,g,h1,h2⟩:=arg_cells E ht hf
 obtain rfl:_=v:=by simpa using h1
 exact⟨l,es,g,h2⟩

structure C1 {H:Type}(enc:TypeId × Value→H)(P:Program)(e:TypeId){α:Type}(f:α→Value)(ok:α→Prop):Prop where
 cells:P.cellsOf e=1
 cst:∀y,yJ (f y)=true
 rd:∀{W:World} {base:Nat} {sp:Nat→Bool} {held:Bool} {n:Nat} {cs:List Value} {x:DataW H × List MemPlace},DataW.trod enc P W base sp held n e cs=some x→∃y,cs=[f y]∧ok y
theorem c1_int {e:TypeId}{k:IntKind}(he:P.underlying e=some (.int k))(hc:P.cellsOf e=1):C1 enc P e (fun z=>.int k z) (fun z=>(Lit.int k z).wf=true) :=
 ⟨hc,fun _=>rfl,fun h=>let ⟨n,h1,_,h2⟩:=DataW.trod_int he h;⟨n,h1,h2⟩⟩
theorem c1_str {e:TypeId}(he:P.underlying e=some .string)(hc:P.cellsOf e=1):C1 enc P e (fun l=>S l) (fun l=>l.length≤9223372036854775807) :=
 ⟨hc,fun _=>rfl,fun h=>by
  obtain⟨s,h1,_,h2⟩:=DataW.trod_string he h
  obtain⟨l,rfl⟩:=str_eq s
  exact⟨l,h1,len_max h2⟩⟩
theorem el_two {e:TypeId}{f0 f1:Field}{α β:Type}{g0:α→Value}{g1:β→Value}{ok0:α→Prop}{ok1:β→Prop}(he:P.underlying e=some (.struct #[f0,f1]))(hc:P.cellsOf e=2)(o0:f0.offset=0)(o1:f1.offset=1)
  (h0:C1 enc P f0.type g0 ok0) (h1:C1 enc P f1.type g1 ok1):Elem enc P e (fun y:α × β=>[g0 y.1,g1 y.2]) 2 (fun y=>ok0 y.1∧ok1 y.2) :=
 ⟨hc,by decide,fun _=>rfl,fun y v hv=>by
  rcases List.mem_cons.1 hv with rfl|hv
  ·exact h0.cst _
  ·obtain rfl:=List.mem_singleton.1 hv;exact h1.cst _,fun {W base sp held n cs x} h=>by
  obtain⟨xs,k,_,_,hl,hxs,hf⟩:=DataW.trod_struct he h
  rw[hc]at hl
  match xs,hxs with
  |[y0,y1],_ =>
   have q0:=hf 0 f0 rfl
   have q1:=hf 1 f1 rfl
   simp only[o0,o1,h0.cells,h1.cells,List.drop_zero,List.getElem?_cons_zero,List.getElem?_cons_succ]at q0 q1
   obtain⟨z0,r0,k0⟩:=h0.rd q0
   obtain⟨z1,r1,k1⟩:=h1.rd q1
   refine⟨(z0,z1),?_,k0,k1⟩
   match cs,hl with
   |[c0,c1],_=>simp at r0 r1;simp[r0,r1]⟩
structure Flds {H:Type}(enc:TypeId × Value→H)(P:Program)(fs:List Field)(o:Nat){α:Type}(f:α→List Value)(w:Nat)(ok:α→Prop):Prop where
 len:∀y,(f y).length=w
 cst:∀y,∀v∈f y,yJ v=true
 rd:∀{W:World} {base:Nat} {sp:Nat→Bool} {held:Bool} {n:Nat} {cs:List Value},cs.length=o+w→(∀fl∈fs,∃x,DataW.trod enc P W base sp held n fl.type ((cs.drop fl.offset).take (P.cellsOf fl.type))=some x)→∃y,cs.drop o=f y∧ok y
theorem Flds.last {fl:Field}{o:Nat}(ho:fl.offset=o)(E:Elem enc P fl.type f w ok):Flds enc P [fl] o f w ok :=
 ⟨E.len,E.cst,fun {W base sp held n cs} hl h=>by
  obtain⟨x,hx⟩:=h fl (by simp)
  rw[ho,E.cells,List.take_of_length_le (by rw[List.length_drop];omega)]at hx
  exact E.rd hx⟩
theorem Flds.cons {β:Type}{g:β→List Value}{w2:Nat}{ok2:β→Prop}{fl:Field}{fs:List Field}{o:Nat}(ho:fl.offset=o)(E:Elem enc P fl.type f w ok)(r:Flds enc P fs (o+w) g w2 ok2) :
  Flds enc P (fl::fs) o (fun y:α × β=>f y.1++g y.2) (w+w2) (fun y=>ok y.1∧ok2 y.2) :=
 ⟨fun y=>by rw[List.length_append,E.len,r.len],fun y v hv=>by
  rcases List.mem_append.1 hv with hv|hv
  ·exact E.cst _ _ hv
  ·exact r.cst _ _ hv,fun {W base sp held n cs} hl h=>by
  obtain⟨x,hx⟩:=h fl (by simp)
  rw[ho,E.cells]at hx
  obtain⟨y1,h1,k1⟩:=E.rd hx
  obtain⟨y2,h2,k2⟩:=r.rd (by omega) (fun z hz=>h z (by simp[hz]))
  refine⟨(y1,y2),?_,k1,k2⟩
  dsimp only
  rw[←h1,←h2,←List.drop_drop,List.take_append_drop]⟩
end
end Go.Gh
end
section
set_option maxRecDepth 4000
namespace Go.Proofs.YteddogfolceahaaGreat
open Go.Gh Go.RowKit

def cst (c:Cst)(l:List UInt8)(w:Int):Int:=costs c (parse c l w).1
section
variable {c:Cst} {l:List UInt8} {w:Int} (hc:vC c) (hw:1≤w∧w≤4096) (hn:l.length≤4096)
 include hc hw hn
end

theorem byt_bat {l:List UInt8}{i:Nat}(h:i<l.length):byt (bat l (i:Int))=l[i]:=by
 unfold byt bat
 rw[Int.toNat_natCast,Int.toNat_natCast,List.getD_eq_getElem?_getD,List.getElem?_eq_getElem h,Option.getD_some,UInt8.ofNat_toNat]
theorem bat_inj {l:List UInt8}{i j:Nat}(hi:i<l.length)(hj:j<l.length)(h:bat l (i:Int)=bat l (j:Int)):l[i]=l[j]:=by
 rw[←byt_bat hi,←byt_bat hj,h]
theorem copyN_take {l:List UInt8}{d:Nat}(hd:1≤d):∀(n i:Nat),d≤i→i+n≤l.length→same l i d n→copyN d n (l.take i)=l.take (i+n)
 |0,i,_,_,_=>rfl
 |n+1,i,h1,h2,h3=>by
  have hl:(l.take i).length=i:=by rw[List.length_take];omega
  have e:(l.take i)[(l.take i).length-d]! = l[i]'(by omega):=by
   rw[getElem!_pos _ _ (by omega),List.getElem_take]
   have:=h3 0 (by omega)
   simp only[Nat.add_zero]at this
   simp only[hl]
   exact bat_inj (by omega) (by omega) this
  rw[copyN,e,List.take_append_getElem (by omega),copyN_take hd n (i+1) (by omega) (by omega) (fun k hk=>by
   have:=h3 (k+1) (by omega)
   rwa [show i-d+(k+1)=i+1-d+k by omega,show i+(k+1)=i+1+k by omega]at this)]
  congr 1;omega
theorem cov_bytes {l:List UInt8}{w:Int}:∀{ps:List Pc} {i:Nat},Cov l w i ps→bytesOk ps
 |[],_,_=>fun t ht=>by cases ht
 |t::r,i,h=>fun u hu=>by
  rcases List.mem_cons.1 hu with rfl|hu
  ·rcases h.1 with⟨_,rfl⟩|⟨n,d,rfl,_⟩
   ·have:=bat_lo l i;have:=bat_hi l i;show 0≤bat l i∧bat l i≤255;omega
   ·exact⟨Int.le_refl _,by show(0:Int)≤255;omega⟩
  ·exact cov_bytes h.2 u hu
end Go.Proofs.YteddogfolceahaaGreat
end
