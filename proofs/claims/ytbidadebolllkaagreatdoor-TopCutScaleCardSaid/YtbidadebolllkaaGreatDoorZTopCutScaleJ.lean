/- Part 10 of the proof of the law TopCutScale: texts merged. No condition. -/
import Derived.Test.YtbidadebolllkaaGreatDoorZTopCutScaleI
set_option linter.unusedSimpArgs false
set_option linter.unusedVariables false
section
set_option maxRecDepth 4000
namespace Go.Proofs.YtbidadebolllkaaGreatDoor
open Go.Gh Go.RowKit

def wT (k w f e:Int)(cs:List Chg):List Chg:=win (nrm k (ini k w) (shf k w cs f)) 0 (e-f)
theorem yGo {t:Int}{cs:List Chg}:cs.take (fi t cs)=cs.takeWhile (λc=>decide (c.1<t)):=by
 unfold fi
 conv=>lhs;arg 2;rw[<-List.takeWhile_append_dropWhile (p:=λc:Chg=>decide (c.1<t)) (l:=cs)]
 exact List.take_left' rfl
theorem zOu {t:Int}{cs:List Chg}:cs.drop (fi t cs)=cs.dropWhile (λc=>decide (c.1<t)):=by
 unfold fi
 conv=>lhs;arg 2;rw[<-List.takeWhile_append_dropWhile (p:=λc:Chg=>decide (c.1<t)) (l:=cs)]
 exact List.drop_left' rfl
theorem yKz {t:Int}{cs:List Chg}(h:nd t cs):fi t cs=0:=by
 cases cs with
 |nil=>rfl
 |cons c r =>
  unfold fi;rw[List.takeWhile_cons_of_neg (by rw[decide_eq_true_eq];have:=h.1;omega)];rfl
theorem cJ {b:Int}{cs:List Chg}(h:nd 0 cs):win cs 0 b=cs.takeWhile (λc=>decide (c.1<b+1)):=by
 unfold win;rw[yKz h];exact yGo
theorem yLw {q:Chg->Bool}{cs:List Chg}:∀{a:Int},ino a cs->ino a (cs.takeWhile q):=by
 induction cs with
 |nil=>intro a _;trivial
 |cons c r ih =>
  intro a h;rw[List.takeWhile_cons];split
  ·exact⟨h.1,ih h.2⟩
  ·trivial
theorem yLn {k:Int}{q:Chg->Bool}{cs:List Chg}:∀{v:List UInt8},chn k v cs->chn k v (cs.takeWhile q):=by
 induction cs with
 |nil=>intro v _;trivial
 |cons c r ih =>
  intro v h;rw[List.takeWhile_cons];split
  ·exact⟨h.1,ih h.2⟩
  ·trivial
theorem zYh {m:Int}{cs:List Chg}:∀c∈cs.takeWhile (λc=>decide (c.1<m)),c.1<m:=λc h=>of_decide_eq_true (List.all_eq_true.1 List.all_takeWhile c h)
theorem zTl {f:Int}{cs:List Chg}:∀{a:Int},nd a cs->nd (a-f) (cs.map λc=>(c.1+-f,c.2)):=by
 induction cs with
 |nil=>intro a _;trivial
 |cons c r ih =>
  intro a h;refine⟨by show a-f<=c.1+-f;have:=h.1;omega,?_⟩;have:=ih h.2;show nd (c.1+-f) _;rwa [show c.1+-f=c.1-f by omega]
theorem zKi {f t:Int}{cs:List Chg}:∀{v:List UInt8},vat v (cs.map λc=>(c.1+-f,c.2)) t=vat v cs (t+f):=by
 induction cs with
 |nil=>intros;rfl
 |cons c r ih =>
  intro v;show(if c.1+-f<=t then vat c.2 _ t else v)=if c.1<=t+f then vat c.2 r (t+f)else v
  rw[ih];by_cases h:c.1<=t+f
  ·rw[if_pos h,if_pos (by omega)]
  ·rw[if_neg h,if_neg (by omega)]
theorem yMp {q:Chg->Bool}{cs:List Chg}:∀{a:Int},nd a cs->nd a (cs.filter q):=by
 induction cs with
 |nil=>intro a _;trivial
 |cons c r ih =>
  intro a h;rw[List.filter_cons];split
  ·exact⟨h.1,ih h.2⟩
  ·exact sU h.1 (ih h.2)
theorem yLt {cs:List Chg}{a b:Int}(h:nd a cs)(hb:∀c∈cs,b<=c.1):nd b cs:=by
 cases cs with
 |nil=>trivial
 |cons c r=>exact⟨hb c List.mem_cons_self,h.2⟩
theorem dK {k w f:Int}{cs:List Chg}(hf:0<=f)(h:ino (-1) cs):nd 0 (shf k w cs f):=by
 unfold shf;split
 ·unfold fil
  have h1:=zTl (f:=f) (yMp (q:=λc=>decide (0<=c.1+-f)) (rD h));refine yLt h1 λc hc=>?_;obtain⟨x,hx,rfl⟩:=List.mem_map.1 hc;exact of_decide_eq_true (List.mem_filter.1 hx).2
 ·refine⟨Int.le_refl _,?_⟩
  rw[zOu];have h1:=zTl (f:=f) (nT (m:=f+1) (rD h));exact sU (by omega) h1
theorem yGl {k w f t:Int}{cs:List Chg}(hk:k≠3)(hf:0<=f)(ht:0<=t)(h:ino (-1) cs):vat (ini k w) (shf k w cs f) t=vat (ini k w) cs (t+f):=by
 unfold shf;have h0:=rD h;by_cases hf0:f=0
 ·rw[if_pos (.inl hf0)]
  subst hf0;unfold fil;rw[List.filter_eq_self.2 λc hc=>decide_eq_true (by have:=zCb h0 c hc;omega)];exact zKi
 ·rw[if_neg (by rintro(g|g);exact hf0 g;exact hk g)]
  show(if(0:Int)<=t then vat (atv k w cs f) _ t else _)=_;rw[if_pos ht,zKi,zOu,zAm hk h0];have:=zKk (m:=f+1) (t:=t+f) (by omega) (v:=ini k w) h0;rw[Int.add_sub_cancel]at this;exact this
theorem zUx {k w f e:Int}{cs:List Chg}(hf:0<=f)(he:e<=1099511627776)(hn:Nf k w cs):Nf k w (wT k w f e cs)/\∀c∈wT k w f e cs,c.1<=e-f:=by
 have hS:=dK (k:=k) (w:=w) hf hn.io;have hN:=oZ k (ini k w) (-1) (show nd (-1+1) _ from hS);have hW:wT k w f e cs=(nrm k (ini k w) (shf k w cs f)).takeWhile (λc=>decide (c.1<e-f+1)):=cJ (rD hN);rw[hW];have hL:∀c∈(nrm k (ini k w) (shf k w cs f)).takeWhile (λc=>decide (c.1<e-f+1)),c.1<=e-f:=λc hc=>by have:=zYh c hc;omega
 exact⟨⟨yLw hN,yLn (bI _ _),λc hc=>by have:=hL c hc;omega⟩,hL⟩
theorem yJm {k w f e t:Int}{cs:List Chg}(hk:k≠3)(hf:0<=f)(h:ino (-1) cs)(ht:0<=t)(hte:t<=e-f):vat (ini k w) (wT k w f e cs) t=vat (ini k w) cs (t+f):=by
 have hS:=dK (k:=k) (w:=w) hf h;have hN:=oZ k (ini k w) (-1) (show nd (-1+1) _ from hS);have hW:wT k w f e cs=(nrm k (ini k w) (shf k w cs f)).takeWhile (λc=>decide (c.1<e-f+1)):=cJ (rD hN);have:=zCs (m:=e-f+1) (t:=t) (X:=[]) trivial (v:=ini k w) (rD hN);rw[List.append_nil,if_pos (by omega)]at this;rw[hW,this,zAt hk _ 0 t hS,yGl hk hf ht h]
theorem zQx {k w f e:Int}{cs:List Chg}(hf:0<=f)(hn:Nf k w cs):∀c∈wT k w f e cs,∃d∈cs,c.2=d.2:=by
 have hS:=dK (k:=k) (w:=w) hf hn.io;have hN:=oZ k (ini k w) (-1) (show nd (-1+1) _ from hS);have hW:wT k w f e cs=(nrm k (ini k w) (shf k w cs f)).takeWhile (λc=>decide (c.1<e-f+1)):=cJ (rD hN);rw[hW];intro c hc;have hc:=zQo c hc;unfold shf at hc;split at hc
 ·obtain⟨x,hx,rfl⟩:=List.mem_map.1 (sX _ _ c hc)
  exact⟨x,(List.mem_filter.1 hx).1,rfl⟩
 ·rename_i g
  have hat:atv k w cs f=ini k w\/∃d∈cs,atv k w cs f=d.2:=by
   unfold atv;split
   ·exact .inl rfl
   ·rename_i q
    have:=@kQ (f+1) cs;exact .inr ⟨_,xD (i:=fi (f+1) cs-1) (by omega),rfl⟩
  have hr:∀c∈(cs.drop (fi (f+1) cs)).map (λc=>((c.1+-f,c.2):Chg)),∃d∈cs,c.2=d.2:=λc hc=>by
   obtain⟨x,hx,rfl⟩:=List.mem_map.1 hc;exact⟨x,List.mem_of_mem_drop hx,rfl⟩
  rcases hat with hat|⟨d,hd,hat⟩
  ·have hk:k≠3:=λq=>g (.inr q)
   unfold nrm at hc;rw[if_pos (.inr ⟨hk,hat⟩)]at hc;exact hr c (sX _ _ c hc)
  ·rcases List.mem_cons.1 (sX _ _ c hc)with rfl|hc
   ·exact⟨d,hd,hat⟩
   ·exact hr c hc
theorem zWf {k w f e:Int}{cs:List Chg}:(wT k w f e cs).length<=cs.length+1:=by
 unfold wT win;have h1:=oY k (shf k w cs f) (ini k w);have h2:(shf k w cs f).length<=cs.length+1:=by
  unfold shf;split
  ·have:=bS (-f) cs;omega
  ·rw[List.length_cons,List.length_map,List.length_drop];omega
 rw[List.length_take,List.length_drop];omega
def clp (f e:Int)(g:Int × Int):Int × Int:=(max g.1 f,min g.2 e)
def cgs (f e:Int)(ga:List (Int × Int)):List (Int × Int):=(ga.map (clp f e)).filter λg=>decide (g.1<g.2)
def mrg (O:List (Int × Int))(g:Int × Int):List (Int × Int):=if O≠[]/\g.1<=O[O.length-1]!.2 then O.take (O.length-1)++[(O[O.length-1]!.1,max O[O.length-1]!.2 g.2)] else O++[g]
def jnd (ga:List (Int × Int)):List (Int × Int):=ga.foldl mrg []
def cga (f e:Int)(ga:List (Int × Int)):List (Int × Int):=(jnd (cgs f (e+1) ga)).map λg=>(g.1-f,g.2-f)
theorem zVp {f e:Int}{ga:List (Int × Int)}:∀{b:Int},gch b ga->gch (max b (f-1)) (cgs f e ga):=by
 induction ga with
 |nil=>intro b _;trivial
 |cons g r ih =>
  intro b h;obtain⟨h1,h2,h3⟩:=h;have:=ih h3;show gch _ ((clp f e g::r.map (clp f e)).filter _);rw[List.filter_cons];split
  ·rename_i hc
   have hc:max g.1 f<min g.2 e:=of_decide_eq_true hc;exact⟨by show max b (f-1)<max g.1 f;omega,hc,zEj (show min g.2 e<=max g.2 (f-1)by omega) this⟩
  ·exact zEj (by omega) this
theorem zJe {f e:Int}{ga:List (Int × Int)}{x:Int × Int}:x∈cgs f e ga↔∃g∈ga,x=clp f e g/\x.1<x.2:=by
 unfold cgs;rw[List.mem_filter,List.mem_map,decide_eq_true_eq];constructor
 ·rintro⟨⟨g,hg,rfl⟩,h⟩;exact⟨g,hg,rfl,h⟩
 ·rintro⟨g,hg,rfl,h⟩;exact⟨⟨g,hg,rfl⟩,h⟩
theorem zRy {α:Type}[Inhabited α]{O:List α}{x:α}:(O++[x])[(O++[x]).length-1]! = x:=by
 rw[List.length_append,List.length_singleton,Nat.add_sub_cancel];exact eW rfl
theorem zXn {ga:List (Int × Int)}:∀{O:List (Int × Int)} {b:Int},gch b ga->(O≠[]->O[O.length-1]!.2<=b)->ga.foldl mrg O=O++ga:=by
 induction ga with
 |nil=>intro O b _ _;exact(List.append_nil O).symm
 |cons g r ih =>
  intro O b h hO;obtain⟨h1,h2,h3⟩:=h;rw[List.foldl_cons,show mrg O g=O++[g] from if_neg (by rintro⟨q1,q2⟩;have:=hO q1;omega),ih h3 (λ_=>by rw[zRy];exact Int.le_refl _),List.append_assoc];rfl
theorem yEd {ga:List (Int × Int)}{b:Int}(h:gch b ga):jnd ga=ga:=by
 unfold jnd;rw[zXn h λq=>absurd rfl q];rfl
theorem zYk {f:Int}{ga:List (Int × Int)}:∀{b:Int},gch b ga->gch (b-f) (ga.map λg=>(g.1-f,g.2-f)):=by
 induction ga with
 |nil=>intro b _;trivial
 |cons g r ih =>
  intro b h;obtain⟨h1,h2,h3⟩:=h;exact⟨by show b-f<g.1-f;omega,by show g.1-f<g.2-f;omega,ih h3⟩
theorem eE {f e:Int}{ga:List (Int × Int)}{b:Int}(h:gch b ga):cga f e ga=(cgs f (e+1) ga).map λg=>(g.1-f,g.2-f):=by
 unfold cga;rw[yEd (zVp h)]
theorem zEl {f e en:Int}{ga:List (Int × Int)}(hf:0<=f)(hfe:f<=e)(hen:e<=en)(hg:Gp en ga):Gp (e-f) (cga f e ga):=by
 obtain⟨g1,g2,g3⟩:=hg;rw[eE g2];refine⟨by omega,zEj (by omega) (zYk (f:=f) (zVp (f:=f) (e:=e+1) g2)),λg hg=>?_⟩;obtain⟨x,hx,rfl⟩:=List.mem_map.1 hg;obtain⟨y,hy,rfl,-⟩:=zJe.1 hx;show min y.2 (e+1)-f<=_;omega
theorem zZi {f e en t:Int}{ga:List (Int × Int)}(hen:e<=en)(ht:0<=t)(hte:t<=e-f)(hg:Gp en ga)(hi:ing (e-f) (cga f e ga) t=true):ing en ga (t+f)=true:=by
 obtain⟨g1,g2,g3⟩:=hg;rw[eE g2]at hi;obtain⟨g,hg,hq⟩:=List.any_eq_true.1 hi;have hq:=of_decide_eq_true hq;obtain⟨x,hx,rfl⟩:=List.mem_map.1 hg;obtain⟨y,hy,rfl,-⟩:=zJe.1 hx;refine List.any_eq_true.2 ⟨y,hy,decide_eq_true ?_⟩;have hq:max y.1 f-f<=t/\(t<min y.2 (e+1)-f\/e-f<min y.2 (e+1)-f):=hq;omega
theorem yEq {f e en t:Int}{ga:List (Int × Int)}(hte:e-f<t)(hg:Gp (e-f) (cga f e ga))(hi:ing (e-f) (cga f e ga) t=true):ing (e-f) (cga f e ga) (e-f)=true:=by
 obtain⟨g,hg1,hq⟩:=List.any_eq_true.1 hi;have hq:=of_decide_eq_true hq;refine List.any_eq_true.2 ⟨g,hg1,decide_eq_true ?_⟩;have:=hg.le g hg1;have:=(pR hg.ch g hg1).2;omega
theorem yBq {w f e en:Int}{ga:List (Int × Int)}{cs:List Chg}(hf:0<=f)(hfe:f<=e)(hen:e<=en)(hg:Gp en ga)(hn:Nf 0 w cs)(ho:Off w en ga cs):Off w (e-f) (cga f e ga) (wT 0 w f e cs):=by
 have hg2:=zEl hf hfe hen hg;have key:∀t,0<=t->t<=e-f->ing (e-f) (cga f e ga) t=true->vat (ini 0 w) (wT 0 w f e cs) t=ini 0 w:=λt h1 h2 hi=>by
  rw[yJm (by decide) hf hn.io h1 h2];exact ho (t+f) (by omega) (zZi hen h1 h2 hg hi)
 intro t ht hi;by_cases hte:t<=e-f
 ·exact key t ht hte hi
 ·have h1:=key (e-f) (by omega) (Int.le_refl _) (yEq (en:=en) (by omega) hg2 hi)
  have hS:=dK (k:=0) (w:=w) hf hn.io;have hN:=oZ 0 (ini 0 w) (-1) (show nd (-1+1) _ from hS);have hW:wT 0 w f e cs=(nrm 0 (ini 0 w) (shf 0 w cs f)).takeWhile (λc=>decide (c.1<e-f+1)):=cJ (rD hN);have h2:∀s,vat (ini 0 w) (wT 0 w f e cs) s=if s<e-f+1 then vat (ini 0 w) (nrm 0 (ini 0 w) (shf 0 w cs f)) s else vat (ini 0 w) (nrm 0 (ini 0 w) (shf 0 w cs f)) (e-f):=λs=>by
   have:=zCs (m:=e-f+1) (t:=s) (X:=[]) trivial (v:=ini 0 w) (rD hN);rw[List.append_nil,Int.add_sub_cancel]at this;rw[hW,this];rfl
  rw[h2,if_neg (by omega)];rw[h2,if_pos (by omega)]at h1;exact h1
theorem zVx {p t:Int}(hp:1<=p){cs:List Chg}:∀{v:List UInt8},vat v (scl p cs) t=vat v cs (t/p):=by
 induction cs with
 |nil=>intros;rfl
 |cons c r ih =>
  intro v;show(if c.1*p<=t then vat c.2 (scl p r) t else v)=if c.1<=t/p then vat c.2 r (t/p)else v
  rw[ih];by_cases h:c.1*p<=t
  ·rw[if_pos h,if_pos ((Int.le_ediv_iff_mul_le (by omega)).2 h)]
  ·rw[if_neg h,if_neg λq=>h ((Int.le_ediv_iff_mul_le (by omega)).1 q)]
theorem yAr {p:Int}(hp:1<=p){cs:List Chg}:∀{a:Int},ino a cs->ino (a*p) (scl p cs):=by
 induction cs with
 |nil=>intro a _;trivial
 |cons c r ih=>intro a h;exact⟨(lE hp).2 h.1,ih h.2⟩
theorem yKq {p k:Int}{cs:List Chg}:∀{v:List UInt8},chn k v cs->chn k v (scl p cs):=by
 induction cs with
 |nil=>intro a _;trivial
 |cons c r ih=>intro a h;exact⟨h.1,ih h.2⟩
theorem zYi {cs:List Chg}{a b:Int}(h:ino a cs)(hb:∀c∈cs,b<c.1):ino b cs:=by
 cases cs with
 |nil=>trivial
 |cons c r=>exact⟨hb c List.mem_cons_self,h.2⟩
def gsc (p en:Int)(g:Int × Int):Int × Int:=(g.1*p,if g.2=en+1 then en*p+1 else g.2*p)
theorem zUr {p k w en:Int}(hp:1<=p){cs:List Chg}(hn:Nf k w cs)(hle:∀c∈cs,c.1<=en)(hen:en*p<=1099511627776):Nf k w (scl p cs)/\∀c∈scl p cs,c.1<=en*p:=by
 obtain⟨n1,n2,n3⟩:=hn;have hb:∀c∈scl p cs,c.1<=en*p:=λc hc=>by
  obtain⟨x,hx,rfl⟩:=List.mem_map.1 hc;exact(tS hp).2 (hle x hx)
 refine⟨⟨zYi (yAr hp n1) λc hc=>?_,yKq n2,λc hc=>by have:=hb c hc;omega⟩,hb⟩;obtain⟨x,hx,rfl⟩:=List.mem_map.1 hc;have:=iN n1 x hx;have:=Int.mul_nonneg (show 0<=x.1 by omega) (show 0<=p by omega);show(-1:Int)<x.1*p;omega
theorem yBk {p en:Int}(hp:1<=p){ga:List (Int × Int)}:∀{b:Int},gch b ga->b<=en->(∀g∈ga,g.2<=en+1)->gch (b*p) (ga.map (gsc p en)):=by
 induction ga with
 |nil=>intro b _ _ _;trivial
 |cons g r ih =>
  intro b h hb hl;obtain⟨h1,h2,h3⟩:=h;have hl1:=hl g List.mem_cons_self;have q1:=(@lE p b g.1 hp).2 h1;refine⟨q1,?_,?_⟩
  ·show g.1*p<if g.2=en+1 then en*p+1 else g.2*p
   split
   ·have:=(@tS p g.1 en hp).2 (by omega);omega
   ·exact(lE hp).2 h2
  ·show gch (if g.2=en+1 then en*p+1 else g.2*p) (r.map (gsc p en))
   split
   ·cases r with
    |nil=>trivial
    |cons x r=>have:=h3.1;have:=h3.2.1;have:=hl x (List.mem_cons_of_mem _ List.mem_cons_self);omega
   ·exact ih h3 (by omega) λx hx=>hl x (List.mem_cons_of_mem _ hx)
theorem zRi {p en:Int}(hp:1<=p){ga:List (Int × Int)}(hg:Gp en ga)(hen:en*p<=1099511627776):Gp (en*p) (ga.map (gsc p en)):=by
 obtain⟨g1,g2,g3⟩:=hg;have h0:=Int.mul_nonneg g1.1 (show 0<=p by omega);have hG:=yBk hp g2 (by omega) g3;refine⟨⟨h0,hen⟩,?_,λg hg=>?_⟩
 ·cases ga with
  |nil=>trivial
  |cons x r =>
   refine⟨?_,hG.2⟩;have:=g2.1;have:=Int.mul_nonneg (show 0<=x.1 by omega) (show 0<=p by omega);show(-1:Int)<x.1*p;omega
 ·obtain⟨x,hx,rfl⟩:=List.mem_map.1 hg
  show(if x.2=en+1 then en*p+1 else x.2*p)<=en*p+1;split
  ·exact Int.le_refl _
  ·have:=g3 x hx
   have:=(@tS p x.2 en hp).2 (by omega);omega
theorem yGs {p w en:Int}(hp:1<=p){ga:List (Int × Int)}{cs:List Chg}(hg:Gp en ga)(ho:Off w en ga cs):Off w (en*p) (ga.map (gsc p en)) (scl p cs):=by
 intro t ht hi;rw[zVx hp];have hq0:0<=t/p:=Int.ediv_nonneg ht (by omega);obtain⟨g,hg1,hq⟩:=List.any_eq_true.1 hi;have hq:=of_decide_eq_true hq;obtain⟨x,hx,rfl⟩:=List.mem_map.1 hg1;have hx3:=hg.le x hx;refine ho _ hq0 (List.any_eq_true.2 ⟨x,hx,decide_eq_true ⟨(Int.le_ediv_iff_mul_le (by omega)).2 hq.1,?_⟩⟩);by_cases he:x.2=en+1
 ·exact .inr (by omega)
 ·have hq2:t<(if x.2=en+1 then en*p+1 else x.2*p)\/en*p<(if x.2=en+1 then en*p+1 else x.2*p):=hq.2
  rw[if_neg he]at hq2;have:=(@tS p x.2 en hp).2 (by omega);exact .inl ((Int.ediv_lt_iff_lt_mul (by omega)).2 (by omega))
theorem yPv {p k w f e:Int}(hp:1<=p){cs:List Chg}:wT k w (f*p) (e*p) (scl p cs)=scl p (wT k w f e cs):=by
 unfold wT;rw[yMx hp,yQe hp,show e*p-f*p=(e-f)*p by rw[Int.sub_mul],yCt hp]
theorem yJt {p f e en:Int}(hp:1<=p)(hen:e<=en){x:Int × Int}(hx:x.2<=en+1) :
  clp (f*p) (e*p+1) (gsc p en x)=((clp f (e+1) x).1*p,if(clp f (e+1) x).2=e+1 then e*p+1 else(clp f (e+1) x).2*p):=by
 unfold clp gsc;have h1:=@tS p x.1 f hp;have h2:=@tS p f x.1 hp;have h3:=@tS p x.2 e hp;have h4:=@tS p e en hp;have h5:=@tS p e x.2 hp;dsimp only;refine Prod.ext ?_ ?_
 ·show max (x.1*p) (f*p)=max x.1 f*p
  rcases Int.le_total x.1 f with q|q
  ·rw[Int.max_eq_right q,Int.max_eq_right (h1.2 q)]
  ·rw[Int.max_eq_left q,Int.max_eq_left (h2.2 q)]
 ·show min (if x.2=en+1 then en*p+1 else x.2*p) (e*p+1)=if min x.2 (e+1)=e+1 then e*p+1 else min x.2 (e+1)*p
  by_cases q:x.2<=e
  ·have:=h3.2 q
   rw[if_neg (by omega),if_neg (by omega),Int.min_eq_left (by omega),Int.min_eq_left (by omega)]
  ·have hq2:min x.2 (e+1)=e+1:=by omega
   rw[hq2,if_pos rfl];have h6:=(@lE p e x.2 hp).2 (by omega);have:=h4.2 hen;split <;> omega
theorem yDc {p f e en:Int}(hp:1<=p)(hfe:f<=e)(hen:e<=en){ga:List (Int × Int)}(hg:Gp en ga)(hp2:en*p<=1099511627776) :
  cga (f*p) (e*p) (ga.map (gsc p en))=(cga f e ga).map (gsc p (e-f)):=by
 rw[eE (zRi hp hg hp2).ch,eE hg.ch];have hl:=hg.le;clear hg;unfold cgs
 induction ga with
 |nil=>rfl
 |cons x r ih =>
  have ih:=ih λg hg=>hl g (List.mem_cons_of_mem _ hg);have hx:=hl x List.mem_cons_self;have hc:=yJt (f:=f) hp hen hx;have hlt:(clp (f*p) (e*p+1) (gsc p en x)).1<(clp (f*p) (e*p+1) (gsc p en x)).2↔(clp f (e+1) x).1<(clp f (e+1) x).2:=by
   rw[hc];have hle:(clp f (e+1) x).2<=e+1:=by show min x.2 (e+1)<=_;omega
   generalize clp f (e+1) x=y at *;dsimp only;split
   ·rename_i q
    rw[q];exact zVd hp
   ·exact lE hp
  rw[List.map_cons,List.map_cons,List.map_cons,List.filter_cons,List.filter_cons];by_cases hq:(clp f (e+1) x).1<(clp f (e+1) x).2
  ·rw[if_pos (decide_eq_true (hlt.2 hq)),if_pos (decide_eq_true hq),List.map_cons,List.map_cons,List.map_cons,ih,hc]
   congr 1
   have hle:(clp f (e+1) x).2<=e+1:=by show min x.2 (e+1)<=_;omega
   generalize clp f (e+1) x=y at *;unfold gsc;dsimp only;refine Prod.ext (by show y.1*p-f*p=(y.1-f)*p;rw[Int.sub_mul]) ?_;show(if y.2=e+1 then e*p+1 else y.2*p)-f*p=if y.2-f=e-f+1 then(e-f)*p+1 else(y.2-f)*p
   by_cases q:y.2=e+1
   ·rw[if_pos q,if_pos (by omega),Int.sub_mul];omega
   ·rw[if_neg q,if_neg (by omega),Int.sub_mul]
  ·rw[if_neg (by rw[decide_eq_true_eq];exact λg=>hq (hlt.1 g)),if_neg (by rw[decide_eq_true_eq];exact hq),ih]
end Go.Proofs.YtbidadebolllkaaGreatDoor
end
section
set_option maxRecDepth 4000
namespace Go.Gh
open Go.RowKit

theorem VRs.set {ρ:Nat->Nat}{D:Nat->Prop}{l m:List Value}{u v:Value}(h:VRs ρ D l m)(k:VR ρ D u v):∀{i:Nat},VRs ρ D (l.set i u) (m.set i v):=by
 induction h with
 |nil=>intro i;exact .nil
 |cons h0 hk ih =>
  intro i;cases i with
  |zero=>exact .cons k hk
  |succ i=>exact .cons h0 ih
theorem VRs.old {ρ:Nat->Nat}{D:Nat->Prop}{p:SH}(hρ:∀y∈p,ρ y.1=y.1)(hD:∀y∈p,D y.1):∀{l:List Value},(∀v∈l,∃B o n len fl b p1,v=gsl B o n len fl/\Pick p B b p1)->VRs ρ D l l
 |[],_=>.nil
 |v::l,h=>by
  obtain⟨B,o,n,len,fl,b,p1,rfl,hp⟩:=h v List.mem_cons_self;exact .cons (VR.slc' (zGs hρ hp) (zCv hD hp)) (VRs.old hρ hD λv hv=>h v (List.mem_cons_of_mem _ hv))
section
variable {P:Program} {sz:Nat} {ops:Array Oper} {Q:wA} {rest:List Oper} {a:AF} {h:SH} {t:Nat} {ty:TypeId} {pos:String} {aft:Array Edge}
theorem yPw {x:Operand}{xs:List Operand}{ts:Array TypeId}{f:FuncId}{first captured:Array Value}{args:List Value}{v:Nat->Nat->Nat->Value}{g:Nat->Nat->Nat->SH}{i0:Nat}{last:qP}{cl:SCl}{p:SH}
  (hx:ev a x=some (.func (.func f) first captured)) (hxs:evs a xs=some args) (hf:xL P f=true) (hN:Nat.blt t sz=true) (hr:zH P f (first.toList++args++captured.toList) p (λr q=>∃A B C,r=v A B C/\q=g A B C)/\zA h p)
  (hkeys:∀A B C,((g A B C).map (·.1)).Perm (A::B::C::p.map (·.1))) (hpar:∀(A A' B B' C C':Nat) (ρ:Nat->Nat) (D:Nat->Prop),ρ A=A'->ρ B=B'->ρ C=C'->D A->D B->D C->(∀y∈p,ρ y.1=y.1)->(∀y∈p,D y.1)->VR ρ D (v A B C) (v A' B' C')/\SHR ρ D p (g A B C) (g A' B' C'))
  (hok:∀A B C,(Mode.draw i0 last cl).efOk ops (g A B C)) (kk:∀A B C,GO ((Mode.draw i0 last cl).ef h) P sz ops Q rest ((t,v A B C)::a) (g A B C)) :
  GO (.draw i0 last cl) P sz ops Q (⟨some t,.call { callee:=.value x,args:=xs.toArray,argTypes:=ts },ty,pos,aft,none⟩::rest) a h:=by
 have three:∀{ns:List Nat},ns.length=3->∃A B C,ns=[A,B,C]:=λ{ns} h=>by
  match ns,h with
  |[A,B,C],_=>exact⟨A,B,C,rfl⟩
 refine aU (k:=3) (V:=λns=>v ns.head! (ns.getD 1 0) (ns.getD 2 0)) (G:=λns=>g ns.head! (ns.getD 1 0) (ns.getD 2 0)) hx hxs hf hN hr.1 hr.2 (λr q ⟨A,B,C,h1,h2⟩=>⟨[A,B,C],rfl,h1,h2▸.nil⟩) (λns h=>?_) (λns ms ρ D h1 h2 h3 h4 h5 h6=>?_) (λms h=>?_) (λms h=>?_)
 ·obtain⟨A,B,C,rfl⟩:=three h;exact hkeys A B C
 ·obtain⟨A,B,C,rfl⟩:=three h1;obtain⟨A2,B2,C2,rfl⟩:=three h2
  simp only[List.map_cons,List.map_nil,List.cons.injEq,and_true]at h3;exact hpar A2 A B2 B C2 C ρ D h3.1 h3.2.1 h3.2.2 (h5 A2 (by simp)) (h5 B2 (by simp)) (h5 C2 (by simp)) h4 h6
 ·obtain⟨A,B,C,rfl⟩:=three h;exact hok A B C
 ·obtain⟨A,B,C,rfl⟩:=three h;exact kk A B C
end
end Go.Gh
end
section
set_option maxRecDepth 4000
namespace Go.Gh
open Go.RowKit
open Go.Proofs.YtbidadebolllkaaGreatDoor
section
variable {P:Program} {sz:Nat} {ops:Array Oper} {Q:wA} {rest:List Oper} {a:AF} {h:SH} {t:Nat} {ty:TypeId} {pos:String} {aft:Array Edge}
theorem yMq {x:Operand}{xs:List Operand}{ts:Array TypeId}{f:FuncId}{first captured:Array Value}{as0:List Value}{z1 z2 z3:Bool}{x1 n1 f1 x2 n2 f2 x3 n3 f3:Nat}{c1 c2 c3:List Value}{i0:Nat}{last:qP}{cl:SCl}{p:SH}
  (hx:ev a x=some (.func (.func f) first captured)) (hxs:evs a xs=some as0) (hf:xL P f=true) (hN:Nat.blt t sz=true)
  (hr:zH P f (first.toList++as0++captured.toList) p (λr q=>∃A B C,r=.tuple #[osl z1 A x1 n1 f1,osl z2 B x2 n2 f2,osl z3 C x3 n3 f3,I 0]/\q=obl z3 C c3++(obl z2 B c2++(obl z1 A c1++p)))/\zA h p)
  (hc1:∀v∈c1,yB v=true) (hc2:∀v∈c2,yB v=true) (hc3:∀v∈c3,yB v=true)
  (hok:∀A B C,(Mode.draw i0 last cl).efOk ops (obl z3 C c3++(obl z2 B c2++(obl z1 A c1++p))))
  (kk:∀A B C,GO ((Mode.draw i0 last cl).ef h) P sz ops Q rest ((t,.tuple #[osl z1 A x1 n1 f1,osl z2 B x2 n2 f2,osl z3 C x3 n3 f3,I 0])::a) (obl z3 C c3++(obl z2 B c2++(obl z1 A c1++p)))) :
  GO (.draw i0 last cl) P sz ops Q (⟨some t,.call { callee:=.value x,args:=xs.toArray,argTypes:=ts },ty,pos,aft,none⟩::rest) a h:=by
 have hp:=hr.2;have hr:=hr.1;cases z1 <;> cases z2 <;> cases z3
 ·exact yPw hx hxs hf hN ⟨hr.mono λr q ⟨A,B,C,e1,e2⟩=>⟨C,B,A,e1,e2⟩,hp⟩ (λ_ _ _=>List.Perm.refl _)
   (λ_ _ _ _ _ _ _ _ e1 e2 e3 d1 d2 d3 _ _=>⟨VRs.tuple (.cons (VR.slc' e3 d3) (.cons (VR.slc' e2 d2) (.cons (VR.slc' e1 d1) (.cons (.const rfl) .nil)))),.cons e1 (VRs.const hc3) (.cons e2 (VRs.const hc2) (.cons e3 (VRs.const hc1) (.same λ_ hx=>hx)))⟩) (λC B A=>hok A B C) (λC B A=>kk A B C)
 ·exact zGj hx hxs hf hN ⟨hr.mono λr q ⟨A,B,C,e1,e2⟩=>⟨B,A,e1,e2⟩,hp⟩ (λ_ _=>List.Perm.refl _)
   (λ_ _ _ _ _ _ e1 e2 d1 d2 _ _=>⟨VRs.tuple (.cons (VR.slc' e2 d2) (.cons (VR.slc' e1 d1) (.cons (.const rfl) (.cons (.const rfl) .nil)))),.cons e1 (VRs.const hc2) (.cons e2 (VRs.const hc1) (.same λ_ hx=>hx))⟩) (λB A=>hok A B 0) (λB A=>kk A B 0)
 ·exact zGj hx hxs hf hN ⟨hr.mono λr q ⟨A,B,C,e1,e2⟩=>⟨C,A,e1,e2⟩,hp⟩ (λ_ _=>List.Perm.refl _)
   (λ_ _ _ _ _ _ e1 e2 d1 d2 _ _=>⟨VRs.tuple (.cons (VR.slc' e2 d2) (.cons (.const rfl) (.cons (VR.slc' e1 d1) (.cons (.const rfl) .nil)))),.cons e1 (VRs.const hc3) (.cons e2 (VRs.const hc1) (.same λ_ hx=>hx))⟩) (λC A=>hok A 0 C) (λC A=>kk A 0 C)
 ·exact zGw hx hxs hf hN ⟨hr.mono λr q ⟨A,B,C,e1,e2⟩=>⟨A,e1,e2⟩,hp⟩ (λ_=>List.Perm.refl _)
   (λ_ _ _ _ e1 d1 _ _=>⟨VRs.tuple (.cons (VR.slc' e1 d1) (.cons (.const rfl) (.cons (.const rfl) (.cons (.const rfl) .nil)))),.cons e1 (VRs.const hc1) (.same λ_ hx=>hx)⟩) (λA=>hok A 0 0) (λA=>kk A 0 0)
 ·exact zGj hx hxs hf hN ⟨hr.mono λr q ⟨A,B,C,e1,e2⟩=>⟨C,B,e1,e2⟩,hp⟩ (λ_ _=>List.Perm.refl _)
   (λ_ _ _ _ _ _ e1 e2 d1 d2 _ _=>⟨VRs.tuple (.cons (.const rfl) (.cons (VR.slc' e2 d2) (.cons (VR.slc' e1 d1) (.cons (.const rfl) .nil)))),.cons e1 (VRs.const hc3) (.cons e2 (VRs.const hc2) (.same λ_ hx=>hx))⟩) (λC B=>hok 0 B C) (λC B=>kk 0 B C)
 ·exact zGw hx hxs hf hN ⟨hr.mono λr q ⟨A,B,C,e1,e2⟩=>⟨B,e1,e2⟩,hp⟩ (λ_=>List.Perm.refl _)
   (λ_ _ _ _ e1 d1 _ _=>⟨VRs.tuple (.cons (.const rfl) (.cons (VR.slc' e1 d1) (.cons (.const rfl) (.cons (.const rfl) .nil)))),.cons e1 (VRs.const hc2) (.same λ_ hx=>hx)⟩) (λB=>hok 0 B 0) (λB=>kk 0 B 0)
 ·exact zGw hx hxs hf hN ⟨hr.mono λr q ⟨A,B,C,e1,e2⟩=>⟨C,e1,e2⟩,hp⟩ (λ_=>List.Perm.refl _)
   (λ_ _ _ _ e1 d1 _ _=>⟨VRs.tuple (.cons (.const rfl) (.cons (.const rfl) (.cons (VR.slc' e1 d1) (.cons (.const rfl) .nil)))),.cons e1 (VRs.const hc3) (.same λ_ hx=>hx)⟩) (λC=>hok 0 0 C) (λC=>kk 0 0 C)
 ·exact kB hx hxs hf hN ⟨hr.mono λr q ⟨A,B,C,e1,e2⟩=>⟨e1,e2⟩,hp⟩ (List.Perm.refl _)
   (λ_ _ _ _=>⟨VRs.tuple (.cons (.const rfl) (.cons (.const rfl) (.cons (.const rfl) (.cons (.const rfl) .nil)))),.same λ_ hx=>hx⟩) (hok 0 0 0) (kk 0 0 0)
end
end Go.Gh
namespace Go.Proofs.YtbidadebolllkaaGreatDoor
open Go.Gh Go.RowKit

abbrev nS :Value:=.slice none 0 0
def txO (t:Trc):Bool:=decide (-15<=t.sc/\t.sc<=2) && [t.da,t.ve,t.co].all vwd
theorem yJq (t:Trc)(s w g a:Value)(bb:Nat)(h:SH)(hf:Sm t) :
  zH Tryz.prog 107 [zG bb 0 18] ((bb,⟨[I t.sc,S t.da,S t.ve,S t.co,s,w,g,a,I t.en,I 0,S [],S [],S [],nS,nS,nS,nS,I 0],false⟩)::h) λr q =>
   (txO t=true/\r=I 0/\q=(bb,⟨[I t.sc,S t.da,S t.ve,S t.co,s,w,g,a,I t.en,I t.sc,S t.da,S t.ve,S t.co,nS,nS,nS,nS,I 0],false⟩)::h)\/(txO t=false/\∃e:Int,e≠0/\r=I e/\q=h):=by
 obtain⟨f1,f2,f3,-⟩:=hf;obtain⟨sc,da,ve,co,ss,vs,gs,ga,en⟩:=t;unfold txO;dsimp only at *;have hT:=λh=>kM sc h;by_cases hsc:-15<=sc/\sc<=2
 ·rw[decide_eq_true hsc]at hT ⊢
  rw[Bool.true_and];obtain⟨Ts,hTs⟩:∃Ts,Ts=[da,ve,co]:=⟨_,rfl⟩;have hT3:Ts.length=3:=by rw[hTs];rfl
  have hTl:∀x∈Ts,x.length<=1000:=by
   intro x hx;rw[hTs]at hx;simp only[List.mem_cons,List.not_mem_nil,or_false]at hx;rcases hx with rfl|rfl|rfl
   ·exact f1
   ·exact f2
   ·exact f3
  have hTm:(Ts.map sV).length=3:=by rw[List.length_map,hT3]
  have hTc:([S da,S ve,S co]:List Value)=Ts.map sV:=by rw[hTs];rfl
  rw[<-hTs];obtain⟨b,hb⟩:∃b,Ts.all vwd=b:=⟨_,rfl⟩;rw[hb];refine yG Tryz.func107 rfl rfl ?_
  repeat'(first|apply zE|apply zD|apply zC|refine jr ?_|refine jg ?_ ?_|(apply yS;exact rfl;exact rfl)|(apply jm;exact jI)|refine jb ?_|refine jq ?_ (c:=by exact⟨_,hT _,jN⟩)|(apply zX;exact rfl)|apply zB|apply zL|apply zM|exact jS|exact jL|exact jE|exact True.intro|intro A|exact rfl)
  all_goals try exact jX
  refine yH (S:=Nat) (λi=>[(0,zG bb 0 18),(27,gsl A 0 (3*1) 3 1),(28,I 3),(29,I i)]) (λ_=>(A,⟨Ts.map sV,false⟩)::(bb,⟨[I sc,S da,S ve,S co,s,w,g,a,I en,I 0,S [],S [],S [],nS,nS,nS,nS,I 0],false⟩)::h) (λi=>i<=3/\(Ts.drop i).all vwd=b) (λi=>3-i) 0 ⟨Nat.zero_le _,hb⟩ jB (by rw[<-hTc];exact jT) ?_;rintro i ⟨hi,hg⟩;by_cases hil:i<3
  ·rw[tP (by omega)]at hg
   have hW:=λh=>yJh Ts[i]! h (hTl _ (xD (by omega)));generalize vwd Ts[i]! = y at *;cases y with
   |true =>
    rw[Bool.true_and]at hg
    repeat'(first|apply zE|apply zD|apply zC|refine jg ?_ ?_|(apply ja;exact jH)|(apply yS;exact rfl;exact rfl)|(apply jm;exact jI)|refine jq ?_ (c:=by exact⟨_,hW _,jN⟩)|(apply zX;exact rfl)|refine jd ?_|apply zB|apply zQ|apply zL|apply zM|exact jO|((with_reducible apply Ln.mk);first|omega)|exact jW|((with_reducible apply Ce.mk);first|exact oO (by omega))|exact True.intro|exact rfl)
    all_goals first|exact jX|exact⟨i+1,⟨hil,hg⟩,by show 3-(i+1)<3-i;omega,jB,jT⟩
   |false =>
    rw[Bool.false_and]at hg;subst hg
    repeat'(first|apply zE|apply zD|apply zC|refine jg ?_ ?_|(apply yS;exact rfl;exact rfl)|(apply jm;exact jI)|refine jq ?_ (c:=by exact⟨_,hW _,jN⟩)|(apply yO;exact rfl)|refine jd ?_|apply zB|apply zV|apply xM|apply zL|apply zJ|apply zM|exact jO|((with_reducible apply Ln.mk);first|omega)|((with_reducible apply Ce.mk);first|exact oO (by omega))|exact True.intro|exact rfl)
    all_goals first|exact jX|exact jF (k:=by exact .inr ⟨rfl,3,by decide,rfl,rfl⟩)
  ·rw[tQ (by omega)]at hg
   subst hg
   repeat'(first|apply zE|apply zD|apply zC|refine jr ?_|refine jg ?_ ?_|(apply jm;exact jI)|(apply yV zK;(iterate 4 exact rfl);exact up)|refine jf ?_|apply zB|apply zW|apply zT|apply zJ|apply zU|exact jS|exact jL|exact jE|exact jZ|exact True.intro|exact Or.inl rfl|apply And.intro|exact rfl)
   all_goals first|exact jX|exact jF (k:=by exact .inl ⟨rfl,rfl,rfl⟩)
 ·rw[decide_eq_false hsc]at hT ⊢
  refine yG Tryz.func107 rfl rfl ?_
  repeat'(first|apply zE|apply zD|apply zC|refine jg ?_ ?_|(apply yS;exact rfl;exact rfl)|(apply jm;exact jI)|refine jq ?_ (c:=by exact⟨_,hT _,jN⟩)|(apply yO;exact rfl)|apply zB|apply zV|apply zJ|exact jS|exact jL|exact jE|exact True.intro|exact rfl)
  all_goals first|exact jX|exact jF (k:=by exact .inr ⟨rfl,2,by decide,rfl,rfl⟩)
end Go.Proofs.YtbidadebolllkaaGreatDoor
end
section
set_option maxRecDepth 4000
namespace Go.Proofs.YtbidadebolllkaaGreatDoor
open Go.Gh Go.RowKit

theorem yLr {C:List Vr->Prop}(hC:∀L i j,C L->C (swp L i j)){a:Nat}:∀{j:Nat} {L:List Vr},C L->C (tD a j L):=by
 intro j
 induction j with
 |zero=>intro L h;exact h
 |succ j ih =>
  intro L h;unfold tD;split
  ·exact ih (hC _ _ _ h)
  ·exact h
theorem zEx {C:List Vr->Prop}(hC:∀L i j,C L->C (swp L i j)){a:Nat}:∀{k i:Nat} {L:List Vr},C L->C (iI a k i L):=by
 intro k
 induction k with
 |zero=>intro i L h;exact h
 |succ k ih=>intro i L h;exact ih (yLr hC h)
theorem zAk {C:List Vr->Prop}(hC:∀L i j,C L->C (swp L i j)):∀{n x y:Nat} {L:List Vr},C L->C (swr n x y L):=by
 intro n
 induction n with
 |zero=>intro x y L h;exact h
 |succ n ih=>intro x y L h;exact ih (hC _ _ _ h)
theorem yEj {C:List Vr->Prop}(hC:∀L i j,C L->C (swp L i j)){m:Nat}:∀{f i j:Nat} {L:List Vr},C L->C (uT m f i j L):=by
 intro f
 induction f with
 |zero=>intro i j L h;exact h
 |succ f ih =>
  intro i j L h;unfold uT;split
  ·exact zAk hC h
  ·split
   ·exact ih (zAk hC h)
   ·exact ih (zAk hC h)
theorem zYd {C:List Vr->Prop}(hC:∀L i j,C L->C (swp L i j)):∀{c k:Nat} {L:List Vr},C L->C (mvU c k L):=by
 intro c
 induction c with
 |zero=>intro k L h;exact h
 |succ c ih=>intro k L h;exact ih (hC _ _ _ h)
theorem yLc {C:List Vr->Prop}(hC:∀L i j,C L->C (swp L i j)):∀{c k:Nat} {L:List Vr},C L->C (mvD c k L):=by
 intro c
 induction c with
 |zero=>intro k L h;exact h
 |succ c ih=>intro k L h;exact ih (hC _ _ _ h)
theorem zTg {C:List Vr->Prop}(hC:∀L i j,C L->C (swp L i j)):∀{f a m b:Nat} {L:List Vr},C L->C (qB f a m b L):=by
 intro f
 induction f with
 |zero=>intro a m b L h;exact h
 |succ f ih =>
  intro a m b L h;have hS:∀s e,C (syR s m e L):=λs e=>by
   unfold syR;split
   ·exact yEj hC h
   ·exact h
  unfold qB;split
  ·exact zYd hC h
  split
  ·exact yLc hC h
  dsimp only;split
  ·apply ih
   split
   ·exact ih (hS _ _)
   ·exact hS _ _
  ·split
   ·exact ih (hS _ _)
   ·exact hS _ _
theorem yMv {C:List Vr->Prop}(hC:∀L i j,C L->C (swp L i j)){n:Nat}:∀{k a:Nat} {L:List Vr},C L->C (stI n k a L):=by
 intro k
 induction k with
 |zero=>intro a L h;exact zEx hC h
 |succ k ih =>
  intro a L h;unfold stI;split
  ·exact ih (zEx hC h)
  ·exact zEx hC h
theorem yOs {C:List Vr->Prop}(hC:∀L i j,C L->C (swp L i j)){n bs:Nat}:∀{k a:Nat} {L:List Vr},C L->C (stM n bs k a L):=by
 intro k
 induction k with
 |zero=>intro a L h;exact h
 |succ k ih =>
  intro a L h;unfold stM;split
  ·exact ih (zTg hC h)
  ·split
   ·exact zTg hC h
   ·exact h
theorem zYc {C:List Vr->Prop}(hC:∀L i j,C L->C (swp L i j)){n:Nat}:∀{k bs:Nat} {L:List Vr},C L->C (stO n k bs L):=by
 intro k
 induction k with
 |zero=>intro bs L h;exact h
 |succ k ih =>
  intro bs L h;unfold stO;split
  ·exact ih (yOs hC h)
  ·exact h
theorem yEk {C:List Vr->Prop}(hC:∀L i j,C L->C (swp L i j)){L:List Vr}(h:C L):C (vW L):=zYc hC (yMv hC h)
theorem cY {α:Type}[Inhabited α]{l:List α}{i:Nat}(h:¬i<l.length):l[i]! = default:=getElem!_neg l i h
theorem yJz {p:Vr->Prop}(hd:p default)(L:List Vr)(i j:Nat)(h:∀x∈L,p x):∀x∈swp L i j,p x:=by
 have hb:∀k,p L[k]!:=λk=>by
  by_cases hk:k<L.length
  ·exact h _ (xD hk)
  ·rw[cY hk];exact hd
 intro x hx;unfold swp at hx;rcases List.mem_or_eq_of_mem_set hx with hx|rfl
 ·rcases List.mem_or_eq_of_mem_set hx with hx|rfl
  ·exact h x hx
  ·exact hb j
 ·exact hb i
theorem gV {α:Type}[Inhabited α]{l:List α}{i j:Nat}{x:α}(h:i≠j):(l.set i x)[j]! = l[j]!:=by
 by_cases hj:j<l.length
 ·rw[getElem!_pos _ j (by rw[List.length_set];exact hj),getElem!_pos l j hj,List.getElem_set_ne h]
 ·rw[cY hj,cY (by rw[List.length_set];exact hj)]
theorem aC {α:Type}[Inhabited α]{l:List α}{i:Nat}{x:α}(h:i<l.length):(l.set i x)[i]! = x:=by
 rw[getElem!_pos _ i (by rw[List.length_set];exact h),List.getElem_set_self]
theorem yDh {M:List (Int × Int)}{a b x n:Int}(h:sD (qC M a x) b=some n):n=x\/sD M b=some n:=by
 induction M with
 |nil =>
  have h:(if a=b then some x else none)=some n:=h;split at h
  ·exact .inl (Option.some.inj h).symm
  ·cases h
 |cons e r ih =>
  unfold qC at h;by_cases he:e.1=a
  ·rw[if_pos he]at h
   have h:(if a=b then some x else sD r b)=some n:=h;by_cases hab:a=b
   ·rw[if_pos hab]at h;exact .inl (Option.some.inj h).symm
   ·rw[if_neg hab]at h
    exact .inr (by show(if e.1=b then _ else _)=_;rw[if_neg (by rw[he];exact hab)];exact h)
  ·rw[if_neg he]at h
   have h:(if e.1=b then some e.2 else sD (qC r a x) b)=some n:=h;show n=x\/(if e.1=b then some e.2 else sD r b)=some n;by_cases hb:e.1=b
   ·rw[if_pos hb]at h ⊢;exact .inr h
   ·rw[if_neg hb]at h ⊢;exact ih h
theorem yAv :∀(k i:Nat) (M:List (Int × Int)) (F:List Int) (X:List Vr),i+k=X.length->(∀n∈F,(0:Int)<=n)->(∀j,i<=j->0<=X[j]!.2.2.2.1)->(∀a n,sD M a=some n->0<=n/\n<F.length) ->
  (∀j,j<i->0<=X[j]!.2.2.2.1/\X[j]!.2.2.2.1<F.length) ->
  (∀n∈(sB k i M F X).1,(0:Int)<=n)/\∀j,j<X.length->0<=(sB k i M F X).2[j]!.2.2.2.1/\(sB k i M F X).2[j]!.2.2.2.1<(sB k i M F X).1.length:=by
 intro k
 induction k with
 |zero =>
  intro i M F X hk hF _ _ hX;exact⟨hF,λj hj=>hX j (by omega)⟩
 |succ k ih =>
  intro i M F X hk hF hs hM hX;unfold sB;have hxi:=hs i (Nat.le_refl _);split
  ·rename_i n hn
   obtain⟨m1,m2⟩:=hM _ _ hn;have:=ih (i+1) M F (X.set i (sA X[i]! n)) (by rw[List.length_set];omega) hF (λj hj=>by rw[gV (by omega)];exact hs j (by omega)) hM (λj hj=>by
    by_cases e:i=j
    ·subst e;rw[aC (by omega)];exact⟨m1,m2⟩
    ·rw[gV e];exact hX j (by omega))
   rwa [List.length_set]at this
  ·have:=ih (i+1) (qC M X[i]!.2.2.2.1 F.length) (F++[X[i]!.2.2.2.1]) (X.set i (sA X[i]! F.length)) (by rw[List.length_set];omega) (λn hn=>by
    rcases List.mem_append.1 hn with hn|hn
    ·exact hF n hn
    ·rw[List.mem_singleton.1 hn];exact hxi) (λj hj=>by rw[gV (by omega)];exact hs j (by omega)) (λa n hn=>by
     rw[List.length_append,List.length_singleton];rcases yDh hn with rfl|hn
     ·omega
     ·have:=hM a n hn;omega) (λj hj=>by
     rw[List.length_append,List.length_singleton];by_cases e:i=j
     ·subst e;rw[aC (by omega)];show 0<=(F.length:Int)/\(F.length:Int)<_;omega
     ·rw[gV e];have:=hX j (by omega);omega)
   rwa [List.length_set]at this
theorem kW {ss:List Scp}{vs:List Vr}(h:chk ss vs=0) :
  (∀n∈(yE ss vs).1,(0:Int)<=n)/\∀j,j<vs.length->0<=(yE ss vs).2[j]!.2.2.2.1/\(yE ss vs).2[j]!.2.2.2.1<(yE ss vs).1.length:=by
 have hd:dcl ss vs=true:=by
  unfold chk at h;by_cases h0:32<ss.length\/128<vs.length
  ·rw[if_pos h0]at h;exact absurd h (by decide)
  ·rw[if_neg h0]at h
   by_cases h1:dcl ss vs=false
   ·rw[if_pos h1]at h;exact absurd h (by decide)
   ·simpa using h1
 unfold dcl at hd;rw[Bool.and_eq_true,Bool.not_eq_true',List.any_eq_false]at hd;have h0:∀x∈vW (qW ss vs),0<=x.2.2.2.1:=yEk (C:=λL=>∀x∈L,0<=x.2.2.2.1) (λL i j=>yJz (p:=λx=>0<=x.2.2.2.1) (by decide) L i j) (λx hx=>by
  obtain⟨y,hy,rfl⟩:=List.mem_map.1 hx;have:=hd.2 y hy;unfold bdV at this;rw[decide_eq_true_eq]at this;show 0<=y.2.2.2.1;omega)
 have hl:(vW (qW ss vs)).length=vs.length:=by rw[zFh];exact List.length_map _
 have:=yAv (vW (qW ss vs)).length 0 [] [] (vW (qW ss vs)) (Nat.zero_add _) (λn hn=>by cases hn) (λj _=>by
  by_cases hj:j<(vW (qW ss vs)).length
  ·exact h0 _ (xD hj)
  ·rw[cY hj];decide) (λa n hn=>by cases hn) (λj hj=>absurd hj (Nat.not_lt_zero _))
 rw[hl]at this;unfold yE sT;rw[hl];exact this

theorem zFn {z:Bool}{A w n:Nat}{c:List Value}{h:SH}(hz:z=true->n=0):Has (obl z A c++h) c w n (osl z A (n*w) n w):=by
 cases z with
 |true=>exact⟨_,_,by rw[hz rfl];rfl,λk=>absurd (hz rfl) k⟩
 |false=>exact⟨_,_,rfl,λ_=>⟨A,false,h,by rw[Nat.mul_comm],.head⟩⟩
theorem gW {z:Bool}{A:Nat}{c:List Value}{h:SH}:zA (obl z A c++h) h:=zA.drops .nil
def Sg (q:SH)(X:List Sx)(C:List Sgc):Prop:=X.length=C.length/\∀i,i<C.length->SgH q X[i]! C[i]!
theorem SgH.re {h h':SH}{x:Sx}{c:Sgc}(k:SgH h x c)(t:zA h' h):SgH h' x c:=⟨k.1,k.2.1,k.2.2.re t⟩
theorem Sg.re {h h':SH}{X:List Sx}{C:List Sgc}(k:Sg h X C)(t:zA h' h):Sg h' X C:=⟨k.1,λi hi=>(k.2 i hi).re t⟩
theorem fG {F:List Int}{i:Nat}(h:i<F.length):(zF iF F)[0+((i:Int)).toNat*1]?=some (I F[i]!):=vL (fo:=0) (f:=iF) (w:=1) (λ_=>rfl) h (by decide) rfl
theorem nK {α β:Type}[Inhabited α][Inhabited β]{f:α->β}{l:List α}{i:Nat}(h:i<l.length):(l.map f)[i]! = f l[i]!:=by
 rw[getElem!_pos _ i (by rw[List.length_map];exact h),getElem!_pos l i h,List.getElem_map]
def BdS (t:Trc)(s w g a:Value)(bb:Nat)(h:SH)(S':List Scp)(V:List Vr)(C:List Sgc)(G:List (Int × Int))(en:Int)(q:SH):Prop :=
 ∃s2 v2 g3 A2 X q2,q=(bb,⟨[I t.sc,S t.da,S t.ve,S t.co,s,w,g,a,I t.en,I t.sc,S t.da,S t.ve,S t.co,s2,v2,os A2 3 C.length,g3,I en],false⟩)::(ob A2 (zF sgF X) C.length++q2) /\
  Has q2 (zF scF S') 3 S'.length s2/\Has q2 (zF vrF V) 7 V.length v2/\Has q2 (zF prF G) 2 G.length g3/\Sg q2 X C/\zA q2 h
def yY (gs:List Sgc)(F:List Int):List Sgc:=F.map λn=>gs[n.toNat]!
def dcO (t:Trc):Bool:=decide (chk t.ss t.vs=0) && ((yE t.ss t.vs).1.all (λn=>decide (n<t.gs.length)) && decide ((yE t.ss t.vs).1.length<=64))
theorem yJu (t:Trc)(s w g a:Value)(bb:Nat)(h:SH)(hf:Sm t)(h1:Has h (zF scF t.ss) 3 t.ss.length s)(h2:Has h (zF vrF t.vs) 7 t.vs.length w)(h3:tY h t.gs g) :
  zH Tryz.prog 108 [zG bb 0 18] ((bb,⟨[I t.sc,S t.da,S t.ve,S t.co,s,w,g,a,I t.en,I t.sc,S t.da,S t.ve,S t.co,nS,nS,nS,nS,I 0],false⟩)::h) λr q =>
   (dcO t=true/\r=I 0/\BdS t s w g a bb h (xN t.ss).1 (yE t.ss t.vs).2 (yY t.gs (yE t.ss t.vs).1) [] 0 q)\/(dcO t=false/\∃e:Int,e≠0/\r=I e/\q=h):=by
 obtain⟨-,-,-,f4,f5,f6,-,f8,f9,-⟩:=hf;obtain⟨xs,hxl,h4,hxs⟩:=h3;obtain⟨sc,da,ve,co,ss,vs,gs,ga,en⟩:=t;dsimp only at *;unfold dcO;dsimp only;obtain⟨ad1,fl1,rfl,-⟩:=id h1;obtain⟨ad2,fl2,rfl,-⟩:=id h2;obtain⟨ad3,fl3,rfl,hh4⟩:=id h4;by_cases hck:chk ss vs=0
 ·rw[decide_eq_true hck,Bool.true_and]
  have hO:=λh h1 h2=>yCw ss vs (.slice ad1 ss.length fl1) ad2 fl2 h h1 h2 (by omega) (by omega) f8 f9 hck;obtain⟨hF0,-⟩:=kW hck;obtain⟨-,hFl⟩:=@aR ss vs;obtain⟨hV2,-⟩:=@aR ss vs;unfold OrdR at hO;unfold BdS;dsimp only;have hzf:ad2.isNone=true->vs.length=0:=by
   intro hz;obtain⟨_,_,e,hh⟩:=id h2;cases e;by_cases h0:vs.length=0
   ·exact h0
   ·obtain⟨A,ro,h1,e,-⟩:=hh h0
    rw[e]at hz;cases hz
  have hSc:∀v∈zF scF (xN ss).1,yB v=true:=fO λx v hv=>by
   simp only[List.mem_cons,List.not_mem_nil,or_false]at hv;rcases hv with rfl|rfl|rfl <;> rfl
  have hVc:∀v∈zF vrF (yE ss vs).2,yB v=true:=fO λx v hv=>by
   simp only[List.mem_cons,List.not_mem_nil,or_false]at hv;rcases hv with rfl|rfl|rfl|rfl|rfl|rfl|rfl <;> rfl
  have hFc:∀v∈zF iF (yE ss vs).1,yB v=true:=fO λx v hv=>by
   rw[List.mem_singleton.1 hv];rfl
  generalize (xN ss).1=S' at *;generalize (yE ss vs).2=V at *;generalize (yE ss vs).1=F at *;have hCl:(yY gs F).length=F.length:=by unfold yY;rw[List.length_map]
  rw[hCl];refine yG Tryz.func108 rfl rfl ?_
  repeat'((fail_if_success (show SWp _ _ (Code.seq (Code.region 1 _ _) _) _ _ _));(fail_if_success (show SWp _ _ (Code.region 1 _ _) _ _ _));first|apply zE|apply zD|apply zC|refine jg ?_ ?_|apply zB|exact jS|fail)
  apply zE;refine rH (S:=Value × Value × Value × SH) (λx=>[(0,zG bb 0 18),(3,x.1),(4,x.2.1),(5,x.2.2.1),(6,I 0)]) (λx=>(bb,⟨[I sc,S da,S ve,S co,.slice ad1 ss.length fl1,.slice ad2 vs.length fl2,.slice ad3 gs.length fl3,a,I en,I sc,S da,S ve,S co,nS,nS,nS,nS,I 0],false⟩)::x.2.2.2)
   (λx=>Has x.2.2.2 (zF scF S') 3 S'.length x.1/\Has x.2.2.2 (zF vrF V) 7 V.length x.2.1/\Has x.2.2.2 (zF iF F) 1 F.length x.2.2.1/\zA x.2.2.2 h) ?_ ?_
  ·skip
   repeat'(first|apply zC|refine jr ?_|(apply yMq;(iterate 4 exact rfl);exact⟨hO _ (h1.re jD) (h2.re jD),zA.nil⟩;exact hSc;exact hVc;exact hFc)|refine jg ?_ ?_|(apply jm;exact jI)|apply zB|exact jS|exact jL|exact jE|exact True.intro|exact Or.inl rfl|apply And.intro|intro A|exact rfl)
   rename_i A1 B1;refine⟨(_,_,_,obl (decide (F.length=0)) A (zF iF F)++(obl ad2.isNone B1 (zF vrF V)++(obl (decide (S'.length=0)) A1 (zF scF S')++h))),⟨(zFn of_decide_eq_true).re (gW.trans gW),?_,zFn of_decide_eq_true,gW.trans (gW.trans gW)⟩,jB,jT⟩;dsimp only;rw[hV2];exact(zFn hzf).re gW
  ·rintro⟨s2,v2,f2,q⟩ ⟨g1,g2,g3,g4⟩
   dsimp only at g1 g2 g3 g4 ⊢;obtain⟨ads,fls,rfl,-⟩:=id g1;obtain⟨adv,flv,rfl,-⟩:=id g2;obtain⟨adf,flf,rfl,hhf⟩:=id g3;have hlF:=yK (f:=iF) (w:=1) (λ_=>rfl) F;have hlx:=yK (f:=sgF) (w:=3) (λ_=>rfl) xs;have hSgi:∀i,i<F.length->(∀j,j<F.length->F[j]!<(gs.length:Int))->SgH q (F.map (λn=>xs[n.toNat]!))[i]! (yY gs F)[i]!:=λi hi hlt=>by
    have e1:=nK (f:=λn:Int=>xs[n.toNat]!) hi;have e2:=nK (f:=λn:Int=>gs[n.toNat]!) hi;unfold yY;rw[e1,e2];have:=hF0 _ (xD hi);have:=hlt i hi;exact(hxs _ (by omega)).re g4
   obtain⟨b,hb⟩:∃b,F.all (λn=>decide (n<gs.length))=b:=⟨_,rfl⟩;rw[hb]
   repeat'(first|apply zE|apply zD|apply zC|refine jg ?_ ?_|(apply zX;exact rfl)|apply zB|apply zL|apply zM|exact jS|fail)
   all_goals try exact jX
   refine yH (S:=Nat) (λi=>[(0,zG bb 0 18),(3,.slice ads S'.length fls),(4,.slice adv V.length flv),(5,.slice adf F.length flf),(30,.slice adf F.length flf),(31,I F.length),(32,I i)]) (λ_=>(bb,⟨[I sc,S da,S ve,S co,.slice ad1 ss.length fl1,.slice ad2 vs.length fl2,.slice ad3 gs.length fl3,a,I en,I sc,S da,S ve,S co,nS,nS,nS,nS,I 0],false⟩)::q)
    (λi=>i<=F.length/\(F.drop i).all (λn=>decide (n<gs.length))=b/\∀j,j<i->F[j]!<gs.length) (λi=>F.length-i) 0 ⟨Nat.zero_le _,hb,λj hj=>absurd hj (Nat.not_lt_zero _)⟩ jB (by exact zA.nil) ?_
   rintro i ⟨hi,hg,hlt⟩;by_cases hil:i<F.length
   ·obtain⟨Af,rof,q1,rfl,hpf⟩:=hhf (by omega)
    rw[tP hil]at hg;by_cases hn:F[i]!<(gs.length:Int)
    ·rw[decide_eq_true hn,Bool.true_and]at hg
     repeat'(first|apply zE|apply zD|apply zC|refine jg ?_ ?_|(apply ja;exact jH)|(apply jm;exact jI)|refine jd ?_|refine jf ?_|apply zB|apply zQ|apply zL|apply zM|exact jO|((with_reducible apply Ln.mk);first|rfl|(simp[hlF];first|done|omega))|exact jW|((with_reducible apply Ce.mk);first|rfl|exact fG (by omega))|exact True.intro|exact rfl)
     all_goals first
      |exact jX
      |exact⟨i+1,⟨hil,hg,λj hj=>by
        by_cases e:j=i
        ·rw[e];exact hn
        ·exact hlt j (by omega)⟩,by show F.length-(i+1)<F.length-i;omega,jB,jT⟩
    ·rw[decide_eq_false hn,Bool.false_and]at hg
     subst hg
     repeat'(first|apply zE|apply zD|apply zC|refine jg ?_ ?_|(apply jm;exact jI)|refine jd ?_|apply zB|apply zV|apply xM|apply zL|apply zJ|apply zM|exact jO|((with_reducible apply Ln.mk);first|rfl|(simp[hlF];first|done|omega))|((with_reducible apply Ce.mk);first|rfl|exact fG (by omega))|exact True.intro|exact rfl)
     all_goals first|exact jX|(apply yA;(exact(show zO _ _ _ _ [_] from⟨rfl,trivial⟩));exact .inr ⟨rfl,1,by decide,rfl,rfl⟩;(focus repeat(first|with_reducible exact zA.nil|exact g4|with_reducible apply zA.c|with_reducible apply zA.drop|with_reducible apply zA.pre|with_reducible apply zA.drops)))
   ·rw[tQ (by omega)]at hg
    subst hg;rw[Bool.true_and];have hlt:∀j,j<F.length->F[j]!<(gs.length:Int):=λj hj=>hlt j (by omega);have hSgi:=λi hi=>hSgi i hi hlt;by_cases h64:F.length<=64
    ·rw[decide_eq_true h64]
     repeat'(first|apply zE|apply zD|apply zC|refine jg ?_ ?_|(apply yV zK;(iterate 4 exact rfl);exact up)|refine jf ?_|apply zB|apply zW|apply zT|apply zL|apply zU|apply zM|exact jS|exact jL|exact jZ|exact True.intro)
     all_goals try exact jX
     refine yH (S:=Nat × Value × SH) (λx=>[(0,zG bb 0 18),(58,.slice adf F.length flf),(59,I F.length),(60,I x.1)]) (λx=>(bb,⟨[I sc,S da,S ve,S co,.slice ad1 ss.length fl1,.slice ad2 vs.length fl2,.slice ad3 gs.length fl3,a,I en,I sc,S da,S ve,S co,.slice ads S'.length fls,.slice adv V.length flv,x.2.1,nS,I 0],false⟩)::x.2.2)
      (λx=>x.1<=F.length/\GrR sgF 3 q ((F.take x.1).map λn=>xs[n.toNat]!) x.2.1 x.2.2) (λx=>F.length-x.1) (0,nS,q) ⟨Nat.zero_le _,.nil⟩ jB (by exact zA.nil) ?_
     rintro⟨j,u,q2⟩ ⟨hj,hG⟩;dsimp only at hj hG ⊢;by_cases hjl:j<F.length
     ·have hjn:=hlt j hjl
      have hj0:=hF0 _ (xD hjl);obtain⟨Af,rof,p1,rfl,hpf⟩:=hhf (by omega);obtain⟨p2,hpf2,_⟩:=hG.tk.pick hpf;obtain⟨Ax,rox,p3,rfl,hpx⟩:=hh4 (by omega);obtain⟨p4,hpx2,_⟩:=(hG.tk.trans g4).pick hpx;have hPl:((F.take j).map λn=>xs[n.toNat]!).length=j:=by rw[List.length_map,List.length_take];omega
      have hPs:(F.take (j+1)).map (λn=>xs[n.toNat]!)=(F.take j).map (λn=>xs[n.toNat]!)++[xs[F[j]!.toNat]!]:=by rw[tN hjl,List.map_append];rfl
      generalize (F.take j).map (λn=>xs[n.toNat]!)=O at *;have hob:=yK (f:=sgF) (w:=3) (λ_=>rfl) O;cases hG with
      |nil =>
       repeat'(first|apply zE|apply zD|apply zC|refine jr ?_|refine jg ?_ ?_|(apply ja;exact jH)|(apply jm;exact jI)|(apply jl;exact jI)|(apply yV zK;(iterate 4 exact rfl);exact up)|(apply xT zK;(iterate 5 exact rfl);decide;exact rfl;decide;(focus repeat(first|exact xE.last rfl));exact rfl)|(apply qD zK;(iterate 5 exact rfl);exact⟨by decide⟩;exact pk)|refine jd ?_|apply zB|apply zQ|apply zL|apply zM|exact jV|((with_reducible apply Ln.mk);first|rfl|(simp[hlF,hlx,hob];first|done|omega))|exact jW|((with_reducible apply Ce.mk);first|rfl|exact fG (by omega))|exact jZ|((with_reducible apply Su.mk);first|exact xY|exact kH (λ_=>rfl) (by omega))|exact True.intro|refine Rc.mk ⟨_,_,pk,?_⟩|exact Or.inl rfl|apply And.intro|apply Or.inr|intro A|exact rfl)
       all_goals first
        |exact jX
        |exact⟨(j+1,gsl A 0 (1*3) 1 3,(A,⟨sgF xs[F[j]!.toNat]!,false⟩)::q),⟨hjl,by rw[hPs];exact .ofc (f:=sgF) (l:=[xs[F[j]!.toNat]!]) (n:=1) (k:=1*3) tW.symm rfl rfl⟩,by show F.length-(j+1)<F.length-j;omega,jB,(by repeat(first|with_reducible exact zA.nil|exact g4|with_reducible apply zA.c|with_reducible apply zA.drop|with_reducible apply zA.pre|with_reducible apply zA.drops))⟩
      |some A4 _ hO0 =>
       repeat'(first|apply zE|apply zD|apply zC|refine jr ?_|refine jg ?_ ?_|(apply ja;exact jH)|(apply jm;exact jI)|(apply jl;exact jI)|(apply yV zK;(iterate 4 exact rfl);exact up)|(apply xT zK;(iterate 5 exact rfl);decide;exact rfl;decide;(focus repeat(first|exact xE.last rfl));exact rfl)|(apply qK zK;(iterate 5 exact rfl);exact⟨by decide⟩;exact up;exact pk)|refine jd ?_|apply zB|apply zQ|apply zL|apply zM|exact jV|((with_reducible apply Ln.mk);first|rfl|omega|(simp[hlF,hlx,hob];first|done|omega))|exact jW|((with_reducible apply Ce.mk);first|rfl|exact fG (by omega))|exact jZ|((with_reducible apply Su.mk);first|exact xY|exact kH (λ_=>rfl) (by omega))|exact True.intro|refine Rc.mk ⟨_,_,pk,?_⟩|exact Or.inl rfl|apply And.intro|apply Or.inr|intro A|exact rfl)
       all_goals first
        |exact jX
        |exact⟨(j+1,gsl A4 0 (O.length*3+1*3) (O.length+1) 3,(A4,⟨zF sgF O++sgF xs[F[j]!.toNat]!,false⟩)::q),⟨hjl,by rw[hPs];exact .ofc (f:=sgF) (l:=O++[xs[F[j]!.toNat]!]) (n:=O.length+1) (k:=O.length*3+1*3) rO.symm (by simp) (by omega)⟩,by show F.length-(j+1)<F.length-j;omega,jB,(by repeat(first|with_reducible exact zA.nil|exact g4|with_reducible apply zA.c|with_reducible apply zA.drop|with_reducible apply zA.pre|with_reducible apply zA.drops))⟩
     ·rw[List.take_of_length_le (by omega)]at hG
      obtain⟨A2,k1,k2⟩:=hG.own;rw[List.length_map]at k1 k2;subst k1 k2
      repeat'(first|apply zE|apply zD|apply zC|refine jg ?_ ?_|refine jf ?_|apply zB|apply zW|apply zT|apply zJ|apply zU|exact jS|fail)
      all_goals first
       |exact jX
       |(apply yA;(exact(show zO _ _ _ _ [_] from⟨rfl,trivial⟩));exact .inl ⟨rfl,rfl,_,_,nS,A2,F.map (λn=>xs[n.toNat]!),q,rfl,g1,g2,⟨_,_,rfl,λk=>absurd rfl k⟩,⟨by rw[List.length_map,hCl],λi hi=>hSgi i (by rw[<-hCl];exact hi)⟩,g4⟩;(focus repeat(first|with_reducible exact zA.nil|exact g4|with_reducible apply zA.c|with_reducible apply zA.drop|with_reducible apply zA.pre|with_reducible apply zA.drops)))
    ·rw[decide_eq_false h64]
     repeat'(first|apply zE|apply zD|apply zC|refine jg ?_ ?_|refine jd ?_|refine jf ?_|apply zB|apply zV|apply zW|apply zT|apply zJ|apply zU|exact jS|fail)
     all_goals first|exact jX|(apply yA;(exact(show zO _ _ _ _ [_] from⟨rfl,trivial⟩));exact .inr ⟨rfl,9,by decide,rfl,rfl⟩;(focus repeat(first|with_reducible exact zA.nil|exact g4|with_reducible apply zA.c|with_reducible apply zA.drop|with_reducible apply zA.pre|with_reducible apply zA.drops)))
 ·rw[decide_eq_false hck,Bool.false_and]
  have hO:=λh h1 h2=>yBt ss vs (.slice ad1 ss.length fl1) (.slice ad2 vs.length fl2) h h1 h2 (by omega) (by omega) f8 f9 hck;generalize chk ss vs=e at *;refine yG Tryz.func108 rfl rfl ?_
  repeat'(first|apply zE|apply zD|apply zC|refine jr ?_|refine jg ?_ ?_|(apply jm;exact jI)|(apply wP;(iterate 4 exact rfl);exact⟨_,hO _ (h1.lock.re (by repeat(first|with_reducible exact zA.nil|with_reducible apply tT|with_reducible apply zA.drop))) (h2.lock.re (by repeat(first|with_reducible exact zA.nil|with_reducible apply tT|with_reducible apply zA.drop))),zA.nil⟩;exact λ_ _ h=>h.1;(focus(repeat(first|exact xV.c rfl))))|refine jd ?_|apply zB|apply zV|apply zJ|exact jS|exact jL|exact jE|exact True.intro|exact rfl)
  all_goals first|exact jX|exact jF (k:=by exact .inr ⟨rfl,e,hck,rfl,rfl⟩)

def tyB (C:List Sgc)(v:Vr):Bool:=decide (C[v.2.2.2.1.toNat]!.1=knd v.2.1) && (!v.2.2.2.2.1 || decide (C[v.2.2.2.1.toNat]!.1=0/\C[v.2.2.2.1.toNat]!.2.1=wid v.2.2.2.2.2.1 v.2.2.2.2.2.2))
theorem zXs (t:Trc)(s w g a:Value)(bb:Nat)(h q0:SH)(S':List Scp)(V:List Vr)(C:List Sgc)(G:List (Int × Int))(en:Int)(hq:BdS t s w g a bb h S' V C G en q0)(hV:V.length<=1000)(hC:C.length<=100)
  (hs:∀j,j<V.length->0<=V[j]!.2.2.2.1/\V[j]!.2.2.2.1<C.length) :
  zH Tryz.prog 109 [zG bb 0 18] q0 λr q=>(V.all (tyB C)=true/\r=I 0/\q=q0)\/(V.all (tyB C)=false/\∃e:Int,e≠0/\r=I e/\q=h):=by
 obtain⟨s2,v2,g3,A2,X,q2,rfl,h1,h2,h3,⟨hXl,hX⟩,ht⟩:=hq;obtain⟨ad2,fl2,rfl,hh2⟩:=id h2;have hlv:=yK (f:=vrF) (w:=7) (λ_=>rfl) V;have hlx:=yK (f:=sgF) (w:=3) (λ_=>rfl) X;obtain⟨b,hb⟩:∃b,V.all (tyB C)=b:=⟨_,rfl⟩;rw[hb];refine yG Tryz.func109 rfl rfl ?_
 repeat'(first|apply zE|apply zD|apply zC|refine jg ?_ ?_|(apply jm;exact jI)|apply zB|apply zM|exact jS|exact jL|exact jE|exact True.intro|exact rfl)
 all_goals try exact jX
 refine yH (S:=Nat) (λi=>[(0,zG bb 0 18),(10,.slice ad2 V.length fl2),(11,I V.length),(12,I i)]) (λ_=>(bb,⟨[I t.sc,S t.da,S t.ve,S t.co,s,w,g,a,I t.en,I t.sc,S t.da,S t.ve,S t.co,s2,.slice ad2 V.length fl2,os A2 3 C.length,g3,I en],false⟩)::(ob A2 (zF sgF X) C.length++q2))
  (λi=>i<=V.length/\(V.drop i).all (tyB C)=b) (λi=>V.length-i) 0 ⟨Nat.zero_le _,hb⟩ jB (by exact zA.nil) ?_
 rintro i ⟨hi,hg⟩;by_cases hil:i<V.length
 ·obtain⟨Av,rov,p1,rfl,hpv⟩:=hh2 (by omega)
  obtain⟨n1,n2⟩:=hs i hil;rw[tP hil]at hg;obtain⟨e1,e2,e3⟩:=hX V[i]!.2.2.2.1.toNat (by omega);obtain⟨adx,flx,hsx,-⟩:=e3;obtain⟨x,hx⟩:∃x,V[i]! = x:=⟨_,rfl⟩;rw[hx]at hg n1 n2 e1 e2 hsx;have hsub:xF (zF vrF V) (0+((i:Int)).toNat*7) (vrF x):=by rw[<-hx];exact xO (λ_=>rfl) hil
  obtain⟨x1,x2,x3,x4,x5,x6,x7⟩:=x;unfold tyB at hg;dsimp only at hg n1 n2 e1 e2 hsub hsx;have hKd:=λh=>yBs x2 h;have hWd:=λh=>zRj x6 x7 h;have hsub2:xF (zF sgF X) (0+x4.toNat*3) [I C[x4.toNat]!.1,I C[x4.toNat]!.2.1,sxV X[x4.toNat]!]:=by
   rw[<-e1,<-e2];exact kH (λ_=>rfl) (by omega)
  rw[hsx]at hsub2;generalize C[x4.toNat]!.2.2.length=nx at *;clear hsx;generalize C[x4.toNat]!.1=k at *;generalize C[x4.toNat]!.2.1=y at *;generalize knd x2=kk at *;generalize wid x6 x7=ww at *;simp only[wJ (show C.length≠0 by omega),vN (show C.length≠0 by omega),List.cons_append,List.nil_append];have hcase:(k=kk/\(x5=false\/(x5=true/\k=0/\y=ww)))\/(k≠kk\/(k=kk/\x5=true/\(k≠0\/y≠ww))):=by
   by_cases q1:k=kk
   ·cases x5 with
    |false=>exact .inl ⟨q1,.inl rfl⟩
    |true =>
     by_cases q2:k=0/\y=ww
     ·exact .inl ⟨q1,.inr ⟨rfl,q2⟩⟩
     ·exact .inr (.inr ⟨q1,rfl,by omega⟩)
   ·exact .inr (.inl q1)
  rcases hcase with⟨q1,hc5⟩|hc5
  ·rcases hc5 with rfl|⟨rfl,q2,q3⟩
   ·rw[decide_eq_true q1]at hg
    have hg:(V.drop (i+1)).all (tyB C)=b:=hg
    repeat'(first|apply zE|apply zD|apply zC|refine jr ?_|refine jg ?_ ?_|(apply ja;exact jH)|(apply jm;exact jI)|(apply jl;exact jI)|(apply js;exact jJ)|refine jy ?_|(apply wP;(iterate 4 exact rfl);exact⟨_,hKd _,jN⟩;exact λ_ _ h=>h.1;(focus(repeat(first|exact xV.c rfl))))|refine jw ?_|refine jk ?_|refine ji ?_|(apply zX;exact rfl)|refine jd ?_|apply zB|apply zQ|apply zL|apply zM|exact jV|((with_reducible apply Ln.mk);first|rfl|(simp[hlv,hlx,hXl];first|done|omega))|exact jW|exact jE|exact jP|((with_reducible apply Su.mk);first|exact hsub|exact hsub2)|exact True.intro|exact Or.inl rfl|apply And.intro|intro A|exact rfl)
    all_goals first
     |exact jX
     |exact⟨i+1,⟨hil,hg⟩,by show V.length-(i+1)<V.length-i;omega,jB,jT⟩
   ·rw[decide_eq_true q1,decide_eq_true ⟨q2,q3⟩]at hg
    have hg:(V.drop (i+1)).all (tyB C)=b:=hg
    repeat'(first|apply zE|apply zD|apply zC|refine jr ?_|refine jg ?_ ?_|(apply ja;exact jH)|(apply jm;exact jI)|(apply jl;exact jI)|(apply js;exact jJ)|refine jy ?_|(apply wP;(iterate 4 exact rfl);exact⟨_,hKd _,jN⟩;exact λ_ _ h=>h.1;(focus(repeat(first|exact xV.c rfl))))|(apply wP;(iterate 4 exact rfl);exact⟨_,hWd _,jN⟩;exact λ_ _ h=>h.1;(focus(repeat(first|exact xV.c rfl))))|refine jw ?_|refine ji ?_|refine jd ?_|refine jf ?_|apply zB|apply zQ|apply zL|apply zM|exact jV|((with_reducible apply Ln.mk);first|rfl|(simp[hlv,hlx,hXl];first|done|omega))|exact jW|exact jE|exact jP|((with_reducible apply Su.mk);first|exact hsub|exact hsub2)|exact True.intro|exact Or.inl rfl|apply And.intro|intro A|exact rfl)
    all_goals first
     |exact jX
     |exact⟨i+1,⟨hil,hg⟩,by show V.length-(i+1)<V.length-i;omega,jB,jT⟩
  ·have hb2:b=false:=by
    rw[<-hg];rcases hc5 with q1|⟨-,rfl,q2⟩
    ·rw[decide_eq_false q1];rfl
    ·rw[decide_eq_false (p:=k=0/\y=ww) (by omega)]
     cases decide (k=kk) <;> rfl
   subst hb2;rcases hc5 with q1|⟨q0,rfl,q2⟩
   ·repeat'(first|apply zE|apply zD|apply zC|refine jr ?_|refine jg ?_ ?_|(apply jm;exact jI)|(apply jl;exact jI)|(apply js;exact jJ)|refine jy ?_|(apply wP;(iterate 4 exact rfl);exact⟨_,hKd _,jN⟩;exact λ_ _ h=>h.1;(focus(repeat(first|exact xV.c rfl))))|refine jk ?_|(apply eF;iterate 3 exact rfl)|(apply gO;(iterate 3 exact rfl);omega;exact rfl)|(apply yO;exact rfl)|refine jd ?_|apply zB|apply zV|apply xM|apply zL|apply zJ|apply zM|exact jV|((with_reducible apply Ln.mk);first|rfl|(simp[hlv,hlx,hXl];first|done|omega))|exact jE|exact jP|((with_reducible apply Su.mk);first|exact hsub|exact hsub2)|exact True.intro|exact Or.inl rfl|apply And.intro|intro A|exact rfl)
    all_goals first|exact jX|(apply yA;(exact(show zO _ _ _ _ [_] from⟨rfl,trivial⟩));exact .inr ⟨rfl,7,by decide,rfl,rfl⟩;(focus repeat(first|with_reducible exact zA.nil|exact ht|with_reducible apply zA.c|with_reducible apply zA.drop|with_reducible apply zA.pre|with_reducible apply zA.drops)))
   ·repeat'(first|apply zE|apply zD|apply zC|refine jr ?_|refine jg ?_ ?_|(apply jm;exact jI)|(apply jl;exact jI)|(apply js;exact jJ)|refine jy ?_|(apply wP;(iterate 4 exact rfl);exact⟨_,hKd _,jN⟩;exact λ_ _ h=>h.1;(focus(repeat(first|exact xV.c rfl))))|(apply wP;(iterate 4 exact rfl);exact⟨_,hWd _,jN⟩;exact λ_ _ h=>h.1;(focus(repeat(first|exact xV.c rfl))))|refine jw ?_|refine ji ?_|refine jd ?_|(apply mA;exact rfl;all_goals intro hc)|apply zB|apply zV|apply xM|apply zL|apply zJ|apply zM|exact jV|((with_reducible apply Ln.mk);first|rfl|(simp[hlv,hlx,hXl];first|done|omega))|exact jE|exact jP|((with_reducible apply Su.mk);first|exact hsub|exact hsub2)|exact True.intro|exact Or.inl rfl|apply And.intro|intro A|exact rfl)
    all_goals first|exact jX|(apply yA;(exact(show zO _ _ _ _ [_] from⟨rfl,trivial⟩));exact .inr ⟨rfl,7,by decide,rfl,rfl⟩;(focus repeat(first|with_reducible exact zA.nil|exact ht|with_reducible apply zA.c|with_reducible apply zA.drop|with_reducible apply zA.pre|with_reducible apply zA.drops)))|(apply yA;(exact(show zO _ _ _ _ [_] from⟨rfl,trivial⟩));exact .inr ⟨rfl,8,by decide,rfl,rfl⟩;(focus repeat(first|with_reducible exact zA.nil|exact ht|with_reducible apply zA.c|with_reducible apply zA.drop|with_reducible apply zA.pre|with_reducible apply zA.drops)))
 ·rw[tQ (by omega)]at hg
  subst hg
  repeat'(first|apply zE|apply zD|apply zC|refine jg ?_ ?_|refine jf ?_|apply zB|apply zW|apply zT|apply zJ|apply zU|exact jS|fail)
  all_goals first|exact jX|exact jF (k:=by exact .inl ⟨rfl,rfl,rfl⟩)
def mpd {α:Type}(f:α->α)(l:List α)(i:Nat):List α:=(l.take i).map f++l.drop i
theorem gS {α:Type}{f:α->α}{l:List α}{i:Nat}:(mpd f l i).length=l.length:=by
 unfold mpd;rw[List.length_append,List.length_map,List.length_take,List.length_drop];omega
theorem zIz {α:Type}[Inhabited α]{f:α->α}{l:List α}{i:Nat}(h:i<l.length):(mpd f l i)[i]! = l[i]!:=by
 unfold mpd;rw[wD h];exact eW (by rw[List.length_map,List.length_take];omega)
theorem zGf {α:Type}[Inhabited α]{f:α->α}{l:List α}{i:Nat}(h:i<l.length):(mpd f l i).set i (f l[i]!)=mpd f l (i+1):=by
 unfold mpd;rw[wD h,iH (by rw[List.length_map,List.length_take];omega),iR h]
theorem zKp {α:Type}{f:α->α}{l:List α}{i:Nat}(h:l.length<=i):mpd f l i=l.map f:=by
 unfold mpd;rw[List.take_of_length_le h,List.drop_of_length_le h,List.append_nil]
theorem Sg.set {q q':SH}{X:List Sx}{C:List Sgc}{j:Nat}{y:Sx}{c:Sgc}(k:Sg q X C)(t:zA q' q)(hj:j<C.length)(hy:SgH q' y c):Sg q' (X.set j y) (C.set j c):=by
 refine⟨by rw[List.length_set,List.length_set];exact k.1,λi hi=>?_⟩;rw[List.length_set]at hi;by_cases e:j=i
 ·subst e
  rw[aC (by rw[k.1];exact hj),aC hj];exact hy
 ·rw[gV e,gV e];exact(k.2 i hi).re t
theorem zJn {a:Nat}{k w:Int}{L:List Chg}{q:SH}:SgH (ob a (zF chF L) L.length++q) (osx (a,(k,w,L))) (k,w,L):=⟨rfl,rfl,rW⟩
def nmS (g:Sgc):Sgc:=(g.1,g.2.1,nrm g.1 (ini g.1 g.2.1) g.2.2)
noncomputable def nzS (g:Sgc):Bool:=vty g.1 g.2.1 && nzl g.1 g.2.1 0 g.2.2
theorem yCq (t:Trc)(s w g a:Value)(bb:Nat)(h q0:SH)(S':List Scp)(V:List Vr)(C:List Sgc)(G:List (Int × Int))(en:Int)(hq:BdS t s w g a bb h S' V C G en q0)(hC:C.length<=100)
  (hc:∀g∈C,g.2.2.length<=4000/\∀c∈g.2.2,c.2.length<=1000) :
  zH Tryz.prog 110 [zG bb 0 18] q0 λr q=>(C.all nzS=true/\r=I 0/\BdS t s w g a bb h S' V (C.map nmS) G en q)\/(C.all nzS=false/\∃e:Int,e≠0/\r=I e/\q=h):=by
 obtain⟨s2,v2,g3,A2,X,q2,rfl,h1,h2,h3,hX,ht⟩:=hq;unfold BdS;rw[List.length_map];obtain⟨b,hb⟩:∃b,C.all nzS=b:=⟨_,rfl⟩;rw[hb];obtain⟨n,hn⟩:∃n,C.length=n:=⟨_,rfl⟩;rw[hn]at hC ⊢;obtain⟨adg,flg,hos⟩:∃ad fl,os A2 3 n=.slice ad n fl:=⟨_,_,rfl⟩;refine yG Tryz.func110 rfl rfl ?_;rw[hos]
 repeat'(first|apply zE|apply zD|apply zC|refine jg ?_ ?_|(apply jm;exact jI)|apply zB|apply zM|exact jS|exact jL|exact jE|exact True.intro|exact rfl)
 rw[<-hos]
 all_goals try exact jX
 refine yH (S:=Nat × List Sx × SH) (λx=>[(0,zG bb 0 18),(11,os A2 3 n),(12,I n),(13,I x.1)]) (λx=>(bb,⟨[I t.sc,S t.da,S t.ve,S t.co,s,w,g,a,I t.en,I t.sc,S t.da,S t.ve,S t.co,s2,v2,os A2 3 n,g3,I en],false⟩)::(ob A2 (zF sgF x.2.1) n++x.2.2))
  (λx=>x.1<=n/\(C.drop x.1).all nzS=b/\Sg x.2.2 x.2.1 (mpd nmS C x.1)/\zA x.2.2 q2) (λx=>n-x.1) (0,X,q2) ⟨Nat.zero_le _,hb,hX,.nil⟩ jB (by exact zA.nil) ?_
 rintro⟨j,Y,q⟩ ⟨hj,hg,hS,htq⟩;dsimp only at hj hg hS htq ⊢;by_cases hjn:j<n
 ·have hn0:n≠0:=by omega
  rw[tP (by omega)]at hg;obtain⟨e1,e2,e3⟩:=hS.2 j (by rw[gS,hn];exact hjn);rw[zIz (f:=nmS) (l:=C) (i:=j) (by omega)]at e1 e2 e3;obtain⟨c1,c2⟩:=hc _ (xD (l:=C) (i:=j) (by omega));have hYl:Y.length=n:=by rw[hS.1,gS,hn]
  have hlx:(zF sgF Y).length=n*3:=by rw[yK (f:=sgF) (w:=3) (λ_=>rfl),hYl]
  have hN:=λh hv=>zUq C[j]!.1 C[j]!.2.1 C[j]!.2.2 (sxV Y[j]!) h hv (by omega) (λx hx=>by have:=c2 x hx;omega);unfold NzR MdR at hN;have hset:=zGf (f:=nmS) (show j<C.length by omega);have hsub:xF (zF sgF Y) (0+((j:Int)).toNat*3) [I C[j]!.1,I C[j]!.2.1,sxV Y[j]!]:=by rw[<-e1,<-e2];exact xO (λ_=>rfl) (by omega)
  have hput:∀A,rJ (zF sgF Y) (0+((j:Int)).toNat*3) [I C[j]!.1,I C[j]!.2.1,os A 2 (nrm C[j]!.1 (ini C[j]!.1 C[j]!.2.1) C[j]!.2.2).length] (zF sgF (Y.set j (osx (A,nmS C[j]!)))):=λA=>eU (f:=sgF) (w:=3) (x:=osx (A,nmS C[j]!)) (λ_=>rfl) (by omega);have hnew:∀A,Sg (ob A (zF chF (nrm C[j]!.1 (ini C[j]!.1 C[j]!.2.1) C[j]!.2.2)) (nrm C[j]!.1 (ini C[j]!.1 C[j]!.2.1) C[j]!.2.2).length++q) (Y.set j (osx (A,nmS C[j]!))) (mpd nmS C (j+1)):=λA=>by
   rw[<-hset];exact hS.set (zA.drops .nil) (by rw[gS,hn];exact hjn) zJn
  unfold nzS at hg;generalize nrm C[j]!.1 (ini C[j]!.1 C[j]!.2.1) C[j]!.2.2=L at *;generalize C[j]!.1=k at *;generalize C[j]!.2.1=y at *;obtain⟨ads,fls,hsx,-⟩:=id e3;rw[hsx]at e3 hN hsub;generalize (vty k y && nzl k y 0 C[j]!.2.2)=ok at *;simp only[wJ hn0,vN hn0,List.cons_append,List.nil_append];cases ok with
  |true =>
   rw[Bool.true_and]at hg;have hN:=λh hv=>(hN h hv).mono λr q g=>g.resolve_right λg=>Bool.noConfusion g.1
   repeat'(first|apply zE|apply zD|apply zC|refine jr ?_|refine jg ?_ ?_|(apply ja;exact jH)|(apply jm;exact jI)|(apply jl;exact jI)|(apply js;exact jJ)|refine jy ?_|(apply zZ;exact rfl;exact rfl;exact rfl;exact rfl;exact⟨_,hN _ (e3.re jD),zA.nil⟩;rintro _ _ ⟨-,A5,rfl,rfl⟩)|(apply zX;exact rfl)|refine jd ?_|apply zB|apply zQ|apply zL|apply zM|exact jO|((with_reducible apply Ln.mk);first|rfl|omega)|exact jW|exact jE|((with_reducible apply Pu.mk);first|exact kE rfl|exact hput _)|((with_reducible apply Su.mk);first|exact hsub|exact xY)|exact True.intro|exact Or.inl rfl|apply And.intro|intro A|exact rfl)
   all_goals first
    |exact jX
    |exact⟨(j+1,Y.set j (osx (A5,nmS C[j]!)),ob A5 (zF chF L) L.length++q),⟨hjn,hg,hnew A5,(zA.drops .nil:zA _ q).trans htq⟩,by show n-(j+1)<n-j;omega,jB,jT⟩
  |false =>
   rw[Bool.false_and]at hg;subst hg;have hN:=λh hv=>(hN h hv).mono λr q g=>g.resolve_left λg=>Bool.noConfusion g.1;have htt:=htq.trans ht
   repeat'(first|apply zE|apply zD|apply zC|refine jg ?_ ?_|(apply jm;exact jI)|(apply jl;exact jI)|(apply js;exact jJ)|refine jy ?_|(apply zZ;exact rfl;exact rfl;exact rfl;exact rfl;exact⟨_,hN _ (e3.re jD),zA.nil⟩;rintro _ _ ⟨-,e,he,rfl,rfl⟩)|refine jd ?_|apply zB|apply zV|apply xM|apply zL|apply zJ|apply zM|exact jO|((with_reducible apply Ln.mk);first|rfl|omega)|exact jE|exact jP|((with_reducible apply Su.mk);first|exact hsub)|exact True.intro|intro A|exact rfl)
   all_goals first|exact jX|(apply yA;(exact(show zO _ _ _ _ [_] from⟨rfl,trivial⟩));exact .inr ⟨rfl,_,he,rfl,rfl⟩;(focus repeat(first|with_reducible exact zA.nil|exact htt|with_reducible apply zA.c|with_reducible apply zA.drop|with_reducible apply zA.pre|with_reducible apply zA.drops)))
 ·rw[tQ (by omega)]at hg
  subst hg;rw[zKp (by omega)]at hS
  repeat'(first|apply zE|apply zD|apply zC|refine jg ?_ ?_|refine jf ?_|apply zB|apply zW|apply zT|apply zJ|apply zU|exact jS|fail)
  all_goals first|exact jX|exact jF (k:=by exact .inl ⟨rfl,rfl,s2,v2,g3,A2,Y,q,rfl,h1.re htq,h2.re htq,h3.re htq,hS,htq.trans ht⟩)

def tmG :Int->List (Int × Int)->Int->List (Int × Int)->Option (List (Int × Int) × Int)
 |_,O,e,[]=>some (O,e)
 |b,O,e,g::r=>if g.1<b\/g.1<0\/g.2<=g.1\/1099511627777<g.2 then none else tmG g.1 (mrg O g) (max e (g.2-1)) r
theorem yNr {b e:Int}{O l:List (Int × Int)}{i:Nat}(h:i<l.length):tmG b O e (l.drop i)=if l[i]!.1<b\/l[i]!.1<0\/l[i]!.2<=l[i]!.1\/1099511627777<l[i]!.2 then none else tmG l[i]!.1 (mrg O l[i]!) (max e (l[i]!.2-1)) (l.drop (i+1)):=by rw[wD h];rfl
def tmE :Int->List Sgc->Int
 |e,[]=>e
 |e,g::r=>tmE (if g.2.2.length=0 then e else max e g.2.2[g.2.2.length-1]!.1) r
theorem yJs {e:Int}{l:List Sgc}{i:Nat}(h:i<l.length):tmE e (l.drop i)=tmE (if l[i]!.2.2.length=0 then e else max e l[i]!.2.2[l[i]!.2.2.length-1]!.1) (l.drop (i+1)):=by rw[wD h];rfl
theorem zDc {O:List (Int × Int)}{g:Int × Int}:(mrg O g).length<=O.length+1/\1<=(mrg O g).length:=by
 unfold mrg;split
 ·rename_i h
  have:O.length≠0:=λk=>h.1 (List.length_eq_zero_iff.1 k);rw[List.length_append,List.length_take,List.length_singleton];omega
 ·rw[List.length_append,List.length_singleton];omega
theorem yPe {O:List (Int × Int)}{g:Int × Int}:∀{b:Int},gch b O->(O=[]->b<g.1)->(O≠[]->O[O.length-1]!.2<g.1)->g.1<g.2->gch b (O++[g]):=by
 induction O with
 |nil=>intro b _ h1 _ h3;exact⟨h1 rfl,h3,trivial⟩
 |cons x r ih =>
  intro b h _ h2 h3;refine⟨h.1,h.2.1,ih h.2.2 (λe=>?_) (λhr=>?_) h3⟩
  ·subst e;exact h2 (by simp)
  ·have:=h2 (by simp)
   have hl:r.length≠0:=λk=>hr (List.length_eq_zero_iff.1 k);rw[List.length_cons,Nat.add_sub_cancel,getElem!_pos _ _ (by rw[List.length_cons];omega)]at this;rw[getElem!_pos r _ (by omega)];have e:(x::r)[r.length]'(by rw[List.length_cons];omega)=r[r.length-1]'(by omega):=by
    obtain⟨n,hn⟩:∃n,r.length=n+1:=⟨r.length-1,by omega⟩;simp only[hn,List.getElem_cons_succ,Nat.add_sub_cancel]
   rw[e]at this;exact this
theorem zOm {α:Type}[Inhabited α]{O:List α}(h:O≠[]):O=O.take (O.length-1)++[O[O.length-1]!]:=by
 have hl:O.length≠0:=λk=>h (List.length_eq_zero_iff.1 k);rw[<-tN (by omega),show O.length-1+1=O.length by omega,List.take_length]
theorem zEq {α:Type}[Inhabited α]{O:List α}{x:α}:(O++[x])[(O++[x]).length-1]! = x:=zRy
theorem yBp {O:List (Int × Int)}{x y:Int × Int}(h1:x.1=y.1)(h2:y.1<y.2):∀{b:Int},gch b (O++[x])->gch b (O++[y]):=by
 induction O with
 |nil=>intro b h;exact⟨by show b<y.1;rw[<-h1];exact h.1,h2,trivial⟩
 |cons z r ih=>intro b h;exact⟨h.1,h.2.1,ih h.2.2⟩
structure Tg (b:Int)(O:List (Int × Int)):Prop where
 ch:gch (-1) O
 la:O≠[]->O[O.length-1]!.1<=b
 le:∀g∈O,g.2<=1099511627777
theorem zKt {b:Int}{O:List (Int × Int)}{g:Int × Int}(h:Tg b O)(hc:¬(g.1<b\/g.1<0\/g.2<=g.1\/1099511627777<g.2)):Tg g.1 (mrg O g):=by
 obtain⟨h1,h2,h3⟩:=h;unfold mrg;split
 ·rename_i q
  have hs:=zOm q.1;have hl:=h2 q.1;have hm:=pR h1 _ (show O[O.length-1]!∈O by
   have:O.length≠0:=λk=>q.1 (List.length_eq_zero_iff.1 k);exact xD (by omega))
  have hb:=h3 _ (show O[O.length-1]!∈O by
   have:O.length≠0:=λk=>q.1 (List.length_eq_zero_iff.1 k);exact xD (by omega))
  generalize O[O.length-1]! = l at *;refine⟨?_,λ_=>by rw[zEq];show l.1<=g.1;omega,λx hx=>?_⟩
  ·rw[hs]at h1
   exact yBp (x:=l) (y:=(l.1,max l.2 g.2)) rfl (by show l.1<max l.2 g.2;omega) h1
  ·rcases List.mem_append.1 hx with hx|hx
   ·exact h3 x (List.mem_of_mem_take hx)
   ·rw[List.mem_singleton.1 hx];show max l.2 g.2<=_;omega
 ·rename_i q
  refine⟨yPe h1 (λ_=>by omega) (λhO=>by
   have:¬g.1<=O[O.length-1]!.2:=λk=>q ⟨hO,k⟩;omega) (by omega),λ_=>by rw[zEq];exact Int.le_refl _,λx hx=>?_⟩
  rcases List.mem_append.1 hx with hx|hx
  ·exact h3 x hx
  ·rw[List.mem_singleton.1 hx];omega
theorem zIv {l:List (Int × Int)}:∀{b e:Int} {O O':List (Int × Int)} {e':Int},Tg b O->tmG b O e l=some (O',e')->(gch (-1) O'/\∀g∈O',g.2<=1099511627777)/\(e<=1099511627776->e'<=1099511627776)/\O'.length<=O.length+l.length/\(O'.length=O.length+l.length->O'=O++l)/\e<=e'/\∀g∈l,g.2-1<=e':=by
 induction l with
 |nil =>
  intro b e O O' e' h g;obtain⟨rfl,rfl⟩:=Prod.mk.inj (Option.some.inj g);exact⟨⟨h.ch,h.le⟩,id,Nat.le_refl _,λ_=>(List.append_nil O).symm,Int.le_refl _,λg hg=>by cases hg⟩
 |cons x r ih =>
  intro b e O O' e' h g;unfold tmG at g;split at g
  ·cases g
  ·rename_i hc
   obtain⟨q1,q2,q3,q4,q5,q6⟩:=ih (zKt h hc) g;have hm:=@zDc O x;refine⟨q1,λhe=>q2 (by omega),by rw[List.length_cons];omega,λhl=>?_,by omega,λy hy=>?_⟩
   ·rw[List.length_cons]at hl
    have hne:¬(O≠[]/\x.1<=O[O.length-1]!.2):=λk=>by
     have:(mrg O x).length=O.length:=by
      have:O.length≠0:=λj=>k.1 (List.length_eq_zero_iff.1 j);unfold mrg;rw[if_pos k,List.length_append,List.length_take,List.length_singleton];omega
     omega
    have hmr:mrg O x=O++[x]:=if_neg hne;rw[q4 (by rw[hmr,List.length_append,List.length_singleton];omega),hmr,List.append_assoc];rfl
   ·rcases List.mem_cons.1 hy with rfl|hy
    ·omega
    ·exact q6 y hy
theorem zLn {C:List Sgc}:∀{e:Int},(e<=tmE e C)/\(e<=1099511627776->(∀g∈C,∀c∈g.2.2,c.1<=1099511627776)->tmE e C<=1099511627776)/\∀g∈C,g.2.2.length≠0->g.2.2[g.2.2.length-1]!.1<=tmE e C:=by
 induction C with
 |nil=>intro e;exact⟨Int.le_refl _,λh _=>h,λg hg=>by cases hg⟩
 |cons x r ih =>
  intro e;rw[show tmE e (x::r)=tmE (if x.2.2.length=0 then e else max e x.2.2[x.2.2.length-1]!.1) r from rfl];by_cases hx:x.2.2.length=0
  ·rw[if_pos hx]
   obtain⟨i1,i2,i3⟩:=@ih e;refine⟨i1,λh1 h2=>i2 h1 λg hg=>h2 g (List.mem_cons_of_mem _ hg),λg hg hl=>?_⟩;rcases List.mem_cons.1 hg with rfl|hg
   ·exact absurd hx hl
   ·exact i3 g hg hl
  ·rw[if_neg hx]
   obtain⟨i1,i2,i3⟩:=@ih (max e x.2.2[x.2.2.length-1]!.1);refine⟨by omega,λh1 h2=>i2 (by have:=h2 x List.mem_cons_self _ (xD (l:=x.2.2) (i:=x.2.2.length-1) (by omega));omega) λg hg=>h2 g (List.mem_cons_of_mem _ hg),λg hg hl=>?_⟩;rcases List.mem_cons.1 hg with rfl|hg
   ·omega
   ·exact i3 g hg hl
theorem zOq {O:List (Int × Int)}{x:Int}(hO:O≠[]):yD (zF prF O) (0+((O.length:Int)-1).toNat*2+1) (I x) (zF prF (O.take (O.length-1)++[(O[O.length-1]!.1,x)])):=by
 have hl:O.length≠0:=λk=>hO (List.length_eq_zero_iff.1 k);have e:O.take (O.length-1)++[(O[O.length-1]!.1,x)]=O.set (O.length-1) (O[O.length-1]!.1,x):=by
  have h1:=zGf (f:=λ_:Int × Int=>(O[O.length-1]!.1,x)) (l:=O) (i:=O.length-1) (by omega)
  conv=>rhs;arg 1;rw[zOm hO]
  rw[iH (by rw[List.length_take];omega)]
 rw[e,show((O.length:Int)-1).toNat=O.length-1 by omega];have:=oH (f:=prF) (w:=2) (l:=O) (i:=O.length-1) (j:=1) (x:=(O[O.length-1]!.1,x)) (v:=I x) (λ_=>rfl) (by omega) (by decide) rfl;rw[Int.toNat_natCast]at this;exact this
theorem yOo {A B n m:Nat}{c d:List Value}{q:SH}:zA (ob A c n++(ob B d m++q)) (ob B d m++(ob A c n++q)):=by
 unfold ob;split <;> split
 ·exact .nil
 ·exact .nil
 ·exact .nil
 ·exact .cons (.tail .head) .nil
theorem zZo (t:Trc)(s w g:Value)(a:Value)(bb:Nat)(h q0:SH)(S':List Scp)(V:List Vr)(C:List Sgc)(hq:BdS t s w g a bb h S' V C [] 0 q0)(h4:Has h (zF prF t.ga) 2 t.ga.length a)(hC:C.length<=100)(hga:t.ga.length<=100)
  (hc:∀g∈C,g.2.2.length<=4000/\∀c∈g.2.2,0<=c.1/\c.1<=1099511627776) :
  zH Tryz.prog 111 [zG bb 0 18] q0 λr q=>(∃O e,(0<=t.en/\t.en<=1099511627776)/\tmG 0 [] t.en t.ga=some (O,e)/\r=I 0/\BdS t s w g a bb h S' V C O (tmE e C) q)\/(((0<=t.en/\t.en<=1099511627776)->tmG 0 [] t.en t.ga=none)/\∃e:Int,e≠0/\r=I e/\q=h):=by
 obtain⟨s2,v2,g3,A2,X,q2,rfl,h1,h2,h3,hX,ht⟩:=hq;obtain⟨ada,fla,rfl,hha⟩:=id h4;unfold BdS;obtain⟨R,hR⟩:∃R,tmG 0 [] t.en t.ga=R:=⟨_,rfl⟩;rw[hR];by_cases hen:0<=t.en/\t.en<=1099511627776
 ·obtain⟨qb,hqb⟩:∃qb,ob A2 (zF sgF X) C.length++q2=qb:=⟨_,rfl⟩
  have htb:zA qb h:=by rw[<-hqb];exact(zA.drops .nil:zA _ q2).trans ht
  rw[hqb];refine yG Tryz.func111 rfl rfl ?_
  repeat'(first|apply zE|apply zD|apply zC|refine jg ?_ ?_|(apply jm;exact jI)|refine jw ?_|refine ji ?_|refine jf ?_|apply zB|apply zL|apply zM|exact jS|exact jL|exact jE|exact True.intro|exact rfl)
  all_goals try exact jX
  have hlg:=yK (f:=prF) (w:=2) (λ_=>rfl) t.ga;refine yH (S:=Nat × Int × List (Int × Int) × Int × Value × SH) (λx=>[(0,zG bb 0 18),(3,I x.2.2.2.1),(4,I x.2.1),(5,x.2.2.2.2.1),(27,.slice ada t.ga.length fla),(28,I t.ga.length),(29,I x.1)]) (λx=>(bb,⟨[I t.sc,S t.da,S t.ve,S t.co,s,w,g,.slice ada t.ga.length fla,I t.en,I t.sc,S t.da,S t.ve,S t.co,s2,v2,os A2 3 C.length,g3,I 0],false⟩)::x.2.2.2.2.2)
   (λx=>x.1<=t.ga.length/\x.2.2.1.length<=x.1/\(0<=x.2.1/\x.2.1<=1099511627777)/\(0<=x.2.2.2.1/\x.2.2.2.1<=1099511627776)/\Tg x.2.1 x.2.2.1/\GrR prF 2 qb x.2.2.1 x.2.2.2.2.1 x.2.2.2.2.2/\tmG x.2.1 x.2.2.1 x.2.2.2.1 (t.ga.drop x.1)=R) (λx=>t.ga.length-x.1)
   (0,0,[],t.en,nS,qb) ⟨Nat.zero_le _,Nat.zero_le _,⟨by show(0:Int)<=0;decide,by show(0:Int)<=1099511627777;decide⟩,hen,⟨trivial,λk=>absurd rfl k,λg hg=>by cases hg⟩,.nil,hR⟩ jB (by exact zA.nil) ?_
  rintro⟨i,b,O,e,u,q⟩ ⟨hi,hOl,hb,he,hT,hG,hg⟩;dsimp only at hi hOl hb he hT hG hg ⊢;by_cases hil:i<t.ga.length
  ·obtain⟨Ag,rog,p1,rfl,hpg⟩:=hha (by omega)
   obtain⟨p2,hpg2,_⟩:=(hG.tk.trans htb).pick hpg;rw[yNr hil]at hg;have hTm:=@zKt b O t.ga[i]! hT;obtain⟨y,hy⟩:∃y,t.ga[i]! = y:=⟨_,rfl⟩;have hsub:xF (zF prF t.ga) (0+((i:Int)).toNat*2) (prF y):=by rw[<-hy];exact xO (λ_=>rfl) hil
   rw[hy]at hg hTm;obtain⟨y1,y2⟩:=y;dsimp only at hg hTm;have hmb:=(@zDc O (y1,y2)).1;by_cases hbad:y1<b\/y1<0\/y2<=y1\/1099511627777<y2
   ·rw[if_pos hbad]at hg
    subst hg;have htt:=hG.tk.trans htb
    repeat'(first|apply zE|apply zD|apply zC|refine jg ?_ ?_|(apply jm;exact jI)|(apply jl;exact jI)|(apply js;exact jJ)|refine jy ?_|refine jw ?_|refine jk ?_|refine ji ?_|(apply vJ;(iterate 3 exact rfl);all_goals intro hc)|(apply yO;exact rfl)|refine jd ?_|apply zB|apply zV|apply xM|apply zL|apply zJ|apply zM|exact jO|((with_reducible apply Ln.mk);first|rfl|(simp[hlg];first|done|omega))|exact jE|exact jP|((with_reducible apply Su.mk);first|exact hsub)|exact True.intro|intro A|exact rfl)
    all_goals first|exact jX|(apply yA;(exact(show zO _ _ _ _ [_] from⟨rfl,trivial⟩));exact .inr ⟨λ_=>rfl,_,(by decide:(2:Int)≠0),rfl,rfl⟩;(focus repeat(first|with_reducible exact zA.nil|exact htt|with_reducible apply zA.c|with_reducible apply zA.drop|with_reducible apply zA.pre|with_reducible apply zA.drops)))
   ·rw[if_neg hbad]at hg
    have hTm:=hTm hbad;have hob:=yK (f:=prF) (w:=2) (λ_=>rfl) O;cases hG with
    |nil =>
     have hmr:mrg [] (y1,y2)=[(y1,y2)]:=if_neg λk=>k.1 rfl
     repeat'(first|apply zE|apply zD|apply zC|refine jr ?_|refine jg ?_ ?_|(apply ja;exact jH)|(apply uQ;iterate 3 exact rfl)|(apply jm;exact jI)|(apply jl;exact jI)|(apply js;exact jJ)|refine jy ?_|(apply xT zK;(iterate 5 exact rfl);decide;exact rfl;decide;(focus repeat(first|exact xE.last rfl));exact rfl)|(apply qD zK;(iterate 5 exact rfl);exact⟨by decide⟩;exact pk)|refine jw ?_|refine jk ?_|refine ji ?_|(apply zX;exact rfl)|refine jd ?_|refine jf ?_|apply zB|apply zQ|apply zL|apply zM|exact jV|((with_reducible apply Ln.mk);first|rfl|(simp[hlg];first|done|omega))|exact jW|exact jE|exact jP|((with_reducible apply Su.mk);first|exact hsub|exact xY)|exact True.intro|intro A|exact rfl)
     all_goals first
      |exact jX
      |exact⟨(i+1,y1,mrg [] (y1,y2),max e (y2-1),gsl A 0 (1*2) 1 2,(A,⟨prF (y1,y2),false⟩)::qb),⟨hil,by show(mrg [] (y1,y2)).length<=i+1;rw[hmr];show 1<=i+1;omega,by show 0<=y1/\y1<=_;omega,by show 0<=max e (y2-1)/\max e (y2-1)<=_;omega,hTm,by show GrR prF 2 qb (mrg [] (y1,y2)) _ _;rw[hmr];exact .ofc (f:=prF) (l:=[(y1,y2)]) (n:=1) (k:=1*2) tW.symm rfl rfl,hg⟩,by show t.ga.length-(i+1)<t.ga.length-i;omega,jB,jT⟩
    |some A4 _ hO0 =>
     have hOp:0<O.length:=by
      rcases Nat.eq_zero_or_pos O.length with k|k
      ·exact absurd (List.length_eq_zero_iff.1 k) hO0
      ·exact k
     have hcl:(zF prF O)[0+((O.length:Int)-1).toNat*2+1]?=some (I O[O.length-1]!.2):=by
      rw[show((O.length:Int)-1).toNat=O.length-1 by omega];exact tX (λ_=>rfl) (by omega) (by decide) rfl
     have hst:=zOq (x:=max O[O.length-1]!.2 y2) hO0;by_cases hm:y1<=O[O.length-1]!.2
     ·have hmr:mrg O (y1,y2)=O.take (O.length-1)++[(O[O.length-1]!.1,max O[O.length-1]!.2 y2)]:=if_pos ⟨hO0,hm⟩
      have hml:(O.take (O.length-1)++[(O[O.length-1]!.1,max O[O.length-1]!.2 y2)]).length=O.length:=by rw[List.length_append,List.length_take,List.length_singleton];omega
      repeat'(first|apply zE|apply zD|apply zC|refine jr ?_|refine jg ?_ ?_|(apply ja;exact jH)|(apply uQ;iterate 3 exact rfl)|(apply jm;exact jI)|(apply jl;exact jI)|(apply yV zK;(iterate 4 exact rfl);exact up)|(apply js;exact jJ)|refine jy ?_|refine jw ?_|refine jh ?_|refine ji ?_|refine jd ?_|refine jf ?_|apply zB|apply zQ|apply zL|apply zM|exact jO|((with_reducible apply Ln.mk);first|rfl|omega|(simp[hlg,hob];first|done|omega))|exact jW|((with_reducible apply Ce.mk);first|rfl|exact hcl)|((with_reducible apply Se.mk);first|exact hst)|exact jP|((with_reducible apply Su.mk);first|exact hsub)|exact True.intro|exact Or.inl rfl|apply And.intro|intro A|exact rfl)
      all_goals first
       |exact jX
       |exact⟨(i+1,y1,mrg O (y1,y2),max e (y2-1),gsl A4 0 (O.length*2) O.length 2,(A4,⟨zF prF (O.take (O.length-1)++[(O[O.length-1]!.1,max O[O.length-1]!.2 y2)]),false⟩)::qb),⟨hil,by show(mrg O (y1,y2)).length<=i+1;omega,by show 0<=y1/\y1<=_;omega,by show 0<=max e (y2-1)/\max e (y2-1)<=_;omega,hTm,by show GrR prF 2 qb (mrg O (y1,y2)) _ _;rw[hmr];exact .ofc rfl hml rfl,hg⟩,by show t.ga.length-(i+1)<t.ga.length-i;omega,jB,jT⟩
     ·have hmr:mrg O (y1,y2)=O++[(y1,y2)]:=if_neg λk=>hm k.2
      repeat'(first|apply zE|apply zD|apply zC|refine jr ?_|refine jg ?_ ?_|(apply ja;exact jH)|(apply uQ;iterate 3 exact rfl)|(apply jm;exact jI)|(apply jl;exact jI)|(apply js;exact jJ)|refine jy ?_|(apply xT zK;(iterate 5 exact rfl);decide;exact rfl;decide;(focus repeat(first|exact xE.last rfl));exact rfl)|(apply qK zK;(iterate 5 exact rfl);exact⟨by decide⟩;exact up;exact pk)|refine jw ?_|refine jh ?_|refine ji ?_|refine jd ?_|refine jf ?_|apply zB|apply zQ|apply zL|apply zM|exact jV|((with_reducible apply Ln.mk);first|rfl|omega|(simp[hlg,hob];first|done|omega))|exact jW|((with_reducible apply Ce.mk);first|rfl|exact hcl)|exact jP|((with_reducible apply Su.mk);first|exact hsub|exact xY)|exact True.intro|intro A|exact rfl)
      all_goals first
       |exact jX
       |exact⟨(i+1,y1,mrg O (y1,y2),max e (y2-1),gsl A4 0 (O.length*2+1*2) (O.length+1) 2,(A4,⟨zF prF O++prF (y1,y2),false⟩)::qb),⟨hil,by show(mrg O (y1,y2)).length<=i+1;omega,by show 0<=y1/\y1<=_;omega,by show 0<=max e (y2-1)/\max e (y2-1)<=_;omega,hTm,by show GrR prF 2 qb (mrg O (y1,y2)) _ _;rw[hmr];exact .ofc (f:=prF) (l:=O++[(y1,y2)]) (n:=O.length+1) rO.symm (by simp) (by omega),hg⟩,by show t.ga.length-(i+1)<t.ga.length-i;omega,jB,jT⟩
  ·rw[List.drop_of_length_le (by omega)]at hg
   have hg:some (O,e)=R:=hg;subst hg;obtain⟨E,hE⟩:∃E,tmE e C=E:=⟨_,rfl⟩;obtain⟨A5,k1,k2⟩:=hG.own;subst k1 k2 hqb;have hfin:Has (ob A5 (zF prF O) O.length++q2) (zF prF O) 2 O.length (os A5 2 O.length):=rW;have hlx:=yK (f:=sgF) (w:=3) (λ_=>rfl) X;obtain⟨n,hn⟩:∃n,C.length=n:=⟨_,rfl⟩;obtain⟨hXl,hXi⟩:=id hX;rw[hn]at hC hXl ⊢;obtain⟨ad7,fl7,hos⟩:∃ad fl,os A2 3 n=.slice ad n fl:=⟨_,_,rfl⟩;obtain⟨ad8,fl8,hos8⟩:∃ad fl,os A5 2 O.length=.slice ad O.length fl:=⟨_,_,rfl⟩;rw[hos,hos8]
   repeat'(first|apply zE|apply zD|apply zC|refine jg ?_ ?_|(apply jm;exact jI)|refine jf ?_|apply zB|apply zW|apply zT|apply zU|apply zM|exact jS|exact jL|exact jE|exact True.intro|exact rfl)
   rw[<-hos,<-hos8]
   all_goals try exact jX
   refine yH (S:=Nat × Int) (λx=>[(0,zG bb 0 18),(3,I x.2),(5,os A5 2 O.length),(99,os A2 3 n),(100,I n),(101,I x.1)]) (λx=>(bb,⟨[I t.sc,S t.da,S t.ve,S t.co,s,w,g,.slice ada t.ga.length fla,I t.en,I t.sc,S t.da,S t.ve,S t.co,s2,v2,os A2 3 n,g3,I 0],false⟩)::(ob A5 (zF prF O) O.length++(ob A2 (zF sgF X) n++q2)))
    (λx=>x.1<=n/\(0<=x.2/\x.2<=1099511627776)/\tmE x.2 (C.drop x.1)=E) (λx=>n-x.1) (0,e) ⟨Nat.zero_le _,he,hE⟩ jB (by exact zA.nil) ?_
   rintro⟨j,e2⟩ ⟨hj,he2,hg⟩;dsimp only at hj he2 hg ⊢;by_cases hjn:j<n
   ·rw[yJs (by omega)]at hg
    obtain⟨x1,x2,x3⟩:=hXi j (by omega);obtain⟨c1,c2⟩:=hc _ (xD (l:=C) (i:=j) (by omega));obtain⟨adx,flx,hsx,hhx⟩:=id x3;have hsub:xF (zF sgF X) (0+((j:Int)).toNat*3) [I X[j]!.1,I X[j]!.2.1,.slice adx C[j]!.2.2.length flx]:=by rw[<-hsx];exact xO (λ_=>rfl) (by omega)
    simp only[wJ (show n≠0 by omega),vN (show n≠0 by omega),List.cons_append,List.nil_append];by_cases h0:C[j]!.2.2.length=0
    ·rw[if_pos h0]at hg
     repeat'(first|apply zE|apply zD|apply zC|refine jg ?_ ?_|(apply ja;exact jH)|(apply jm;exact jI)|(apply jl;exact jI)|(apply js;exact jJ)|refine jy ?_|refine jd ?_|refine jf ?_|apply zB|apply zQ|apply zL|apply zM|exact jO|((with_reducible apply Ln.mk);first|rfl|(simp[hlx,hXl];first|done|omega))|exact jW|exact jE|exact jP|((with_reducible apply Su.mk);first|exact hsub)|exact True.intro|intro A|exact rfl)
     all_goals first
      |exact jX
      |exact⟨(j+1,e2),⟨hjn,he2,hg⟩,by show n-(j+1)<n-j;omega,jB,jT⟩
    ·rw[if_neg h0]at hg
     have hct:=c2 _ (xD (l:=C[j]!.2.2) (i:=C[j]!.2.2.length-1) (by omega));obtain⟨Ac,roc,p5,rfl,hpc⟩:=hhx h0;have hlc:=yK (f:=chF) (w:=2) (λ_=>rfl) C[j]!.2.2;have hcl:(zF chF C[j]!.2.2)[0+((C[j]!.2.2.length:Int)-1).toNat*2+0]?=some (I C[j]!.2.2[C[j]!.2.2.length-1]!.1):=by
      rw[fP (by omega)];exact tX (λ_=>rfl) (by omega) (by decide) rfl
     generalize C[j]!.2.2[C[j]!.2.2.length-1]!.1=tl at *;generalize C[j]!.2.2=cs at *
     repeat'(first|apply zE|apply zD|apply zC|refine jg ?_ ?_|(apply ja;exact jH)|(apply uQ;iterate 3 exact rfl)|(apply jm;exact jI)|(apply jl;exact jI)|(apply js;exact jJ)|refine jy ?_|refine jd ?_|apply zB|apply zQ|apply zL|apply zM|exact jO|((with_reducible apply Ln.mk);first|rfl|(simp[hlx,hXl,hlc];first|done|omega))|exact jW|((with_reducible apply Ce.mk);first|rfl|exact hcl)|exact jP|((with_reducible apply Su.mk);first|exact hsub)|exact True.intro|intro A|exact rfl)
     all_goals first
      |exact jX
      |exact⟨(j+1,max e2 tl),⟨hjn,by show 0<=max e2 tl/\max e2 tl<=_;omega,hg⟩,by show n-(j+1)<n-j;omega,jB,jT⟩
   ·rw[List.drop_of_length_le (by omega)]at hg
    have hg:e2=E:=hg;subst hg;subst hE;rw[hos8]
    repeat'(first|apply zE|apply zD|apply zC|refine jg ?_ ?_|(apply yV zK;(iterate 4 exact rfl);exact up)|refine jf ?_|apply zB|apply zW|apply zT|apply zJ|apply zU|exact jS|exact jL|exact jZ|exact True.intro)
    rw[<-hos8]
    (apply yA;(exact(show zO _ _ _ _ [_] from⟨rfl,trivial⟩));exact .inl ⟨O,e,hen,rfl,rfl,s2,v2,os A5 2 O.length,A2,X,ob A5 (zF prF O) O.length++q2,rfl,h1.re (zA.drops .nil),h2.re (zA.drops .nil),hfin,hX.re (zA.drops .nil),(zA.drops .nil:zA _ q2).trans ht⟩;(focus repeat(first|with_reducible exact zA.nil|exact yOo|with_reducible apply zA.c|with_reducible apply zA.drop|with_reducible apply zA.pre|with_reducible apply zA.drops)))
 ·refine yG Tryz.func111 rfl rfl ?_
  repeat'(first|apply zE|apply zD|apply zC|refine jg ?_ ?_|(apply jm;exact jI)|refine jw ?_|refine jk ?_|(apply vJ;(iterate 3 exact rfl);all_goals intro hc)|(apply yO;exact rfl)|refine jd ?_|apply zB|apply zV|apply zJ|exact jS|exact jL|exact jE|exact True.intro|exact rfl)
  all_goals first|exact jX|(apply yA;(exact(show zO _ _ _ _ [_] from⟨rfl,trivial⟩));exact .inr ⟨λk=>absurd k hen,_,(by decide:(2:Int)≠0),rfl,rfl⟩;(focus repeat(first|with_reducible exact zA.nil|exact ht|with_reducible apply zA.c|with_reducible apply zA.drop|with_reducible apply zA.pre|with_reducible apply zA.drops)))

theorem yNd {k w en:Int}{S:List Chg}{g:Int × Int}{r:List (Int × Int)}{cs:List Chg}{i:Nat}(hi:i<cs.length)(h:cs[i]!.1<g.1):xP k w en S (g::r) (cs.drop i)=cs[i]!::xP k w en S (g::r) (cs.drop (i+1)):=by
 rw[wD hi];show(cs[i]!::cs.drop (i+1)).takeWhile _++(_::(_++xP k w en S r (((cs[i]!::cs.drop (i+1)).dropWhile _).dropWhile _)))=cs[i]!::((cs.drop (i+1)).takeWhile _++(_::(_++xP k w en S r (((cs.drop (i+1)).dropWhile _).dropWhile _))));rw[List.takeWhile_cons_of_pos (by rw[decide_eq_true_eq];exact h),List.dropWhile_cons_of_pos (by rw[decide_eq_true_eq];exact h)];rfl
theorem zXz {k w en:Int}{S:List Chg}{g:Int × Int}{r:List (Int × Int)}{cs:List Chg}{i:Nat}(h:i<cs.length->¬cs[i]!.1<g.1) :
  xP k w en S (g::r) (cs.drop i)=(g.1,ini k w)::((if g.2<=en then [(g.2,atv k w S g.2)] else [])++xP k w en S r ((cs.drop i).dropWhile (λc=>decide (c.1<toE en g+1)))):=by
 by_cases hi:i<cs.length
 ·rw[wD hi]
  show(cs[i]!::cs.drop (i+1)).takeWhile _++(_::(_++xP k w en S r (((cs[i]!::cs.drop (i+1)).dropWhile _).dropWhile _)))=_;rw[List.takeWhile_cons_of_neg (by rw[decide_eq_true_eq];exact h hi),List.dropWhile_cons_of_neg (p:=λc:Chg=>decide (c.1<g.1)) (by rw[decide_eq_true_eq];exact h hi)];rfl
 ·rw[List.drop_of_length_le (by omega)];rfl
theorem yPu {m:Int}{cs:List Chg}{i:Nat}(hi:i<cs.length)(h:cs[i]!.1<m):(cs.drop i).dropWhile (λc=>decide (c.1<m))=(cs.drop (i+1)).dropWhile (λc=>decide (c.1<m)):=by
 rw[wD hi,List.dropWhile_cons_of_pos (by rw[decide_eq_true_eq];exact h)]
theorem zVc {m:Int}{cs:List Chg}{i:Nat}(h:i<cs.length->¬cs[i]!.1<m):(cs.drop i).dropWhile (λc=>decide (c.1<m))=cs.drop i:=by
 by_cases hi:i<cs.length
 ·rw[wD hi,List.dropWhile_cons_of_neg (by rw[decide_eq_true_eq];exact h hi)]
 ·rw[List.drop_of_length_le (by omega)];rfl
theorem zJc {w:Int}(h:vty 0 w=true):vok 0 w (ini 0 w)=true:=by
 have hw:1<=w/\w<=128:=by
  unfold vty at h;have:=of_decide_eq_true h;have:=this.2.2;exact this
 have hi:ini 0 w=List.replicate w.toNat (b8 120):=by
  unfold ini;rw[if_pos h,if_pos rfl];unfold oE;exact if_pos ⟨hw.1,hw.2,by decide⟩
 unfold vok;rw[h,if_pos rfl,hi,Bool.true_and,decide_eq_true_eq];refine⟨⟨by rw[List.length_replicate];omega,by rw[List.length_replicate];omega,λi hil=>?_⟩,by rw[List.length_replicate];omega⟩;rw[List.length_replicate]at hil;rw[zLf (by rw[List.length_replicate];exact hil),getElem!_pos _ i (by rw[List.length_replicate];exact hil),List.getElem_replicate];decide
theorem zUl {w en:Int}{G:List (Int × Int)}{cs:List Chg}(hty:vty 0 w=true)(hn:Nf 0 w cs)(hv:∀c∈cs,vok 0 w c.2=true)(hg:gch (-1) G)(hg2:∀g∈G,g.2<=1099511627777)(hen:en<=1099511627776):nzl 0 w 0 (xP 0 w en cs G cs)=true:=by
 refine dH.2 ⟨cF (rD hn.io) hg hg2 (by omega),λc hc=>?_⟩;rcases fF c hc with h|⟨g,h,rfl⟩|⟨g,h,hle,rfl⟩
 ·exact⟨hn.le c h,hv c h⟩
 ·have:=(pR hg g h).2;have:=hg2 g h
  exact⟨by show g.1<=_;omega,zJc hty⟩
 ·refine⟨by show g.2<=_;omega,?_⟩
  show vok 0 w (atv 0 w cs g.2)=true;unfold atv;split
  ·exact zJc hty
  ·rename_i q
   have:=@kQ (g.2+1) cs;exact hv _ (xD (i:=fi (g.2+1) cs-1) (by omega))
abbrev mdF (w:Int)(v:Value):Value:=.tuple #[sgV 0 w v,I 0]
abbrev iJ (bb b3 b4 b9:Nat)(u:Value)(k:Nat)(e:Int)(gv:Value)(n i:Nat):AF:=[(0,zG bb 0 18),(3,zG b3 0 3),(4,zG b4 0 3),(6,u),(7,I k),(9,zG b9 0 2),(10,I e),(17,gv),(18,I n),(19,I i)]
abbrev iG (b3 b4 b9:Nat)(y1 y2 w:Int)(v:Value)(q:SH):SH:=(b9,⟨[I y1,I y2],false⟩)::(b4,⟨[I 0,I 0,nS],false⟩)::(b3,⟨[I 0,I w,v],false⟩)::q
set_option maxHeartbeats 2000000 in
theorem yEr (t:Trc)(s w' g a s2 v2 g3 g5:Value)(bb:Nat)(q0 hb1:SH)(G:List (Int × Int))(en w:Int)(cs:List Chg)(v:Value)(hpb:Pick q0 bb ⟨[I t.sc,S t.da,S t.ve,S t.co,s,w',g,a,I t.en,I t.sc,S t.da,S t.ve,S t.co,s2,v2,g5,g3,I en],false⟩ hb1)(hh3:Has q0 (zF prF G) 2 G.length g3)(hv:Has q0 (zF chF cs) 2 cs.length v)
  (hty:vty 0 w=true) (hn:Nf 0 w cs) (hvk:∀c∈cs,vok 0 w c.2=true) (hg:gch (-1) G) (hg2:∀g∈G,g.2<=1099511627777) (hen:0<=en/\en<=1099511627776) (hcl:cs.length<=1000) (hcv:∀c∈cs,c.2.length<=1000) (hGl:G.length<=100) :
  zH Tryz.prog 176 [zG bb 0 18,sgV 0 w v] q0 λr q=>MdR 0 w (wY w en G cs) q0 r q:=by
 have hnz:=zUl hty hn hvk hg hg2 hen.2;have hsi:siv (0,w,cs)=true:=by
  unfold siv;rw[Bool.and_eq_true,Bool.and_eq_true,decide_eq_true_eq];exact⟨hty,by show cs.length<=4096;omega,zHn.2 ⟨hn.io,hn.ch,λc hc=>⟨hn.le c hc,hvk c hc⟩⟩⟩
 have hAt:=λtt h hv ht=>zYy 0 w cs tt v h hv (by omega) (λx hx=>by have:=hcv x hx;omega) (zBk hn.io) ht hsi;have hI:=λh=>fW 0 w h;have hil:=zPd 0 w;have hol:=@zLk 0 w en cs G cs;have hom:∀x∈xP 0 w en cs G cs,x.2.length<=1000:=λx hx=>by
  rcases fF x hx with h|⟨g,h,rfl⟩|⟨g,h,hle,rfl⟩
  ·exact hcv x h
  ·show(ini 0 w).length<=1000;omega
  ·show(atv 0 w cs g.2).length<=1000
   unfold atv;split
   ·omega
   ·have:=@kQ (g.2+1) cs
    exact hcv _ (xD (i:=fi (g.2+1) cs-1) (by omega))
 have hNz:=λv h hv=>zUq 0 w (xP 0 w en cs G cs) v h hv (by omega) (λx hx=>by have:=hom x hx;omega);rw[hty,hnz,Bool.true_and]at hNz;replace hNz:=λv h hv=>(hNz v h hv).mono λr q g=>(g.resolve_right λg=>Bool.noConfusion g.1).2;show zH _ _ _ _ λr q=>MdR 0 w (nrm 0 (ini 0 w) (xP 0 w en cs G cs)) q0 r q;generalize nrm 0 (ini 0 w) (xP 0 w en cs G cs)=NL at *;unfold MdR at hNz ⊢;obtain⟨R,hR⟩:∃R,xP 0 w en cs G cs=R:=⟨_,rfl⟩;rw[hR]at hNz hol hom;clear hnz hom;obtain⟨adv,flv,rfl,hhv⟩:=id hv;obtain⟨adg,flg,rfl,hhg⟩:=id hh3;have hlc:=yK (f:=chF) (w:=2) (λ_=>rfl) cs;have hlg:=yK (f:=prF) (w:=2) (λ_=>rfl) G;refine yJ Tryz.func176 rfl rfl ?_
 repeat'(first|apply zE|apply zD|apply zC|refine jg ?_ ?_|(apply jm;exact jI)|refine jy ?_|refine jx ?_|apply zB|apply zM|exact jS|exact jL|exact jE|exact True.intro|intro A|exact rfl)
 all_goals try exact jX
 rename_i b3;obtain⟨b4,rfl⟩:∃m,m=A:=⟨_,rfl⟩;refine yH (S:=Nat × Nat × List Chg × Value × SH) (λx=>[(0,zG bb 0 18),(3,zG b3 0 3),(4,zG b4 0 3),(6,x.2.2.2.1),(7,I x.2.1),(17,.slice adg G.length flg),(18,I G.length),(19,I x.1)]) (λx=>(b4,⟨[I 0,I 0,nS],false⟩)::(b3,⟨[I 0,I w,.slice adv cs.length flv],false⟩)::x.2.2.2.2)
  (λx=>x.1<=G.length/\x.2.1<=cs.length/\x.2.2.1.length<=x.2.1+2*x.1/\GrR chF 2 q0 x.2.2.1 x.2.2.2.1 x.2.2.2.2/\x.2.2.1++xP 0 w en cs (G.drop x.1) (cs.drop x.2.1)=R) (λx=>G.length-x.1) (0,0,[],nS,q0) ⟨Nat.zero_le _,Nat.zero_le _,Nat.zero_le _,.nil,hR⟩ jB (by exact zA.nil) ?_
 rintro⟨i,k,O,u,q⟩ ⟨hi,hk,hO,hG,hgR⟩;dsimp only at hi hk hO hG hgR ⊢;by_cases hiG:i<G.length
 ·obtain⟨Ag,rog,p1,rfl,hpg⟩:=hhg (by omega)
  obtain⟨p2,hpg2,_⟩:=hG.tk.pick hpg;obtain⟨p3,hpb2,_⟩:=hG.tk.pick hpb;have hgm:=pR hg _ (xD hiG);have hgm2:=hg2 _ (xD hiG);rw[wD hiG]at hgR;obtain⟨y,hy⟩:∃y,G[i]! = y:=⟨_,rfl⟩;have hsub:xF (zF prF G) (0+((i:Int)).toNat*2) (prF y):=by rw[<-hy];exact xO (λ_=>rfl) hiG
  rw[hy]at hgR hgm hgm2;obtain⟨y1,y2⟩:=y;dsimp only at hgm hgm2
  repeat'((fail_if_success (show SWp _ _ (Code.cond (Operand.tmp 31) _ _) _ _ _));first|apply zE|apply zD|apply zC|refine jg ?_ ?_|(apply jm;exact jI)|(apply jl;exact jI)|(apply js;exact jJ)|refine jy ?_|refine jd ?_|apply zB|apply zL|apply zM|exact jO|((with_reducible apply Ln.mk);first|rfl|(simp[hlg];first|done|omega))|exact jE|exact jP|((with_reducible apply Su.mk);first|exact hsub)|exact True.intro|intro A|exact rfl)
  all_goals try exact jX
  obtain⟨b9,rfl⟩:∃m,m=A:=⟨_,rfl⟩;refine rH (S:=Unit) (λ_=>iJ bb b3 b4 b9 u k (toE en (y1,y2)) (.slice (some ⟨Ag,0,some (2*G.length)⟩) G.length flg) G.length i) (λ_=>iG b3 b4 b9 y1 y2 w (.slice adv cs.length flv) q) (λ_=>True) ?_ ?_
  ·by_cases hto:y2<=en
   ·have htE:toE en (y1,y2)=y2:=if_pos hto
    rw[htE]
    repeat'(first|refine jf ?_|apply zB|apply zL)
    all_goals first|exact jX|exact⟨(),trivial,jB,by exact zA.nil⟩
   ·have htE:toE en (y1,y2)=1099511627777:=if_neg hto
    rw[htE]
    repeat'(first|apply zD|apply zC|refine jg ?_ ?_|refine jd ?_|apply zB|exact jS|fail)
    all_goals first|exact jX|exact⟨(),trivial,jB,by exact zA.nil⟩
  ·rintro - -
   apply zE;refine rH (S:=Nat × List Chg × Value × SH) (λx=>iJ bb b3 b4 b9 x.2.2.1 x.1 (toE en (y1,y2)) (.slice (some ⟨Ag,0,some (2*G.length)⟩) G.length flg) G.length i) (λx=>iG b3 b4 b9 y1 y2 w (.slice adv cs.length flv) x.2.2.2)
    (λx=>x.1<=cs.length/\x.2.1.length<=x.1+2*i/\GrR chF 2 q0 x.2.1 x.2.2.1 x.2.2.2/\x.2.1++xP 0 w en cs ((y1,y2)::G.drop (i+1)) (cs.drop x.1)=R/\(x.1<cs.length->¬cs[x.1]!.1<y1)) ?_ ?_
   ·repeat'(first|apply zM)
    refine yH (S:=Nat × List Chg × Value × SH) (λx=>iJ bb b3 b4 b9 x.2.2.1 x.1 (toE en (y1,y2)) (.slice (some ⟨Ag,0,some (2*G.length)⟩) G.length flg) G.length i) (λx=>iG b3 b4 b9 y1 y2 w (.slice adv cs.length flv) x.2.2.2)
     (λx=>x.1<=cs.length/\x.2.1.length<=x.1+2*i/\GrR chF 2 q0 x.2.1 x.2.2.1 x.2.2.2/\x.2.1++xP 0 w en cs ((y1,y2)::G.drop (i+1)) (cs.drop x.1)=R) (λx=>cs.length-x.1) (k,O,u,q) ⟨hk,hO,hG,hgR⟩ jB (by exact zA.nil) ?_
    clear hk hO hG hgR hpg2 hpb2;rintro⟨k,O,u,q⟩ ⟨hk,hO,hG,hgR⟩;dsimp only at hk hO hG hgR ⊢;by_cases hkl:k<cs.length
    ·obtain⟨Ac,roc,p4,rfl,hpc⟩:=hhv (by omega)
     obtain⟨p5,hpc2,_⟩:=hG.tk.pick hpc;have hcl0:(zF chF cs)[0+((k:Int)).toNat*2+0]?=some (I cs[k]!.1):=vL (λ_=>rfl) hkl (by decide) rfl;by_cases hlt:cs[k]!.1<y1
     ·rw[yNd hkl hlt]at hgR
      have hob:=yK (f:=chF) (w:=2) (λ_=>rfl) O;cases hG with
      |nil =>
       repeat'(first|apply zE|apply zD|apply zC|refine jr ?_|refine jg ?_ ?_|(apply ja;exact jH)|(apply jm;exact jI)|(apply jl;exact jI)|(apply xT zK;(iterate 5 exact rfl);decide;exact rfl;decide;(focus repeat(first|exact xE.last rfl));exact rfl)|(apply qD zK;(iterate 5 exact rfl);exact⟨by decide⟩;exact pk)|refine jw ?_|refine jh ?_|refine jd ?_|apply zB|apply zQ|apply zL|apply zM|exact jV|((with_reducible apply Ln.mk);first|rfl|(simp[hlc,hob];first|done|omega))|exact jW|((with_reducible apply Ce.mk);first|rfl|exact hcl0)|((with_reducible apply Su.mk);first|exact xY|exact xO (λ_=>rfl) (by omega))|exact True.intro|intro A|exact rfl)
       all_goals first
        |exact jX
        |exact⟨(k+1,[cs[k]!],gsl A 0 (1*2) 1 2,(A,⟨chF cs[k]!,false⟩)::q0),⟨hkl,by show 1<=k+1+2*i;omega,.ofc (f:=chF) (l:=[cs[k]!]) (n:=1) (k:=1*2) tW.symm rfl rfl,hgR⟩,by show cs.length-(k+1)<cs.length-k;omega,jB,jT⟩
      |some A4 _ hO0 =>
       repeat'(first|apply zE|apply zD|apply zC|refine jr ?_|refine jg ?_ ?_|(apply ja;exact jH)|(apply jm;exact jI)|(apply jl;exact jI)|(apply xT zK;(iterate 5 exact rfl);decide;exact rfl;decide;(focus repeat(first|exact xE.last rfl));exact rfl)|(apply qK zK;(iterate 5 exact rfl);exact⟨by decide⟩;exact up;exact pk)|refine jw ?_|refine jh ?_|refine jd ?_|apply zB|apply zQ|apply zL|apply zM|exact jV|((with_reducible apply Ln.mk);first|rfl|omega|(simp[hlc,hob];first|done|omega))|exact jW|((with_reducible apply Ce.mk);first|rfl|exact hcl0)|((with_reducible apply Su.mk);first|exact xY|exact xO (λ_=>rfl) (by omega))|exact True.intro|intro A|exact rfl)
       all_goals first
        |exact jX
        |exact⟨(k+1,O++[cs[k]!],gsl A4 0 (O.length*2+1*2) (O.length+1) 2,(A4,⟨zF chF O++chF cs[k]!,false⟩)::q0),⟨hkl,by show(O++[cs[k]!]).length<=k+1+2*i;rw[List.length_append];show O.length+1<=_;omega,.ofc (f:=chF) (l:=O++[cs[k]!]) (n:=O.length+1) rO.symm (by simp) (by omega),by rw[List.append_assoc];exact hgR⟩,by show cs.length-(k+1)<cs.length-k;omega,jB,jT⟩
     ·skip
      repeat'(first|apply zE|apply zC|refine jr ?_|refine jg ?_ ?_|(apply jm;exact jI)|refine jw ?_|refine jh ?_|(apply pT;exact rfl;exact ‹_›)|apply zB|apply zW|apply zT|apply zU|exact jO|((with_reducible apply Ln.mk);first|rfl|(simp[hlc];first|done|omega))|((with_reducible apply Ce.mk);first|rfl|exact hcl0)|exact True.intro|exact rfl)
      all_goals first|exact jX|exact⟨(k,O,u,q),⟨hk,hO,hG,hgR,λ_=>hlt⟩,jB,by exact zA.nil⟩
    ·skip
     repeat'(first|apply zE|apply zC|refine jr ?_|refine jg ?_ ?_|(apply jm;exact jI)|refine jk ?_|(apply tO;(iterate 3 exact rfl);omega;exact rfl)|(apply zX;exact rfl)|apply zB|apply zW|apply zT|apply zU|exact jS|exact jL|exact jE|exact True.intro|exact rfl)
     all_goals first|exact jX|exact⟨(k,O,u,q),⟨hk,hO,hG,hgR,λg=>absurd g hkl⟩,jB,by exact zA.nil⟩
   ·clear hk hO hG hgR hpg2 hpb2
    rintro⟨k,O,u,q⟩ ⟨hk,hO,hG,hgR,hstop⟩;dsimp only at hk hO hG hgR hstop ⊢;rw[zXz hstop]at hgR;replace hgR:O++((y1,ini 0 w)::((if y2<=en then [(y2,atv 0 w cs y2)] else [])++xP 0 w en cs (G.drop (i+1)) ((cs.drop k).dropWhile (λc=>decide (c.1<toE en (y1,y2)+1)))))=R:=hgR;have hO1l:(O++[(y1,ini 0 w)]).length=O.length+1:=by rw[List.length_append];rfl
    apply zE;refine rH (S:=Nat) (λA1=>iJ bb b3 b4 b9 (gsl A1 0 ((O++[(y1,ini 0 w)]).length*2) (O++[(y1,ini 0 w)]).length 2) k (toE en (y1,y2)) (.slice (some ⟨Ag,0,some (2*G.length)⟩) G.length flg) G.length i) (λA1=>iG b3 b4 b9 y1 y2 w (.slice adv cs.length flv) ((A1,⟨zF chF (O++[(y1,ini 0 w)]),false⟩)::q0)) (λ_=>True) ?_ ?_
    ·have hob:=yK (f:=chF) (w:=2) (λ_=>rfl) O
     cases hG with
     |nil =>
      repeat'(first|apply zC|refine jr ?_|refine jg ?_ ?_|(apply jm;exact jI)|(apply xZ zK;exact rfl;exact rfl;(focus first|with_reducible exact mO);exact rfl;(focus repeat(first|exact yT.nil|(apply yT.one;exact rfl;exact rfl;(first|(focus(repeat(first|exact yD.zero|apply yD.succ));done)))));exact rfl)|(apply xT zK;(iterate 5 exact rfl);decide;exact rfl;decide;(focus repeat(first|exact xE.last rfl));exact rfl)|(apply qD zK;(iterate 5 exact rfl);exact⟨by decide⟩;exact pk)|(apply wP;(iterate 4 exact rfl);exact⟨_,hI _,jN⟩;exact λ_ _ h=>h.1;(focus(repeat(first|exact xV.c rfl))))|apply zB|((with_reducible apply Sd.mk);first|exact True.intro|(constructor <;> first|omega|(unfold maxLen;omega)))|exact jL|exact jE|exact jU|exact True.intro|exact Or.inl rfl|apply And.intro|intro A|exact rfl)
      all_goals first
       |exact jX
       |exact⟨A,trivial,jB,(by repeat(first|with_reducible exact zA.nil|with_reducible apply zA.c|((with_reducible apply zA.cE);first|exact rfl|(apply pL;(focus first|exact rfl|exact uZ rfl|exact pI rfl|exact congrArg (λv=>[v]) (vR rfl rfl (by first|rfl|exact ‹_›|omega|(simp[hob];first|done|omega)) (by first|rfl|exact ‹_›|omega|(simp[hob];first|done|omega)) rfl))))|with_reducible apply zA.drop|with_reducible apply zA.pre|with_reducible apply zA.drops))⟩
     |some A4 _ hO0 =>
      rw[hO1l]
      repeat'(first|apply zC|refine jr ?_|refine jg ?_ ?_|(apply jm;exact jI)|(apply xZ zK;exact rfl;exact rfl;(focus first|with_reducible exact mO);exact rfl;(focus repeat(first|exact yT.nil|(apply yT.one;exact rfl;exact rfl;(first|(focus(repeat(first|exact yD.zero|apply yD.succ));done)))));exact rfl)|(apply xT zK;(iterate 5 exact rfl);decide;exact rfl;decide;(focus repeat(first|exact xE.last rfl));exact rfl)|(apply qK zK;(iterate 5 exact rfl);exact⟨by decide⟩;exact up;exact pk)|(apply wP;(iterate 4 exact rfl);exact⟨_,hI _,jN⟩;exact λ_ _ h=>h.1;(focus(repeat(first|exact xV.c rfl))))|apply zB|((with_reducible apply Sd.mk);first|exact True.intro|(constructor <;> first|omega|(unfold maxLen;omega)))|((with_reducible apply Ln.mk);first|rfl|omega)|exact jE|exact jU|exact True.intro|exact Or.inl rfl|apply And.intro|intro A|exact rfl)
      all_goals first
       |exact jX
       |exact⟨A4,trivial,⟨rfl,rfl,rfl,congrArg some (vR rfl rfl (by omega) rfl rfl),rfl,rfl,rfl,rfl,rfl,rfl,trivial⟩,by rw[rO];exact jT⟩
    ·rintro A1 -
     rw[show O++((y1,ini 0 w)::((if y2<=en then [(y2,atv 0 w cs y2)] else [])++xP 0 w en cs (G.drop (i+1)) ((cs.drop k).dropWhile (λc=>decide (c.1<toE en (y1,y2)+1)))))=(O++[(y1,ini 0 w)])++((if y2<=en then [(y2,atv 0 w cs y2)] else [])++xP 0 w en cs (G.drop (i+1)) ((cs.drop k).dropWhile (λc=>decide (c.1<toE en (y1,y2)+1))))by rw[List.append_assoc];rfl]at hgR;clear hG;generalize O++[(y1,ini 0 w)]=O1 at *;have hob:=yK (f:=chF) (w:=2) (λ_=>rfl) O1
     repeat'((fail_if_success (show SWp _ _ (Code.cond (Operand.tmp 70) _ _) _ _ _));first|apply zE|apply zD|apply zC|refine jg ?_ ?_|apply zB|exact jS|fail)
     obtain⟨O2,hO2⟩:∃O2,O1++(if y2<=en then [(y2,atv 0 w cs y2)] else [])=O2:=⟨_,rfl⟩;have hO2l:O2.length<=O1.length+1:=by rw[<-hO2,List.length_append];split <;> simp
     have hO2n:O2≠[]:=by
      rw[<-hO2];intro k;have:=congrArg List.length k;rw[List.length_append,List.length_nil]at this;omega
     rw[<-List.append_assoc,hO2]at hgR;refine rH (S:=Unit) (λ_=>iJ bb b3 b4 b9 (gsl A1 0 (O2.length*2) O2.length 2) k (toE en (y1,y2)) (.slice (some ⟨Ag,0,some (2*G.length)⟩) G.length flg) G.length i) (λ_=>iG b3 b4 b9 y1 y2 w (.slice adv cs.length flv) ((A1,⟨zF chF O2,false⟩)::q0)) (λ_=>True) ?_ ?_
     ·by_cases hto:y2<=en
      ·have htE:toE en (y1,y2)=y2:=if_pos hto
       rw[if_pos hto]at hO2;subst hO2;have hl2:(O1++[(y2,atv 0 w cs y2)]).length=O1.length+1:=by rw[List.length_append];rfl
       rw[htE,hl2]
       repeat'(first|apply zE|apply zD|apply zC|refine jg ?_ ?_|(apply jl;exact jI)|(apply xZ zK;exact rfl;exact rfl;(focus first|with_reducible exact mO);exact rfl;(focus repeat(first|exact yT.nil|(apply yT.one;exact rfl;exact rfl;(first|(focus(repeat(first|exact yD.zero|apply yD.succ));done)))));exact rfl)|(apply xT zK;(iterate 5 exact rfl);decide;exact rfl;decide;(focus repeat(first|exact xE.last rfl));exact rfl)|(apply qK zK;(iterate 5 exact rfl);exact⟨by decide⟩;exact up;exact pk)|(apply zZ;exact rfl;exact rfl;exact rfl;exact rfl;exact⟨_,hAt y2 _ (hv.re jD) (by omega),zA.nil⟩;rintro _ _ ⟨rfl,rfl⟩)|refine jd ?_|apply zB|((with_reducible apply Sd.mk);first|exact True.intro|(constructor <;> first|omega|(unfold maxLen;omega)))|((with_reducible apply Ln.mk);first|rfl|omega)|exact jU|exact True.intro|intro A|exact rfl)
       all_goals first
        |exact jX
        |exact⟨(),trivial,⟨rfl,rfl,rfl,congrArg some (vR rfl rfl (by omega) rfl rfl),rfl,rfl,rfl,rfl,rfl,rfl,trivial⟩,by rw[rO];exact jT⟩
      ·have htE:toE en (y1,y2)=1099511627777:=if_neg hto
       rw[if_neg hto,List.append_nil]at hO2;subst hO2;rw[htE]
       repeat'(first|(apply zX;exact rfl)|apply zB|apply zL)
       all_goals first
        |exact jX
        |exact⟨(),trivial,jB,by exact zA.nil⟩
     ·rintro - -
      repeat'(first|apply zM)
      all_goals try exact jX
      refine yH (S:=Nat) (λx=>iJ bb b3 b4 b9 (gsl A1 0 (O2.length*2) O2.length 2) x (toE en (y1,y2)) (.slice (some ⟨Ag,0,some (2*G.length)⟩) G.length flg) G.length i) (λ_=>iG b3 b4 b9 y1 y2 w (.slice adv cs.length flv) ((A1,⟨zF chF O2,false⟩)::q0))
       (λx=>x<=cs.length/\k<=x/\O2++xP 0 w en cs (G.drop (i+1)) ((cs.drop x).dropWhile (λc=>decide (c.1<toE en (y1,y2)+1)))=R) (λx=>cs.length-x) k ⟨hk,Nat.le_refl _,hgR⟩ jB (by exact zA.nil) ?_
      clear hgR;rintro x ⟨hx,hkx,hgR⟩;by_cases hxl:x<cs.length
      ·obtain⟨Ac,roc,p4,rfl,hpc⟩:=hhv (by omega)
       have hcl0:(zF chF cs)[0+((x:Int)).toNat*2+0]?=some (I cs[x]!.1):=vL (λ_=>rfl) hxl (by decide) rfl;by_cases hlt:cs[x]!.1<toE en (y1,y2)+1
       ·rw[yPu hxl hlt]at hgR
        generalize toE en (y1,y2)=te at *
        repeat'(first|apply zE|apply zD|apply zC|refine jg ?_ ?_|(apply ja;exact jH)|(apply jm;exact jI)|refine jw ?_|refine jh ?_|refine jd ?_|apply zB|apply zQ|apply zL|apply zM|exact jO|((with_reducible apply Ln.mk);first|rfl|(simp[hlc];first|done|omega))|exact jW|((with_reducible apply Ce.mk);first|rfl|exact hcl0)|exact True.intro|exact rfl)
        all_goals first
         |exact jX
         |exact⟨x+1,⟨hxl,by omega,hgR⟩,by omega,jB,jT⟩
       ·rw[zVc (λ_=>hlt)]at hgR
        generalize toE en (y1,y2)=te at *
        repeat'(first|apply zE|apply zD|apply zC|refine jg ?_ ?_|(apply ja;exact jH)|(apply jm;exact jI)|refine jw ?_|refine jh ?_|refine jf ?_|apply zB|apply zW|apply zQ|apply zT|apply zU|exact jO|((with_reducible apply Ln.mk);first|rfl|(simp[hlc];first|done|omega))|exact jW|((with_reducible apply Ce.mk);first|rfl|exact hcl0)|exact True.intro|exact rfl)
        all_goals first
         |exact jX
         |skip
        refine⟨(i+1,x,O2,gsl A1 0 (O2.length*2) O2.length 2,(A1,⟨zF chF O2,false⟩)::q0),⟨hiG,hx,?_,.some A1 O2 hO2n,hgR⟩,?_,?_,?_⟩
        ·show O2.length<=x+2*(i+1);omega
        ·show G.length-(i+1)<G.length-i;omega
        ·exact jB
        ·exact jT
      ·rw[zVc (λg=>absurd g hxl)]at hgR
       repeat'(first|apply zE|apply zD|apply zC|refine jg ?_ ?_|(apply ja;exact jH)|(apply jm;exact jI)|refine jk ?_|(apply tO;(iterate 3 exact rfl);omega;exact rfl)|(apply zX;exact rfl)|apply zB|apply zW|apply zQ|apply zT|apply zU|exact jS|exact jL|exact jW|exact jE|exact True.intro|exact rfl)
       all_goals first
        |exact jX
        |exact⟨(i+1,x,O2,gsl A1 0 (O2.length*2) O2.length 2,(A1,⟨zF chF O2,false⟩)::q0),⟨hiG,hx,by show O2.length<=x+2*(i+1);omega,.some A1 O2 hO2n,hgR⟩,by show G.length-(i+1)<G.length-i;omega,jB,jT⟩
 ·rw[List.drop_of_length_le (by omega)]at hgR
  replace hgR:O++cs.drop k=R:=hgR;by_cases hkl:k<cs.length
  ·obtain⟨Ac,roc,p4,rfl,hpc⟩:=hhv (by omega)
   obtain⟨p5,hpc2,_⟩:=hG.tk.pick hpc;have hdl:(cs.drop k).length=cs.length-((k:Int)).toNat:=by rw[List.length_drop];omega
   have hdr:=yK (f:=chF) (w:=2) (λ_=>rfl) (cs.drop k);rw[hdl]at hdr;have hob:=yK (f:=chF) (w:=2) (λ_=>rfl) O;have hcut:xF (zF chF cs) (0+((k:Int)).toNat*2) (zF chF (cs.drop k)):=λj v hj=>by
    have hj2:=(List.getElem?_eq_some_iff.1 hj).1;rw[hdr]at hj2;have e:j=j/2*2+j%2:=by omega
    rw[e,mQ (f:=chF) (w:=2) (λ_=>rfl) (by rw[hdl];omega) (by omega)]at hj;rw[show 0+((k:Int)).toNat*2+j=(k+j/2)*2+j%2 by omega,mQ (f:=chF) (w:=2) (λ_=>rfl) (by omega) (by omega),<-hj];rw[getElem!_pos cs (k+j/2) (by omega),getElem!_pos _ (j/2) (by rw[hdl];omega),List.getElem_drop]
   have hRl:R.length=O.length+(cs.length-((k:Int)).toNat):=by rw[<-hgR,List.length_append,hdl]
   have hRr:zF chF R=zF chF O++zF chF (cs.drop k):=by rw[<-hgR,zDw]
   have hX4:∀A q,Has ((A,⟨zF chF O++zF chF (cs.drop k),false⟩)::q) (zF chF R) 2 R.length (gsl A 0 (O.length*2+(cs.length-((k:Int)).toNat)*2) (O.length+(cs.length-((k:Int)).toNat)) 2):=λA q =>
    ⟨_,_,by rw[hRl],λ_=>⟨A,false,q,by rw[hRl,Nat.mul_comm 2,Nat.add_mul],by rw[hRr];exact .head⟩⟩
   cases hG with
   |nil =>
    have hX0:∀A q,Has ((A,⟨zF chF (cs.drop k),false⟩)::q) (zF chF R) 2 R.length (gsl A 0 ((cs.length-((k:Int)).toNat)*2) (cs.length-((k:Int)).toNat) 2):=λA q =>
     ⟨_,_,by rw[hRl];exact congrArg (λn=>Value.slice _ n _) (Nat.zero_add _).symm,λ_=>⟨A,false,q,by rw[hRl,Nat.mul_comm 2];exact congrArg (λn=>some (Addr.mk A 0 (some (n*2)))) (Nat.zero_add _).symm,by rw[hRr];exact .head⟩⟩
    repeat'(first|apply zE|apply zD|apply zC|refine jr ?_|refine jg ?_ ?_|(apply jm;exact jI)|(apply js;exact jJ)|(apply qD zK;(iterate 5 exact rfl);exact⟨by decide⟩;exact pk)|(apply tE (F:=mdF w);(iterate 4 exact rfl);exact⟨hNz _ _ ((hX0 _ q0).re jK),zA.nil⟩;(focus(intro ρ D u v huv;(repeat(first|exact huv|exact VR.const rfl|apply VRs.tuple|apply VRs.agg|exact VRs.nil|apply VRs.cons))));(focus first|exact chC))|refine jf ?_|apply zB|apply zW|apply zT|apply zJ|apply zU|exact jV|((with_reducible apply Ln.mk);first|rfl|omega|(simp[hlc,hob,hdr];first|done|omega))|exact jE|exact jP|((with_reducible apply Su.mk);first|exact hcut)|exact True.intro|refine Rc.mk ⟨_,_,pk,?_⟩|exact Or.inl rfl|apply And.intro|apply Or.inr|intro A|exact rfl)
    (apply yA;(exact(show zO _ _ _ _ [_,_] from(sG zK rfl rfl rfl (by exact pk) (by first|rfl|exact ‹_›|omega|(simp[hlc,hob,hdr];first|done|omega)) (by first|rfl|exact ‹_›|omega|(simp[hlc,hob,hdr];first|done|omega)) ⟨rfl,trivial⟩)));exact⟨A,rfl,rfl⟩;exact jT)
   |some A4 _ hO0 =>
    repeat'(first|apply zE|apply zD|apply zC|refine jr ?_|refine jg ?_ ?_|(apply jm;exact jI)|(apply js;exact jJ)|(apply qK zK;(iterate 5 exact rfl);exact⟨by decide⟩;exact up;exact pk)|(apply tE (F:=mdF w);(iterate 4 exact rfl);exact⟨hNz _ _ ((hX4 _ q0).re jK),zA.nil⟩;(focus(intro ρ D u v huv;(repeat(first|exact huv|exact VR.const rfl|apply VRs.tuple|apply VRs.agg|exact VRs.nil|apply VRs.cons))));(focus first|exact chC))|refine jf ?_|apply zB|apply zW|apply zT|apply zJ|apply zU|exact jV|((with_reducible apply Ln.mk);first|rfl|omega|(simp[hlc,hob,hdr];first|done|omega))|exact jE|exact jP|((with_reducible apply Su.mk);first|exact hcut)|exact zDb (λ_=>rfl)|exact True.intro|refine Rc.mk ⟨_,_,pk,?_⟩|exact Or.inl rfl|apply And.intro|apply Or.inr|intro A|exact rfl)
    (apply yA;(exact(show zO _ _ _ _ [_,_] from jY));exact⟨A,rfl,rfl⟩;exact jT)
  ·rw[List.drop_of_length_le (by omega),List.append_nil]at hgR
   subst hgR;obtain rfl:k=cs.length:=by omega
   have hob:=yK (f:=chF) (w:=2) (λ_=>rfl) O;have hX4:∀A q,Has ((A,⟨zF chF O,false⟩)::q) (zF chF O) 2 O.length (gsl A 0 (O.length*2) O.length 2):=λA q =>
    ⟨_,_,rfl,λ_=>⟨A,false,q,by rw[Nat.mul_comm],.head⟩⟩
   have hX0:∀h,O=[]->Has h (zF chF O) 2 O.length nS:=λh e=>by subst e;exact⟨_,_,rfl,λk=>absurd rfl k⟩
   by_cases h0:cs.length=0
   ·obtain rfl:cs=[]:=List.length_eq_zero_iff.1 h0
    cases hG with
    |nil =>
     repeat'(first|apply zE|apply zD|apply zC|refine jr ?_|(apply gE zK;iterate 5 exact rfl)|(apply zFm zK;(iterate 4 exact rfl);(focus omega);exact rfl)|refine jg ?_ ?_|(apply jm;exact jI)|(apply js;exact jJ)|(apply tE (F:=mdF w);(iterate 4 exact rfl);exact⟨hNz _ _ (hX0 _ rfl),zA.nil⟩;(focus(intro ρ D u v huv;(repeat(first|exact huv|exact VR.const rfl|apply VRs.tuple|apply VRs.agg|exact VRs.nil|apply VRs.cons))));(focus first|exact chC))|refine jf ?_|apply zB|apply zW|apply zT|apply zJ|apply zU|exact jS|exact jL|exact jE|exact jP|exact True.intro|exact Or.inl rfl|apply And.intro|intro A|exact rfl)
     (apply yA;(exact(show zO _ _ _ _ [_,_] from(sG zK rfl rfl rfl (by exact pk) (by first|rfl|exact ‹_›|omega|(simp[hob];first|done|omega)) (by first|rfl|exact ‹_›|omega|(simp[hob];first|done|omega)) ⟨rfl,trivial⟩)));exact⟨A,rfl,rfl⟩;exact jT)
    |some A4 _ hO0 =>
     repeat'(first|apply zE|apply zD|apply zC|refine jr ?_|(apply zFw zK;(iterate 4 exact rfl);exact pk)|(apply zFm zK;(iterate 4 exact rfl);(focus omega);exact rfl)|refine jg ?_ ?_|(apply jm;exact jI)|(apply js;exact jJ)|(apply tE (F:=mdF w);(iterate 4 exact rfl);exact⟨hNz _ _ ((hX4 _ q0).re jK),zA.nil⟩;(focus(intro ρ D u v huv;(repeat(first|exact huv|exact VR.const rfl|apply VRs.tuple|apply VRs.agg|exact VRs.nil|apply VRs.cons))));(focus first|exact chC))|refine jf ?_|apply zB|apply zW|apply zT|apply zJ|apply zU|exact jS|((with_reducible apply Ln.mk);first|rfl|omega)|exact jE|exact jP|exact True.intro|exact Or.inl rfl|apply And.intro|intro A|exact rfl)
     (apply yA;(exact(show zO _ _ _ _ [_,_] from(sG zK rfl rfl rfl (by exact pk) (by first|rfl|exact ‹_›|omega|(simp[hob];first|done|omega)) (by first|rfl|exact ‹_›|omega|(simp[hob];first|done|omega)) ⟨rfl,trivial⟩)));exact⟨A,rfl,rfl⟩;exact jT)
   ·obtain⟨Ac,roc,p4,rfl,hpc⟩:=hhv h0
    cases hG with
    |nil =>
     repeat'(first|apply zE|apply zD|apply zC|refine jr ?_|(apply gE zK;iterate 5 exact rfl)|(apply bP zK;(iterate 4 exact rfl);(focus omega);exact rfl)|refine jg ?_ ?_|(apply jm;exact jI)|(apply js;exact jJ)|(apply tE (F:=mdF w);(iterate 4 exact rfl);exact⟨hNz _ _ (hX0 _ rfl),zA.nil⟩;(focus(intro ρ D u v huv;(repeat(first|exact huv|exact VR.const rfl|apply VRs.tuple|apply VRs.agg|exact VRs.nil|apply VRs.cons))));(focus first|exact chC))|refine jf ?_|apply zB|apply zW|apply zT|apply zJ|apply zU|exact jS|exact jL|exact jE|exact jP|exact True.intro|exact Or.inl rfl|apply And.intro|intro A|exact rfl)
     (apply yA;(exact(show zO _ _ _ _ [_,_] from(sG zK rfl rfl rfl (by exact pk) (by first|rfl|exact ‹_›|omega|(simp[hob];first|done|omega)) (by first|rfl|exact ‹_›|omega|(simp[hob];first|done|omega)) ⟨rfl,trivial⟩)));exact⟨A,rfl,rfl⟩;exact jT)
    |some A4 _ hO0 =>
     repeat'(first|apply zE|apply zD|apply zC|refine jr ?_|(apply zFw zK;(iterate 4 exact rfl);exact pk)|(apply bP zK;(iterate 4 exact rfl);(focus omega);exact rfl)|refine jg ?_ ?_|(apply jm;exact jI)|(apply js;exact jJ)|(apply tE (F:=mdF w);(iterate 4 exact rfl);exact⟨hNz _ _ ((hX4 _ q0).re jK),zA.nil⟩;(focus(intro ρ D u v huv;(repeat(first|exact huv|exact VR.const rfl|apply VRs.tuple|apply VRs.agg|exact VRs.nil|apply VRs.cons))));(focus first|exact chC))|refine jf ?_|apply zB|apply zW|apply zT|apply zJ|apply zU|exact jS|((with_reducible apply Ln.mk);first|rfl|omega)|exact jE|exact jP|exact True.intro|exact Or.inl rfl|apply And.intro|intro A|exact rfl)
     (apply yA;(exact(show zO _ _ _ _ [_,_] from jY));exact⟨A,rfl,rfl⟩;exact jT)

def clS (en:Int)(G:List (Int × Int))(g:Sgc):Sgc:=if g.1=0 then(g.1,g.2.1,wY g.2.1 en G g.2.2)else g
def tot :Int->List Sgc->Int
 |n,[]=>n
 |n,g::r=>tot (n+g.2.2.length) r
theorem zIq {w en:Int}{G:List (Int × Int)}{cs:List Chg}:(wY w en G cs).length<=cs.length+2*G.length:=by
 have h1:=oY 0 (xP 0 w en cs G cs) (ini 0 w);have h2:=@zLk 0 w en cs G cs;unfold wY;omega
structure Cl (g:Sgc):Prop where
 le:g.2.2.length<=1000
 va:∀c∈g.2.2,c.2.length<=1000
 ty:vty g.1 g.2.1=true
 nf:Nf g.1 g.2.1 g.2.2
 vk:∀c∈g.2.2,vok g.1 g.2.1 c.2=true
theorem yOi (t:Trc)(s w g a:Value)(bb:Nat)(h q0:SH)(S':List Scp)(V:List Vr)(C:List Sgc)(G:List (Int × Int))(en:Int)(hq:BdS t s w g a bb h S' V C G en q0)(hC:C.length<=100)
  (hc:∀g∈C,Cl g) (hg:gch (-1) G) (hg2:∀g∈G,g.2<=1099511627777) (hen:0<=en/\en<=1099511627776) (hGl:G.length<=100) :
  zH Tryz.prog 112 [zG bb 0 18] q0 λr q=>((G.length<=16/\tot 0 (C.map (clS en G))<=4096)/\r=I 0/\BdS t s w g a bb h S' V (C.map (clS en G)) G en q)\/(¬(G.length<=16/\tot 0 (C.map (clS en G))<=4096)/\∃e:Int,e≠0/\r=I e/\q=h):=by
 obtain⟨s2,v2,g3,A2,X,q2,rfl,h1,h2,h3,hX,ht⟩:=hq;have hOff:=λw0 cs v q0 hb1 g5 hpb h3 hv hty hn hvk hl hcv=>yEr t s w g a s2 v2 g3 g5 bb q0 hb1 G en w0 cs v hpb h3 hv hty hn hvk hg hg2 hen hl hcv hGl;unfold MdR at hOff;obtain⟨ad3,fl3,rfl,-⟩:=id h3;unfold BdS;rw[List.length_map];by_cases h16:G.length<=16
 ·obtain⟨T,hT⟩:∃T,tot 0 (C.map (clS en G))=T:=⟨_,rfl⟩
  rw[hT];obtain⟨n,hn⟩:∃n,C.length=n:=⟨_,rfl⟩;rw[hn]at hC ⊢;obtain⟨adg,flg,hos⟩:∃ad fl,os A2 3 n=.slice ad n fl:=⟨_,_,rfl⟩;refine yG Tryz.func112 rfl rfl ?_;rw[hos]
  repeat'(first|apply zE|apply zD|apply zC|refine jg ?_ ?_|(apply jm;exact jI)|refine jf ?_|apply zB|apply zL|apply zM|exact jS|exact jL|exact jE|exact True.intro|exact rfl)
  rw[<-hos]
  all_goals try exact jX
  refine yH (S:=Nat × List Sx × Int × SH) (λx=>[(0,zG bb 0 18),(3,I x.2.2.1),(19,os A2 3 n),(20,I n),(21,I x.1)]) (λx=>(bb,⟨[I t.sc,S t.da,S t.ve,S t.co,s,w,g,a,I t.en,I t.sc,S t.da,S t.ve,S t.co,s2,v2,os A2 3 n,.slice ad3 G.length fl3,I en],false⟩)::(ob A2 (zF sgF x.2.1) n++x.2.2.2))
   (λx=>x.1<=n/\(0<=x.2.2.1/\x.2.2.1<=2000*x.1)/\tot x.2.2.1 ((C.drop x.1).map (clS en G))=T/\Sg x.2.2.2 x.2.1 (mpd (clS en G) C x.1)/\zA x.2.2.2 q2) (λx=>n-x.1) (0,X,0,q2) ⟨Nat.zero_le _,⟨by show(0:Int)<=0;decide,by show(0:Int)<=0;decide⟩,hT,hX,.nil⟩ jB (by exact zA.nil) ?_
  rintro⟨j,Y,m,q⟩ ⟨hj,hm,hgT,hS,htq⟩;dsimp only at hj hm hgT hS htq ⊢;by_cases hjn:j<n
  ·have hn0:n≠0:=by omega
   rw[wD (show j<C.length by omega)]at hgT;replace hgT:tot (m+(clS en G C[j]!).2.2.length) ((C.drop (j+1)).map (clS en G))=T:=hgT;obtain⟨e1,e2,e3⟩:=hS.2 j (by rw[gS,hn];exact hjn);rw[zIz (f:=clS en G) (l:=C) (i:=j) (by omega)]at e1 e2 e3;obtain⟨c1,c2,c3,c4,c5⟩:=hc _ (xD (l:=C) (i:=j) (by omega));have hYl:Y.length=n:=by rw[hS.1,gS,hn]
   have hlx:(zF sgF Y).length=n*3:=by rw[yK (f:=sgF) (w:=3) (λ_=>rfl),hYl]
   have hset:=zGf (f:=clS en G) (show j<C.length by omega);have hsub:xF (zF sgF Y) (0+((j:Int)).toNat*3) [I C[j]!.1,I C[j]!.2.1,sxV Y[j]!]:=by rw[<-e1,<-e2];exact xO (λ_=>rfl) (by omega)
   have hput2:rJ (zF sgF Y) (0+((j:Int)).toNat*3) [I C[j]!.1,I C[j]!.2.1,sxV Y[j]!] (zF sgF (Y.set j Y[j]!)):=by rw[<-e1,<-e2];exact eU (f:=sgF) (w:=3) (x:=Y[j]!) (λ_=>rfl) (by omega)
   have hjm:j<(mpd (clS en G) C j).length:=by rw[gS,hn];exact hjn
   have hsg:SgH q Y[j]! C[j]!:=⟨e1,e2,e3⟩;have h3q:=h3.re htq;by_cases hk:C[j]!.1=0
   ·have hcl:clS en G C[j]! = (0,C[j]!.2.1,wY C[j]!.2.1 en G C[j]!.2.2):=by unfold clS;rw[if_pos hk,hk]
    rw[hcl]at hgT hset;rw[hk]at hsub c3 c4 c5;have hofl:=@zIq C[j]!.2.1 en G C[j]!.2.2;have hput:∀A ad fl,os A 2 (wY C[j]!.2.1 en G C[j]!.2.2).length=.slice ad (wY C[j]!.2.1 en G C[j]!.2.2).length fl->rJ (zF sgF Y) (0+((j:Int)).toNat*3) [I 0,I C[j]!.2.1,.slice ad (wY C[j]!.2.1 en G C[j]!.2.2).length fl] (zF sgF (Y.set j (osx (A,(0,C[j]!.2.1,wY C[j]!.2.1 en G C[j]!.2.2))))):=λA ad fl e=>by
     rw[<-e];exact eU (f:=sgF) (w:=3) (x:=osx (A,(0,C[j]!.2.1,wY C[j]!.2.1 en G C[j]!.2.2))) (λ_=>rfl) (by omega)
    have hnew:∀A,Sg (ob A (zF chF (wY C[j]!.2.1 en G C[j]!.2.2)) (wY C[j]!.2.1 en G C[j]!.2.2).length++q) (Y.set j (osx (A,(0,C[j]!.2.1,wY C[j]!.2.1 en G C[j]!.2.2)))) (mpd (clS en G) C (j+1)):=λA=>by
     rw[<-hset];exact hS.set (zA.drops .nil) hjm zJn
    replace hOff:∀v q0 hb1 g5 (_:Pick q0 bb _ hb1) (_:Has q0 _ _ _ _) (_:Has q0 _ 2 _ v),zH _ _ _ q0 λr q=>∃A ad fl,os A 2 (wY C[j]!.2.1 en G C[j]!.2.2).length=.slice ad (wY C[j]!.2.1 en G C[j]!.2.2).length fl/\r=.tuple #[sgV 0 C[j]!.2.1 (.slice ad (wY C[j]!.2.1 en G C[j]!.2.2).length fl),I 0]/\q=ob A (zF chF (wY C[j]!.2.1 en G C[j]!.2.2)) (wY C[j]!.2.1 en G C[j]!.2.2).length++q0:=λv q0 hb1 g5 hp h3 hv =>
     (hOff C[j]!.2.1 C[j]!.2.2 v q0 hb1 g5 hp h3 hv c3 c4 c5 c1 c2).mono λr q ⟨A,k1,k2⟩=>⟨A,_,_,rfl,k1,k2⟩
    generalize wY C[j]!.2.1 en G C[j]!.2.2=L at *;generalize C[j]!.2.1=y at *;obtain⟨ads,fls,hsx,-⟩:=id e3;rw[hsx]at e3 hsub;dsimp only at hgT;simp only[wJ hn0,vN hn0,List.cons_append,List.nil_append]
    repeat'(first|apply zE|apply zD|apply zC|refine jr ?_|refine jg ?_ ?_|(apply ja;exact jH)|(apply jm;exact jI)|(apply jl;exact jI)|(apply js;exact jJ)|refine jy ?_|(apply zZ;exact rfl;exact rfl;exact rfl;exact rfl;exact⟨_,hOff _ _ _ _ pk (h3q.re jD) (e3.re jD),zA.nil⟩;rintro _ _ ⟨A5,ad5,fl5,he5,rfl,rfl⟩)|(apply yO;exact rfl)|(apply zX;exact rfl)|refine jd ?_|apply zB|apply zQ|apply zL|apply zM|exact jO|((with_reducible apply Ln.mk);first|rfl|omega)|exact jW|exact jE|((with_reducible apply Pu.mk);first|exact kE rfl|exact hput _ _ _ he5)|((with_reducible apply Su.mk);first|exact hsub|exact xY)|exact True.intro|exact Or.inl rfl|apply And.intro|intro A|exact rfl)
    all_goals first
     |exact jX
     |exact⟨(j+1,Y.set j (osx (A5,(0,y,L))),m+L.length,ob A5 (zF chF L) L.length++q),⟨hjn,by show 0<=m+(L.length:Int)/\m+(L.length:Int)<=2000*((j+1:Nat):Int);omega,hgT,hnew A5,(zA.drops .nil:zA _ q).trans htq⟩,by show n-(j+1)<n-j;omega,jB,jT⟩
   ·have hcl:clS en G C[j]! = C[j]!:=by unfold clS;rw[if_neg hk]
    rw[hcl]at hgT hset;have hnew:Sg q (Y.set j Y[j]!) (mpd (clS en G) C (j+1)):=by
     rw[<-hset];exact hS.set .nil hjm hsg
    clear hOff;obtain⟨ads,fls,hsx,-⟩:=id e3;rw[hsx]at e3 hsub hput2;generalize C[j]!.1=k at *;generalize C[j]!.2.1=y at *;generalize C[j]!.2.2=L at *;simp only[wJ hn0,vN hn0,List.cons_append,List.nil_append]
    repeat'(first|apply zE|apply zD|apply zC|refine jr ?_|refine jg ?_ ?_|(apply ja;exact jH)|(apply jm;exact jI)|(apply jl;exact jI)|(apply js;exact jJ)|refine jy ?_|refine jd ?_|refine jf ?_|apply zB|apply zQ|apply zL|apply zM|exact jO|((with_reducible apply Ln.mk);first|rfl|omega)|exact jW|exact jE|((with_reducible apply Pu.mk);first|exact kE rfl|exact hput2)|((with_reducible apply Su.mk);first|exact hsub|exact xY)|exact True.intro|exact Or.inl rfl|apply And.intro|intro A|exact rfl)
    all_goals first
     |exact jX
     |exact⟨(j+1,Y.set j Y[j]!,m+L.length,q),⟨hjn,by show 0<=m+(L.length:Int)/\m+(L.length:Int)<=2000*((j+1:Nat):Int);omega,hgT,hnew,htq⟩,by show n-(j+1)<n-j;omega,jB,jT⟩
  ·rw[List.drop_of_length_le (by omega)]at hgT
   replace hgT:m=T:=hgT;subst hgT;rw[zKp (by omega)]at hS;have htt:=htq.trans ht
   repeat'(first|apply zE|apply zD|apply zC|refine jg ?_ ?_|refine jf ?_|(apply vA;exact rfl;all_goals intro hc)|apply zB|apply zV|apply zW|apply zT|apply zL|apply zJ|apply zU|exact jS|fail)
   all_goals first
    |exact jX
    |(apply yA;(exact(show zO _ _ _ _ [_] from⟨rfl,trivial⟩));exact .inl ⟨⟨h16,by omega⟩,rfl,s2,v2,_,A2,Y,q,rfl,h1.re htq,h2.re htq,h3.re htq,hS,htt⟩;(focus repeat(first|with_reducible exact zA.nil|exact htt|with_reducible apply zA.c|with_reducible apply zA.drop|with_reducible apply zA.pre|with_reducible apply zA.drops)))
    |(apply yA;(exact(show zO _ _ _ _ [_] from⟨rfl,trivial⟩));exact .inr ⟨λk=>by omega,9,by decide,rfl,rfl⟩;(focus repeat(first|with_reducible exact zA.nil|exact htt|with_reducible apply zA.c|with_reducible apply zA.drop|with_reducible apply zA.pre|with_reducible apply zA.drops)))
 ·skip
  refine yG Tryz.func112 rfl rfl ?_
  repeat'(first|apply zE|apply zD|apply zC|refine jg ?_ ?_|(apply jm;exact jI)|refine jd ?_|apply zB|apply zV|apply zJ|exact jS|exact jL|exact jE|exact True.intro|exact rfl)
  all_goals first|exact jX|(apply yA;(exact(show zO _ _ _ _ [_] from⟨rfl,trivial⟩));exact .inr ⟨λk=>h16 k.1,9,by decide,rfl,rfl⟩;(focus repeat(first|with_reducible exact zA.nil|exact ht|with_reducible apply zA.c|with_reducible apply zA.drop|with_reducible apply zA.pre|with_reducible apply zA.drops)))
end Go.Proofs.YtbidadebolllkaaGreatDoor
end
