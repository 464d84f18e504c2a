/- Part 7 of the proof of the law TopCutScale: texts merged. No condition. -/
import Derived.Test.YtbidadebolllkaaGreatDoorZTopCutScaleF
import Derived.Lib.Builder
import Derived.LaidEql
import Derived.Lib.UnsafeStr
set_option linter.unusedSimpArgs false
set_option linter.unusedVariables false
section
set_option maxRecDepth 4000
namespace Go.Gh
open Go.RowKit

def yX (st d:Int)(pj:Value)(b:AF):List Value:=.int .i64 st::.int .i64 d::pj::b.flatMap λx=>[.int .i64 (x.1:Int),x.2]

section
variable {P:Program} {N:Fr} {a:AF} {H:zI}

theorem yDw {φ:Fi}{L:zP}{v:Value}(h:scalar v=true):Val φ L v v:=by
 cases v with
 |bool b=>exact .bool b
 |int k n=>exact .int k n
 |string s=>exact .str s
 |_=>cases h
theorem zMm {φ:Fi}{L:zP}{tm:Array Value}:∀(b:AF) (ts:List Nat),
  (∀(i:Nat) v,(b.flatMap λx=>[Value.int .i64 (x.1:Int),x.2])[i]?=some v->∃v',(ts.flatMap λ(t:Nat)=>[Value.int .i64 (t:Int),tm.getD t undef])[i]?=some v'/\Val φ L v v') ->
  ∀x∈b,x.1∈ts/\Val φ L x.2 (tm.getD x.1 undef)
 |[],_,_,x,hx=>by cases hx
 |(t,v)::b,[],h,_,_=>by
  obtain⟨v',h1,_⟩:=h 0 (.int .i64 t) rfl;simp at h1
 |(t,v)::b,s::ts,h,x,hx=>by
  obtain⟨u,h1,h2⟩:=h 0 (.int .i64 t) rfl;obtain⟨y,h3,h4⟩:=h 1 v rfl;have e1:u=.int .i64 (s:Int):=by simpa using h1.symm
  have e2:y=tm.getD s undef:=by simpa using h3.symm
  subst e1;subst e2;have e3:=h2.scalar rfl;have e4:s=t:=by injection e3 with _ e;exact Int.ofNat.inj e
  subst e4;rcases List.mem_cons.1 hx with rfl|hx
  ·exact⟨List.mem_cons_self,h4⟩
  ·obtain⟨q1,q2⟩:=zMm b ts (λi w hi=>by
    obtain⟨w',g1,g2⟩:=h (i+2) w (by simpa using hi);exact⟨w',by simpa using g1,g2⟩) x hx
   exact⟨List.mem_cons_of_mem _ q1,q2⟩
theorem zFc {φ:Fi}{L:zP}{tm:Array Value}:∀(b:AF),(∀x∈b,Val φ L x.2 (tm.getD x.1 undef)) ->
  ∀(i:Nat) v,(b.flatMap λx=>[Value.int .i64 (x.1:Int),x.2])[i]?=some v->∃v',((b.map (·.1)).flatMap λ(t:Nat)=>[Value.int .i64 (t:Int),tm.getD t undef])[i]?=some v'/\Val φ L v v'
 |[],_,i,v,hi=>by simp at hi
 |(t,u)::b,h,i,v,hi=>by
  match i,hi with
  |0,hi =>
   simp only[List.flatMap_cons,List.cons_append,List.getElem?_cons_zero,Option.some.injEq]at hi;subst hi;exact⟨_,rfl,.int _ _⟩
  |1,hi =>
   simp only[List.flatMap_cons,List.cons_append,List.getElem?_cons_succ,List.getElem?_cons_zero,Option.some.injEq]at hi;subst hi;exact⟨_,rfl,h _ List.mem_cons_self⟩
  |i+2,hi =>
   obtain⟨v',g1,g2⟩:=zFc b (λx hx=>h x (List.mem_cons_of_mem _ hx)) i v (by simpa using hi);exact⟨v',by simpa using g1,g2⟩

theorem zPt (b:AF)(tm:Array Value):(b.flatMap λx=>[Value.int .i64 (x.1:Int),x.2]).length=((b.map (·.1)).flatMap λ(t:Nat)=>[Value.int .i64 (t:Int),tm.getD t undef]).length:=by
 induction b with
 |nil=>rfl
 |cons x b ih=>simp only[List.flatMap_cons,List.map_cons,List.length_append,List.length_cons,List.length_nil,ih]
structure zNs (φ:Fi)(L:zP)(w:World)(l:Nat)(st d:Int)(pj:Value)(b:AF)(r:Loop):Prop where
 obj:w.heap[l]?=some (.loop r)
 st:stV r.state=.int .i64 st
 d:vO d.toNat=(r.params,r.assign,r.body,r.tmps.size)
 pj:qR r.pending=pj
 sl:∀x∈b,x.1<r.tmps.size/\Val φ L x.2 (r.tmps.getD x.1 undef)
theorem aB {B0:Nat}{w0:World}{φ:Fi}{w:World}(r:Rel B0 w0 φ H w){A:Nat}{st d:Int}{pj:Value}{b:AF}{ro:Mk}(hA:H[A]?=some (some ⟨yX st d pj b,ro⟩))(hpj:scalar pj=true)
  (h:(φ A).mp=true/\(φ A).size=1):(φ A).base=0/\∃rec,zNs φ (lens H) w (φ A).b st d pj b rec:=by
 obtain⟨o,c,h1,h2,h3,h4⟩:=(r.blk A _ hA).any;cases h2 with
 |cells hm=>rw[h.1]at hm;cases hm
 |map _ _ _ hz=>rw[h.2]at hz;cases hz
 |siter _ _ hz=>rw[h.2]at hz;cases hz
 |miter _ _ hz=>rw[h.2]at hz;cases hz
 |bag _ _ hz=>rw[h.2]at hz;cases hz
 |@loop rec d' ts hm hb hz hd ht =>
  rw[hb]at h4;obtain⟨u0,g0,q0⟩:=h4 0 _ rfl;obtain⟨u1,g1,q1⟩:=h4 1 _ rfl;obtain⟨u2,g2,q2⟩:=h4 2 _ rfl;have e0:u0=stV rec.state:=by simpa[sE]using g0.symm
  have e1:u1=.int .i64 (d':Int):=by simpa[sE]using g1.symm
  have e2:u2=qR rec.pending:=by simpa[sE]using g2.symm
  subst e0;subst e1;subst e2;have k1:=q1.scalar rfl;injection k1 with _ k1
  refine⟨hb,rec,h1,q0.scalar rfl,?_,q2.scalar hpj,λx hx=>?_⟩
  ·rw[<-k1];exact hd
  ·obtain⟨m1,m2⟩:=zMm (tm:=rec.tmps) b ts (λi v hi=>by
    obtain⟨v',z1,z2⟩:=h4 (i+3) v (by simpa[yX]using hi);exact⟨v',by simpa[sE]using z1,z2⟩) x hx
   exact⟨ht _ m1,m2⟩
theorem zCu {B0:Nat}{w0:World}{φ:Fi}{w:World}(r:Rel B0 w0 φ H w){A:Nat}{st d:Int}{pj:Value}{b:AF}(hA:H[A]?=some (some ⟨yX st d pj b,false⟩))(h:(φ A).mp=true/\(φ A).size=1)(hb:(φ A).base=0)(hd0:0<=d)
  {rec:Loop} (hl:zNs φ (lens H) w (φ A).b st d pj b rec) (s:LoopState) (pe:Option Code) (hpe:scalar (qR pe)=true) :
  Ext φ (lens H) φ (lens (H.set A (some ⟨yX (match s with|.ready=>0|.busy=>1|.done=>2|.exhausted=>3) d (qR pe) b,false⟩))) /\
  Rel B0 w0 φ (H.set A (some ⟨yX (match s with|.ready=>0|.busy=>1|.done=>2|.exhausted=>3) d (qR pe) b,false⟩)) (w.putObj (φ A).b (.loop { rec with state:=s,pending:=pe })):=by
 have hlt:=(Array.getElem?_eq_some_iff.1 hl.obj).1;have:=nP (w':=w.putObj (φ A).b (.loop { rec with state:=s,pending:=pe })) (g':=⟨yX (match s with|.ready=>0|.busy=>1|.done=>2|.exhausted=>3) d (qR pe) b,false⟩) (l':=φ A) r hA rfl rfl rfl rfl (by simp)
  (λk _ hk=>World.putObj_heap_other hk) (.inl rfl) hb (.inl ⟨by simp[yX],rfl⟩) (λhext=>by
   rw[mZ]at hext ⊢;refine⟨_,_,World.putObj_heap_same hlt,.loop (d:=d.toNat) (ts:=b.map (·.1)) h.1 hb h.2 hl.d (λt ht=>?_),?_,λi v hi=>?_⟩
   ·obtain⟨x,hx,rfl⟩:=List.mem_map.1 ht
    exact(hl.sl x hx).1
   ·rw[hb,Nat.zero_add,List.size_toArray]
    simp only[yX,sE,List.length_cons,zPt b rec.tmps];exact Nat.le_refl _
   ·rw[hb,Nat.zero_add]
    match i,hi with
    |0,hi=>simp only[yX,List.getElem?_cons_zero,Option.some.injEq]at hi;subst hi;cases s <;> exact⟨_,rfl,.int _ _⟩
    |1,hi =>
     simp only[yX,List.getElem?_cons_succ,List.getElem?_cons_zero,Option.some.injEq]at hi;subst hi;exact⟨.int .i64 (d.toNat:Int),rfl,by rw[Int.toNat_of_nonneg hd0];exact .int _ _⟩
    |2,hi =>
     simp only[yX,List.getElem?_cons_succ,List.getElem?_cons_zero,Option.some.injEq]at hi;subst hi;exact⟨qR pe,rfl,yDw hpe⟩
    |i+3,hi =>
     obtain⟨v',z1,z2⟩:=zFc (tm:=rec.tmps) b (λx hx=>(hl.sl x hx).2.mono hext) i v (by simpa[yX]using hi);exact⟨v',by simpa[sE]using z1,z2⟩)
 rw[mZ]at this;exact this

def pS (b:AF):List (Nat × Value)->AF
 |[]=>b
 |(t,v)::r=>pS ((t,v)::b) r
theorem zRd {φ:Fi}{L:zP}{N:Fr}{ds:List Deferred}:∀(ps:List Nat) (vs us:List Value) (b:AF) (tm:Array Value),vs.length=us.length->ps.length=vs.length->(∀t∈ps,t<N.sz)->yM φ L vs us.toArray->xA φ L N b ⟨tm,ds⟩ ->
  xA φ L N (pS b (ps.zip vs)) ⟨(ps.zip us).foldl (λtmps x=>tmps.setIfInBounds x.1 x.2) tm,ds⟩
 |[],_,_,_,_,_,_,_,_,hf=>by simpa[pS]using hf
 |p::ps,[],_,_,_,_,h,_,_,_=>by simp at h
 |p::ps,v::vs,[],_,_,h,_,_,_,_=>by simp at h
 |p::ps,v::vs,u::us,b,tm,h1,h2,h3,hv,hf=>by
  simp only[List.zip_cons_cons,pS,List.foldl_cons];obtain⟨u',g1,g2⟩:=hv.get 0 v rfl;have e:u'=u:=by simpa using g1.symm
  subst e;refine zRd ps vs us _ _ (by simpa using h1) (by simpa using h2) (λt ht=>h3 t (List.mem_cons_of_mem _ ht)) ⟨by have:=h1;simp at this;simp[this],λi x hi=>?_⟩ ?_
  ·obtain⟨x',k1,k2⟩:=hv.get (i+1) x (by simpa using hi)
   exact⟨x',by simpa using k1,k2⟩
  ·exact hf.put (dst:=some p) (λd hd=>by cases hd;exact h3 p List.mem_cons_self) g2

def zXv (A:Nat)(d:Int)(K:Value->zI->Prop):xR:=λe _ H=>∃b,H[A]?=some (some ⟨yX 1 d (.int .i64 0) b,false⟩) /\
 match e with
 |.normal=>K (.bool true) (H.set A (some ⟨yX 0 d (.int .i64 0) b,false⟩))
 |.ret=>K (.bool false) (H.set A (some ⟨yX 2 d (.int .i64 1) b,false⟩))
 |.exit id=>K (.bool false) (H.set A (some ⟨yX 2 d (.int .i64 (2+id)) b,false⟩))
 |_=>False
structure dE (P:Program)(A:Nat)(d:Int)(vs:List Value)(H:zI)(K:Value->zI->Prop):Prop where
 d0:0<=d
 go:∃b ps as0 bd sz,H[A]?=some (some ⟨yX 0 d (.int .i64 0) b,false⟩)/\vO d.toNat=(ps,as0,bd,sz)/\vs.length=ps.size/\(∀t∈ps.toList,t<sz) /\
  ∀l,AWp P ⟨sz,⟨H.length,some l⟩⟩ as0 (zGy (λa1 H1=>∃b1,H1[A]?=some (some ⟨yX 0 d (.int .i64 0) b1,false⟩)/\AWp P ⟨sz,⟨H.length,some l⟩⟩ bd (zXv A d K) a1 (H1.set A (some ⟨yX 1 d (.int .i64 0) b1,false⟩))) (λ_ _ _=>False)) (pS b (ps.toList.zip vs)) H
theorem zRx {A:Nat}{d:Int}{vs:List Value}{K:Value->zI->Prop}(hR:dE P A d vs H K){B0:Nat}{w0:World}{φs:Fi}{Ls:zP}{φ:Fi}{w:World}{us:Array Value}
  (he:Ext φs Ls φ (lens H)) (r:Rel B0 w0 φ H w) (hv:yM φ (lens H) vs us) (h:(φ A).mp=true/\(φ A).size=1) :
  ∃f tm as0 bd,(Instr.yield (φ A).b us).run P w=.ok (.round (φ A).b f tm as0 bd) w/\RoundIn Fence.wide 0 P (φ A).b f tm as0 bd w (RC B0 w0 φs Ls K):=by
 obtain⟨hd0,b,ps,as0,bd,sz,hA,hd,hlen,hps,go⟩:=hR;obtain⟨hb,rec,hl⟩:=aB r hA rfl h;have hd2:=hl.d;rw[hd]at hd2;simp only[Prod.mk.injEq]at hd2;obtain⟨rfl,rfl,rfl,rfl⟩:=hd2;have hs:us.size=rec.params.size:=by rw[hv.size];exact hlen
 refine⟨_,_,_,_,run_yield hl.obj hs,roundIn_of_wpIn (F:=Fence.wide) trivial ?_⟩;have hg:=go (φ A).b;unfold AWp at hg;have hst:rec.state=.ready:=by have:=hl.st;cases hr:rec.state <;> rw[hr]at this <;> first|rfl|(injection this with _ e;cases e)
 have hfr:xA φ (lens H) ⟨rec.tmps.size,⟨H.length,some (φ A).b⟩⟩ (pS b (rec.params.toList.zip vs)) ⟨(rec.params.zip us).foldl (λtmps (t,a)=>tmps.setIfInBounds t a) rec.tmps,[]⟩:=by
  have hf0:xA φ (lens H) ⟨rec.tmps.size,⟨H.length,some (φ A).b⟩⟩ b ⟨rec.tmps,[]⟩:=by
   refine⟨rfl,λt v ht=>?_⟩;have hm:(t,v)∈b:=by
    clear hl hA hg go
    induction b with
    |nil=>cases ht
    |cons x b ih =>
     obtain⟨k,u⟩:=x;rcases mF ht with⟨rfl,rfl⟩|⟨_,ht⟩
     ·exact List.mem_cons_self
     ·exact List.mem_cons_of_mem _ (ih ht)
   obtain⟨q1,q2⟩:=hl.sl _ hm;exact⟨rec.tmps.getD t undef,by rw[Array.getD_eq_getD_getElem?,Array.getElem?_eq_getElem q1];rfl,q2⟩
  have:=zRd (ds:=[]) rec.params.toList vs us.toList b rec.tmps (by rw[Array.length_toList];exact hv.size.symm) (by rw[Array.length_toList];exact hlen.symm) hps (by simpa using hv) hf0;rw[<-Array.foldl_toList,Array.toList_zip];exact this
 refine wpIn_mono (hg B0 w0 φ (lens H) φ w ⟨_,[]⟩ (λB m hB=>dM hB) (EA.start (.refl _ _)) r hfr) ?_;rintro e ac1 w1 ⟨φ1,a1,H1,e1,r1,f1,q1⟩;cases e with
 |normal =>
  obtain⟨b1,hA1,hbody⟩:=q1;obtain⟨m,hm1,hm2⟩:=e1.ext.at_ A _ (wH hA);have hφ:φ1 A=φ A:=hm2.elim (·.2) (λx=>x.2 h.1);have h':(φ1 A).mp=true/\(φ1 A).size=1:=by rw[hφ];exact h
  obtain⟨hb1,rec1,hl1⟩:=aB r1 hA1 rfl h';obtain⟨x1,x2⟩:=zCu r1 hA1 h' hb1 hd0 hl1 .busy none rfl;have hst1:rec1.state=.ready:=by have:=hl1.st;cases hr:rec1.state <;> rw[hr]at this <;> first|rfl|(injection this with _ e;cases e)
  have hpe1:rec1.pending=none:=by
   have:=hl1.pj;cases hr:rec1.pending with
   |none=>rfl
   |some c=>rw[hr]at this;cases c <;> simp[qR]at this <;> omega
  refine⟨w1.putObj (φ A).b (.loop { rec1 with state:=.busy }),?_,?_⟩
  ·rw[<-hφ];exact run_beginRound hl1.obj hst1
  ·have hw:w1.putObj (φ A).b (.loop { rec1 with state:=.busy })=w1.putObj (φ1 A).b (.loop { rec1 with state:=.busy,pending:=none }):=by rw[hφ,<-hpe1]
   rw[hw];refine wpIn_mono (hbody B0 w0 φ (lens H) φ1 _ ac1 (λB m hB=>dM hB) (e1.trans x1) x2 (f1.mono x1)) ?_;rintro e2 ac2 w2 ⟨φ2,a2,H2,g1,g2,g3,b2,hA2,g4⟩;obtain⟨m2,hm3,hm4⟩:=g1.ext.at_ A _ (wH hA);have hφ2:φ2 A=φ A:=hm4.elim (·.2) (λx=>x.2 h.1);have h2:(φ2 A).mp=true/\(φ2 A).size=1:=by rw[hφ2];exact h
   obtain⟨hb2,rec2,hl2⟩:=aB g2 hA2 rfl h2;have fin:∀(s:LoopState) (pe:Option Code) (v:Bool),scalar (qR pe)=true->v=pe.isNone->s=(if pe.isNone then .ready else .done)->K (.bool v) (H2.set A (some ⟨yX (match s with|.ready=>0|.busy=>1|.done=>2|.exhausted=>3) d (qR pe) b2,false⟩)) ->
     ∃v w',(Instr.endRound (φ A).b pe).run P w2=.ok v w'/\RC B0 w0 φs Ls K (.returned v) w':=by
    rintro s pe v hs rfl rfl hK;obtain⟨y1,y2⟩:=zCu g2 hA2 h2 hb2 hd0 hl2 (if pe.isNone then .ready else .done) pe hs;refine⟨_,_,by rw[<-hφ2];exact run_endRound pe hl2.obj,φ2,.bool pe.isNone,_,.bool pe.isNone,(he.trans g1.ext).trans y1,y2,rfl,.bool _,hK⟩
   cases e2 with
   |normal=>exact fin .ready none true rfl rfl rfl g4
   |ret=>exact fin .done (some .ret) false rfl rfl rfl g4
   |exit id=>exact fin .done (some (.exit id)) false rfl rfl rfl g4
   |goto _=>exact g4.elim
   |panic _=>exact g4.elim
   |outgrown=>exact g4.elim
 |_=>exact q1.elim

variable {ops:Array Oper} {Q:xR} {rest:List Oper} {o:Oper}
theorem zJp {ρ:Operand->Value}{x:Operand}{xs:List Operand}{ts:Array TypeId}{l:Nat}(ho:o.op=.call { callee:=.value x,args:=xs.toArray,argTypes:=ts })(hx:ρ x=.func (.yield l) #[] #[])(w:World) :
  (execOp ρ o).run P w=(Instr.yield l (xs.map ρ).toArray).run P w:=by
 unfold execOp;simp only[ho,resolve,List.map_toArray,hx,Deferred.ofValue,Sem.run_bind,Sem.run_pure,Result.andThen_ok,invoke];simp
theorem zZp (x:Operand)(xs:List Operand)(ts:Array TypeId){A:Nat}{d:Int}{vs:List Value}{v:Value}{H':zI}(ho:o.op=.call { callee:=.value x,args:=xs.toArray,argTypes:=ts })(hx:ev a x=some (.chan (some A)))(hxs:evs a xs=some vs)
  (hR:dE P A d vs H λr H2=>r=v/\H2=H'):vH P N o a H v H':=by
 refine⟨λB0 w0 φ w ac hr hf=>?_⟩;have h1:=zN hf hx;have h2:=pD hf hxs;generalize hu:ac.eval x=u at h1;cases h1 with
 |yld _ n r hL h =>
  obtain⟨f,tm,as0,bd,q1,q2⟩:=zRx hR (.refl _ _) hr h2 h.1;refine .inr (.inr ⟨(φ A).b,f,tm,as0,bd,?_,q2.mono ?_⟩)
  ·rw[zJp ho (by rw[hu,h.2])];exact q1
  ·rintro e w' ⟨φ',r',H2,v',k1,k2,k3,k4,rfl,rfl⟩
   exact⟨φ',v',k1,k2,k3,k4⟩
theorem zNz (x:Operand)(xs:List Operand)(ts:Array TypeId){A:Nat}{d:Int}{vs:List Value}{K:Value->zI->Prop}(ho:o.op=.call { callee:=.value x,args:=xs.toArray,argTypes:=ts })(hx:ev a x=some (.chan (some A)))(hxs:evs a xs=some vs)
  (hN:wK o N=true) (hR:dE P A d vs H K) (k:∀r H',K r H'->wC P N ops Q rest (put a o.dst r) H'):AOp P N o ops rest Q a H:=by
 unfold AOp;intro B0 w0 φs Ls φ w ac hdm he hr hf;have h1:=zN hf hx;have h2:=pD hf hxs;generalize hu:ac.eval x=u at h1;cases h1 with
 |yld _ n r hL h =>
  obtain⟨f,tm,as0,bd,q1,q2⟩:=zRx hR (.refl _ _) hr h2 h.1;refine⟨λ_ _=>trivial,?_⟩;have hrun:(execOp ac.eval o).run P w=.ok (.round (φ A).b f tm as0 bd) w:=by rw[zJp ho (by rw[hu,h.2])];exact q1
  rw[vS hrun (λ_ h=>by cases h)];refine⟨(λh=>by cases h),RoundIn.mono (F:=Fence.wide) q2 ?_⟩;rintro e w' ⟨φ',r',H',v',g1,g2,rfl,g4,g5⟩;have hk:=k r' H' g5;unfold wC at hk;exact hk B0 w0 φs Ls φ' w' _ hdm (he.trans g1).put g2 ((hf.mono g1).put (sZ hN) g4)

def gC :Value->Option Exit
 |.int .i64 0=>some .normal
 |.int .i64 1=>some .ret
 |.int .i64 (.ofNat (n+2))=>some (.exit n)
 |_=>none
theorem yPi {B0:Nat}{w0:World}{φ:Fi}{w:World}(r:Rel B0 w0 φ H w) :
  Ext φ (lens H) ⟨φ.f,w.heap.size::φ.mks⟩ (lens H)/\Rel B0 w0 ⟨φ.f,w.heap.size::φ.mks⟩ H (w.alloc (.deferred (some []))):=by
 have hsz:w0.heap.size<=w.heap.size:=r.below.size;have hb0:=r.b0;have hbel:Below w.heap.size w (w.alloc (.deferred (some []))):=(Below.refl _ w).alloc (Nat.le_refl _) _;have r2:=r.later hbel;refine⟨⟨bC,λD hD=>List.mem_cons_of_mem _ hD⟩,r2.below,r.b0,λA g hA=>?_,r.own,r.inj,r.gw,λD hD=>?_⟩
 ·obtain⟨o,c,h1,h2,h3,h4⟩:=(r2.blk A g hA).any
  exact⟨o,c,h1,h2,h3,λi v hi=>let ⟨v',g1,g2⟩:=h4 i v hi;⟨v',g1,g2.monoF bC⟩⟩
 ·rcases List.mem_cons.1 hD with rfl|hD
  ·exact⟨World.alloc_heap_new w _,by omega⟩
  ·exact r2.mks D hD
theorem yIg {b:AF}(h:Sub b a):∀x∈b,get a x.1=some x.2:=by
 induction b with
 |nil=>intro x hx;cases hx
 |cons y b ih =>
  obtain⟨t,v⟩:=y;intro x hx;rcases List.mem_cons.1 hx with rfl|hx
  ·exact h.1
  ·exact ih h.2 x hx
theorem zTo {f:Operand}{ps:Array Tmp}{as0 bd:Code}{g:FuncId}{first captured:Array Value}{b:AF}{d A:Nat}{H1:zI}{R:Value->zI->Prop}
  (hro:N.n0.ro=none) (hf:ev a f=some (.func (.func g) first captured)) (hen:xL P g=true) (hd:vO d=(ps,as0,bd,N.sz)) (hb:Sub b a) (hbs:∀x∈b,x.1<N.sz)
  (hpl:Place H A H1 ⟨yX 0 d (.int .i64 0) b,false⟩) (hrun:Run P g (first.toList++[.chan (some A)]++captured.toList) H1 R)
  (k:∀r H2,R r H2->∃st pj b2 e,H2[A]?=some (some ⟨yX st d pj b2,false⟩)/\(st=0\/st=2)/\gC pj=some e/\Q e a (H2.set A (some ⟨yX 3 d pj b2,false⟩))):AWp P N (.rangeFunc f ps as0 bd) Q a H:=by
 unfold AWp;intro B0 w0 φs Ls φ w ac hdm he hr hfr;refine wpIn_rangeFunc (λfn _=>?_);have hre:(fc N).round=none:=hro;rw[hre];obtain⟨x1,x2⟩:=yPi hr;generalize hm:(⟨φ.f,w.heap.size::φ.mks⟩:Fi)=φm at x1 x2;have hmk:φm.mks=w.heap.size::φ.mks:=by rw[<-hm]
 obtain⟨rec,hrec⟩:∃rec:Loop,rec={ state:=.ready,pending:=none,fn:=fn,tmps:=ac.tmps,params:=ps,assign:=as0,body:=bd,defers:=w.heap.size }:=⟨_,rfl⟩;have hslot:∀x∈b,x.1<ac.tmps.size/\Val φm (lens H) x.2 (ac.tmps.getD x.1 undef):=λx hx=>by
  obtain⟨v',q1,q2⟩:=hfr.slot _ _ (yIg hb x hx);refine⟨by rw[hfr.size];exact hbs x hx,?_⟩;rw[Array.getD_eq_getD_getElem?,q1];exact q2.mono x1
 obtain⟨y1,y2⟩:=lM (w':=(w.alloc (.deferred (some []))).alloc (.loop rec)) (l0:=⟨w.heap.size+1,0,1,true⟩) x2 hpl (by simp) rfl rfl rfl rfl rfl λhext=>by
  refine⟨.loop rec,(sE rec d (b.map (·.1))).toArray,?_,?_,?_,λi v hi=>?_⟩
  ·have:=World.alloc_heap_new (w.alloc (.deferred (some []))) (.loop rec);rwa [World.size_alloc]at this
  ·refine .loop rfl rfl rfl ?_ λt ht=>?_
   ·rw[hd,hrec,<-hfr.size]
   ·obtain⟨x,hx,rfl⟩:=List.mem_map.1 ht
    rw[hrec];exact(hslot x hx).1
  ·rw[Nat.zero_add,List.size_toArray]
   simp only[yX,sE,List.length_cons,zPt b rec.tmps];exact Nat.le_refl _
  ·rw[Nat.zero_add]
   match i,hi with
   |0,hi=>simp only[yX,List.getElem?_cons_zero,Option.some.injEq]at hi;subst hi;exact⟨_,by simp[sE,hrec,stV],.int _ _⟩
   |1,hi=>simp only[yX,List.getElem?_cons_succ,List.getElem?_cons_zero,Option.some.injEq]at hi;subst hi;exact⟨_,by simp[sE],.int _ _⟩
   |2,hi=>simp only[yX,List.getElem?_cons_succ,List.getElem?_cons_zero,Option.some.injEq]at hi;subst hi;exact⟨_,by simp[sE,hrec,qR],.int _ _⟩
   |i+3,hi =>
    obtain⟨v',z1,z2⟩:=zFc (tm:=ac.tmps) b (λx hx=>(hslot x hx).2.mono hext) i v (by simpa[yX]using hi);exact⟨v',by rw[hrec];simpa[sE]using z1,z2⟩
 have h1:=zN hfr hf;generalize hu:ac.eval f=u at h1;cases h1 with
 |func _ _ b' _ d' q1 q2 q3 q4 =>
  have hvr:yM (upd φm A ⟨w.heap.size+1,0,1,true⟩) (lens H1) (first.toList++[.chan (some A)]++captured.toList) (b'++#[.func (.yield (w.heap.size+1)) #[] #[]]++d'):=by
   refine(((yM.of_arrays q1 q2).mono (x1.trans y1)).append ?_).append ((yM.of_arrays q3 q4).mono (x1.trans y1));refine⟨rfl,λi v hi=>?_⟩;cases i with
   |zero =>
    simp only[List.getElem?_cons_zero,Option.some.injEq]at hi;subst hi;exact⟨_,rfl,.yld A _ _ hpl.lens (by rw[yU];exact⟨⟨rfl,rfl⟩,rfl⟩)⟩
   |succ i=>simp at hi
  refine⟨w.heap.size+1,[{ target:=.collected w.heap.size,args:=#[] }],(w.alloc (.deferred (some []))).alloc (.loop rec),{ target:=.fn (.func g) d',args:=b'++#[.func (.yield (w.heap.size+1)) #[] #[]] },
   (w.alloc (.deferred (some []))).alloc (.loop rec),g,b'++#[.func (.yield (w.heap.size+1)) #[] #[]]++d',(w.alloc (.deferred (some []))).alloc (.loop rec),?_,?_,λ_ _=>trivial,?_,(λh=>by cases h),?_⟩
  ·rw[hrec];exact run_enterLoop_outer _ _ _ _ _
  ·simp only[resolve,hu,Deferred.ofValue,Sem.run_pure]
   simp[Act.eval]
  ·simp only[invoke];exact uU hen _ _
  ·unfold Run at hrun
   refine(callsIn_wide (n:=0)).2 ((hrun B0 w0 (upd φm A ⟨w.heap.size+1,0,1,true⟩) (lens H1) _ _ _ (.refl _ _) y2 hvr).mono ?_);rintro e w3 ⟨φ3,r,H3,v,g1,g2,rfl,g4,g5⟩;obtain⟨st,pj,b2,e,hA3,hst,hj,hQ⟩:=k r H3 g5;obtain⟨m3,hm3,hm4⟩:=g1.at_ A _ (wH hpl.at_);have hφ3:φ3 A=⟨w.heap.size+1,0,1,true⟩:=(hm4.elim (·.2) (λx=>x.2 (by rw[yU]))).trans yU;have h3:(φ3 A).mp=true/\(φ3 A).size=1:=by rw[hφ3];exact⟨rfl,rfl⟩
   have hpjs:scalar pj=true:=by unfold gC at hj;split at hj <;> first|rfl|cases hj
   obtain⟨hb3,rec3,hl3⟩:=aB g2 hA3 hpjs h3;have hnb:rec3.state≠.busy:=λhbz=>by
    have:=hl3.st;rw[hbz]at this;injection this with _ e;rcases hst with rfl|rfl <;> cases e
   have hsc:scalar (qR rec3.pending)=true:=by rw[hl3.pj];exact hpjs
   obtain⟨z1,z2⟩:=zCu g2 hA3 h3 hb3 (by omega) hl3 .exhausted rec3.pending hsc;rw[hl3.pj]at z1 z2;have hext:Ext φ (lens H) φ3 (lens (H3.set A (some ⟨yX 3 d pj b2,false⟩))):=((x1.trans y1).trans g1).trans z1;have hend:=run_endLoop (P:=P) hl3.obj hnb;have hbl:(φ3 A).b=w.heap.size+1:=by rw[hφ3]
   rw[hbl]at hend z2;have hD:w.heap.size∈φ3.mks:=g1.mks _ (by show w.heap.size∈φm.mks;rw[hmk];exact List.mem_cons_self);have hea:EA φs Ls φ3 (lens (H3.set A (some ⟨yX 3 d pj b2,false⟩))) ([{ target:=.collected w.heap.size,args:=#[] }]++ac.defers):=by
    obtain⟨M,m1,m2,m3⟩:=he.dk;have hlt:∀D∈φ.mks,D<w.heap.size:=λD hD=>(Array.getElem?_eq_some_iff.1 (hr.mks D hD).1).1;refine⟨he.ext.trans hext,w.heap.size::M,by rw[m1];rfl,List.nodup_cons.2 ⟨λhM=>?_,m2⟩,λD hD2=>?_⟩
    ·have:=hlt _ (m3 _ hM).1;omega
    ·rcases List.mem_cons.1 hD2 with rfl|hD2
     ·exact⟨hD,λhs=>by have:=hlt _ (he.ext.mks _ hs);omega⟩
     ·exact⟨hext.mks D (m3 D hD2).1,(m3 D hD2).2⟩
   refine⟨rec3.pending,_,hend,?_⟩;have hQC:QC B0 w0 N φs Ls Q e { ac with defers:=[{ target:=.collected w.heap.size,args:=#[] }]++ac.defers } (w3.putObj (w.heap.size+1) (.loop { rec3 with state:=.exhausted })) :=
    ⟨φ3,a,_,hea,z2,⟨hfr.size,λt v ht=>let ⟨v',s1,s2⟩:=hfr.slot t v ht;⟨v',s1,s2.mono hext⟩⟩,hQ⟩
   have hpj:=hl3.pj;cases hp:rec3.pending with
   |none =>
    rw[hp]at hpj hQC;subst hpj;simp only[qR,gC,Option.some.injEq]at hj;subst hj;exact hQC
   |some c =>
    rw[hp]at hpj hQC;cases c with
    |ret =>
     subst hpj;simp only[qR,gC,Option.some.injEq]at hj;subst hj;exact wpIn_ret hQC
    |exit id =>
     subst hpj;have:gC (qR (some (.exit id)))=some (.exit id):=by
      show gC (.int .i64 (2+(id:Int)))=_;rw[show(2+(id:Int))=Int.ofNat (id+2)by show _=((id+2:Nat):Int);omega];rfl
     rw[this]at hj;simp only[Option.some.injEq]at hj;subst hj;exact wpIn_exit hQC
    |_=>subst hpj;cases hj
end
noncomputable section

inductive Tri (α:Type)|e|n (v:Option α) (l r:Tri α)
namespace Tri
variable {α:Type}
def get (t:Tri α):Nat->Option α :=
 t.rec (motive:=λ_=>Nat->Option α) (λ_=>none) λv _ _ gl gr k =>
  k.rec (motive:=λ_=>Option α) v λj _=>(Nat.beq (Nat.mod j 2) 0).rec (motive:=λ_=>Option α) (gr (Nat.div j 2)) (gl (Nat.div j 2))
def mk (v:Option α)(l r:Tri α):Tri α :=
 l.rec (motive:=λ_=>Tri α) (r.rec (motive:=λ_=>Tri α) (.n v .e .e) λa b c _ _=>.n v .e (.n a b c)) λa b c _ _ =>
  r.rec (motive:=λ_=>Tri α) (.n v (.n a b c) .e) λa' b' c' _ _=>.n v (.n a b c) (.n a' b' c')
def put (f:Nat):Tri α->Nat->α->Tri α :=
 f.rec (motive:=λ_=>Tri α->Nat->α->Tri α) (λt _ _=>t) λ_ ih t k x =>
  t.rec (motive:=λ_=>Tri α)
   (k.rec (motive:=λ_=>Tri α) (.n (some x) .e .e) λj _=>(Nat.beq (Nat.mod j 2) 0).rec (motive:=λ_=>Tri α) (mk none .e (ih .e (Nat.div j 2) x)) (mk none (ih .e (Nat.div j 2) x) .e))
   λv l r _ _=>k.rec (motive:=λ_=>Tri α) (.n (some x) l r) λj _=>(Nat.beq (Nat.mod j 2) 0).rec (motive:=λ_=>Tri α) (mk v l (ih r (Nat.div j 2) x)) (mk v (ih l (Nat.div j 2) x) r)
abbrev set (t:Tri α)(k:Nat)(x:α):Tri α:=put (k+1) t k x
end Tri
abbrev Fm :=Tri Value
structure Hp where
 lk:Nat
 d:Nat
 t:Tri Blk
def Hp.n (h:Hp):Nat:=Nat.add h.lk h.d
def eV (b:Blk):Blk:=⟨b.cells,true⟩
def zOe (c:Bool)(b:Option Blk):Option Blk:=bif c then b.map eV else b
def Hp.get (h:Hp)(A:Nat):Option Blk:=bif Nat.blt A h.n then zOe (Nat.blt A h.lk) (h.t.get A)else none
def Hp.set (h:Hp)(A:Nat)(b:Blk):Hp:=⟨h.lk,h.d,h.t.set A b⟩
def Hp.push (h:Hp)(b:Blk):Hp:=⟨h.lk,h.d+1,h.t.set h.n b⟩
def Hp.shut (h:Hp):Hp:=⟨h.n,0,h.t⟩
def Hp.none :Hp:=⟨0,0,.e⟩

inductive Ou (α:Type)|err (s:String)|one (a:α)|two (l r:Ou α)
def Ou.bind {α β:Type}(r:Ou α)(g:α->Ou β):Ou β:=match r with
 |.err s=>.err s
 |.one a=>g a
 |.two a b=>.two (Ou.bind a g) (Ou.bind b g)

inductive OpR
 |no (s:String)
 |val (v:Value) (fp:List Nat)
 |all (v:Value)
 |new (b:Blk) (v:Nat->Value)
 |newR (b:Blk) (v:Nat->Value) (fp:List Nat)
 |upd (v:Value) (A:Nat) (b:Blk)
 |call (f:FuncId) (as0:List Value)
 |yld (A:Nat) (as0:List Value)
 |alts (A:Nat) (l:List (Value × Blk))

def xB (f:Fm):Operand->Option Value
 |.tmp t=>f.get t
 |.const v=>bif yB v then some v else none
 |.global _=>none
 |.func g=>some (.func (.func g) #[] #[])
def uI (f:Fm):List Operand->Option (List Value)
 |[]=>some []
 |x::r=>match xB f x,uI f r with
  |some v,some vs=>some (v::vs)
  |_,_=>none
def iQ (f:Fm):List (Nat × Operand)->Option (List (Nat × Value))
 |[]=>some []
 |(i,x)::r=>match xB f x,iQ f r with
  |some v,some vs=>some ((i,v)::vs)
  |_,_=>none

def lim :Nat:=1000000
def yQ :ByteArray->List UInt8
 |⟨⟨l⟩⟩=>l
def sN :List UInt8->List UInt8->Bool
 |[],[]=>true
 |a::r,b::s=>(Nat.beq a.toNat b.toNat) && sN r s
 |_,_=>false
def eqI (a b:Int):Bool:=match a,b with
 |.ofNat m,.ofNat n=>Nat.beq m n
 |.negSucc m,.negSucc n=>Nat.beq m n
 |_,_=>false
def ltI (a b:Int):Bool:=match a,b with
 |.ofNat m,.ofNat n=>Nat.blt m n
 |.negSucc m,.negSucc n=>Nat.blt n m
 |.negSucc _,.ofNat _=>true
 |.ofNat _,.negSucc _=>false
def zCk (op:BinOp)(k:IntKind)(m n:Int):Option Value:=match op with
 |.add=>some (.int k (k.wrap (m+n)))
 |.sub=>some (.int k (k.wrap (m-n)))
 |.mul=>some (.int k (k.wrap (m*n)))
 |.quo=>bif eqI n 0 then none else some (.int k (k.wrap (m.tdiv n)))
 |.rem=>bif eqI n 0 then none else some (.int k (m.tmod n))
 |.and=>some (.int k (k.wrap (BitVec.ofInt k.bits m&&&BitVec.ofInt k.bits n).toNat))
 |.or=>some (.int k (k.wrap (BitVec.ofInt k.bits m ||| BitVec.ofInt k.bits n).toNat))
 |.xor=>some (.int k (k.wrap (BitVec.ofInt k.bits m^^^BitVec.ofInt k.bits n).toNat))
 |.lss=>some (.bool (ltI m n))
 |.gtr=>some (.bool (ltI n m))
 |.leq=>some (.bool (!ltI n m))
 |.geq=>some (.bool (!ltI m n))
 |.eql=>some (.bool (eqI m n))
 |.neq=>some (.bool (!eqI m n))
 |_=>none
def zDi (op:BinOp)(k:IntKind)(m n:Int):Option Value:=match n with
 |.ofNat n=>match op with
  |.shl=>some (.int k (k.wrap (m*2^(min n k.bits))))
  |.shr=>some (.int k (m.fdiv (2^(min n k.bits))))
  |_=>none
 |_=>none
def oI :IntKind->IntKind->Bool
 |.i8,.i8|.i16,.i16|.i32,.i32|.i64,.i64|.u8,.u8|.u16,.u16|.u32,.u32|.u64,.u64=>true
 |_,_=>false
def bB (P:Program)(T:TypeId):Bool:=match P.underlying T with|some .bool=>true|_=>false
def pO (P:Program)(T:TypeId):Bool:=match P.underlying T with|some .string=>true|_=>false
def eZ (P:Program)(T:TypeId):Bool:=match P.underlying T with|some (.pointer _)=>true|_=>false
def gQ (P:Program)(T:TypeId):Bool:=match P.underlying T with|some (.slice _)=>true|_=>false
def zBv (P:Program)(T:TypeId):Bool:=match P.underlying T with|some (.map _ _)=>true|_=>false
def zAa (P:Program)(T:TypeId):Bool:=match P.underlying T with|some (.int .u8)=>true|_=>false
def tM (P:Program)(T:TypeId):Option TypeId:=match P.underlying T with|some (.slice E)=>some E|_=>none
def zAr (P:Program)(op:BinOp)(T:TypeId)(u v:Value):Option Value:=match u,v with
 |.int k m,.int k' n=>match op with
  |.shl|.shr=>zDi op k m n
  |_=>bif oI k k' then zCk op k m n else none
 |.string a,.string b=>match op with
  |.add=>bif Nat.ble ((yQ a).length+(yQ b).length) lim then some (.string ⟨⟨yQ a++yQ b⟩⟩)else none
  |.eql=>some (.bool (sN (yQ a) (yQ b)))
  |.neq=>some (.bool (!sN (yQ a) (yQ b)))
  |.lss=>some (.bool (Op.bytesLess (yQ a) (yQ b)))
  |.gtr=>some (.bool (!(Op.bytesLess (yQ a) (yQ b) || sN (yQ a) (yQ b))))
  |_=>none
 |.bool a,.bool b=>bif bB P T then(match op with
  |.eql=>some (.bool (a == b))
  |.neq=>some (.bool (!(a == b)))
  |_=>none)else none
 |.pointer ad,.pointer none=>bif eZ P T then(match op with
  |.eql=>some (.bool ad.isNone)
  |.neq=>some (.bool ad.isSome)
  |_=>none)else none
 |.slice ad _ _,.slice none 0 0=>bif gQ P T then(match op with
  |.eql=>some (.bool ad.isNone)
  |.neq=>some (.bool ad.isSome)
  |_=>none)else none
 |.agg a,.agg b=>bif sW P T a.toList.length && yW a.toList b.toList && uY P T a.toList then(match op with
  |.eql=>some (.bool (xI a.toList b.toList))
  |.neq=>some (.bool (!xI a.toList b.toList))
  |_=>none)else none
 |_,_=>none
def uD (g:Blk)(o m:Nat):Option (List Value):=let l:=(g.cells.drop o).take m;bif Nat.beq l.length m then some l else none
def eS :List Value->Option (List UInt8)
 |[]=>some []
 |.int .u8 (.ofNat n)::r=>bif Nat.blt n 256 then(match eS r with|some l=>some (UInt8.ofNat n::l)|none=>none)else none
 |_::_=>none
inductive KV |i (n:Int)|s (l:List UInt8)|a (l:List Value)
def qO :Value->Option KV
 |.int .i64 n=>some (.i n)
 |.string b=>some (.s (yQ b))
 |.agg l=>some (.a l.toList)
 |_=>none
def eB :KV->KV->Bool
 |.i m,.i n=>eqI m n
 |.s a,.s b=>sN a b
 |.a x,.a y=>xI x y
 |_,_=>false
def nM :KV->KV->Bool
 |.i _,.i _=>true
 |.s _,.s _=>true
 |.a x,.a y=>yW x y
 |_,_=>false
def wZ (k:KV):List Value->Nat->Option (Option (Nat × Value))
 |[],_=>some none
 |[_],_=>none
 |x::v::r,i=>match qO x with
  |none=>none
  |some k'=>bif nM k' k then(bif eB k' k then some (some (i,v))else wZ k r (i+1))else none
def sP (P:Program)(K:TypeId)(k:KV):Bool:=match k,P.underlying K with
 |.i _,some (.int .i64)=>true
 |.s _,some .string=>true
 |.a l,some (.struct _)=>sW P K l.length && uY P K l && yW l l
 |_,_=>false

section
variable (P:Program) (f:Fm) (h:Hp)
def ofO (s:String):Option Value->OpR
 |some v=>.val v []
 |none=>.no s
def bZ (x:Operand):OpR:=ofO "move" (xB f x)
def zAp (c x y:Operand):OpR:=match xB f c with
 |some (.bool b)=>ofO "pick" (xB f (bif b then x else y))
 |_=>.no "pick"
def zEb (T:TypeId):OpR:=match yC P T with
 |some (some z,_,_)=>bif yB z then .new ⟨z.cells.toList,⟨false,some T⟩⟩ (λA=>zG A 0 z.cells.size)else .no "alloc"
 |_=>.no "alloc"
def zDk (T:TypeId)(x:Operand):OpR:=match xB f x with
 |some v=>.new ⟨v.cells.toList,⟨false,some T⟩⟩ (λA=>zG A 0 v.cells.size)
 |none=>.no "box"
def zDl :Option (List Value)->OpR
 |some out=>.val (.agg out.toArray) []
 |none=>.no "build"
def zJf (T:TypeId)(zs:List Value)(vs:List (Nat × Value)):OpR:=match sH P T with
 |some pl=>zDl (wN (λi:Nat=>pl[i]?) zs vs)
 |none=>.no "build"
def zUi (n:Nat)(E:TypeId)(zs:List Value)(vs:List (Nat × Value)):OpR:=match yC P E with
 |some (_,s,_)=>zDl (wN (λi:Nat=>(fL n s)[i]?) zs vs)
 |none=>.no "build"
def zSp (T:TypeId)(zs:List Value)(vs:List (Nat × Value)):OpR:=match P.underlying T with
 |some (.struct _)=>zJf P T zs vs
 |some (.array n E)=>zUi P n E zs vs
 |_=>.no "build"
def zHl (T:TypeId)(ps:List (Nat × Operand)):OpR:=match iQ f ps with
 |none=>.no "build parts"
 |some vs=>match yC P T with
  |some (some (.agg zs),_,_)=>bif yB (.agg zs)then zSp P T zs.toList vs else .no "build zero"
  |_=>.no "build type"
def zUp (n:Nat)(vs:List (Nat × Value))(E:TypeId):OpR:=match yC P E with
 |some (some z,s,_)=>bif yB z && Nat.beq z.cells.size s && Nat.blt 0 s && Nat.ble (n*s) 16777216 then
   (match wN (λi=>some (i*s,s)) (qE z (n*s)) vs with|some out=>.new ⟨out,false⟩ (λA=>gsl A 0 (n*s) n s)|none=>.no "buildSlice")else .no "buildSlice"
 |_=>.no "buildSlice"
def zFl (T:TypeId)(n:Nat)(ps:List (Nat × Operand)):OpR:=match iQ f ps,tM P T with
 |some vs,some E=>zUp P n vs E
 |_,_=>.no "buildSlice"
def qV (A n:Nat):Option Blk:=match h.get A with
 |some g=>bif Nat.beq g.cells.length n then some g else none
 |none=>none
def ofL (A:Nat):Option (List Value)->OpR
 |some l=>.val (.agg l.toArray) [A]
 |none=>.no "load cells"
def ofV (A:Nat):Option Value->OpR
 |some v=>.val v [A]
 |none=>.no "load cell"
def zCg (T:TypeId)(A off:Nat)(g:Blk):OpR:=match vM P T with
 |some false=>ofV A g.cells[off]?
 |some true=>(match yC P T with
  |some (_,s,_)=>bif Nat.ble (off+s) g.cells.length then ofL A (uD g off s)else .no "load cells"
  |none=>.no "load type")
 |none=>.no "load type"
def dJ (T:TypeId)(x:Operand):OpR:=match xB f x with
 |some (.pointer (some ⟨A,off,some n⟩))=>(match qV h A n with
  |some g=>zCg P T A off g
  |none=>.no "load block")
 |_=>.no "load pointer"
def zTm (A off s n:Nat)(cells:List Value)(m:Mk)(v:Value):OpR:=match v with
 |.agg l=>bif l.toList.all one && Nat.beq l.toList.length s && Nat.ble (off+s) n then .upd undef A ⟨wO cells off l.toList,m⟩else .no "store agg"
 |v=>bif one v && Nat.beq s 1 && Nat.blt off n then .upd undef A ⟨cells.set off v,m⟩else .no "store"
def zHw (T:TypeId)(A off n:Nat)(g:Blk)(v:Value):OpR:=match yC P T with
 |some (_,s,_)=>bif g.ro.b then .no "store frozen" else zTm A off s n g.cells g.ro v
 |none=>.no "store type"
def zGg (T:TypeId)(x y:Operand):OpR:=match xB f x,xB f y with
 |some (.pointer (some ⟨A,off,some n⟩)),some v=>(match qV h A n with
  |some g=>zHw P T A off n g v
  |none=>.no "store block")
 |_,_=>.no "store operands"
def zDo (x:Operand):OpR:=match xB f x with
 |some (.pointer (some a))=>.val (.pointer (some a)) []
 |some (.func (.func g) us vs)=>.val (.func (.func g) us vs) []
 |_=>.no "nilCheck"
def aM (op:BinOp)(b:Bool)(fp:List Nat):OpR:=match op with
 |.eql=>.val (.bool b) fp
 |.neq=>.val (.bool !b) fp
 |_=>.no "binOp"
def zVa (op:BinOp)(T:TypeId)(A n:Nat)(same:Bool):OpR:=match P.underlying T with
 |some (.pointer E)=>(match yC P E,qV h A n with
  |some _,some _=>bif same then aM op true [A] else .no "binOp pointers"
  |_,_=>.no "binOp pointers")
 |_=>.no "binOp pointers"
def dL :Operand->Bool
 |.const _=>true
 |_=>false
def zMw (op:BinOp)(T:TypeId)(c:Bool):OpR:=match P.underlying T with
 |some (.interface _)=>bif c then aM op true [] else .no "binOp interfaces"
 |_=>.no "binOp interfaces"
def zBw (op:BinOp)(T:TypeId)(x y:Operand):OpR:=match xB f x,xB f y with
 |some (.pointer (some ⟨A,o,some n⟩)),some (.pointer (some ⟨A',o',some n'⟩))=>zVa P h op T A n (Nat.beq A A' && Nat.beq o o' && Nat.beq n n')
 |some .nilIface,some .nilIface=>zMw P op T (dL x || dL y)
 |some u,some v=>ofO "binOp" (zAr P op T u v)
 |_,_=>.no "binOp operands"
def zBt (op:UnOp)(x:Operand):OpR:=match op,xB f x with
 |.not,some (.bool b)=>.val (.bool (!b)) []
 |.neg,some (.int k n)=>.val (.int k (k.wrap (0-n))) []
 |_,_=>.no "unOp"
def zLd (A:Nat):Option (List Value)->OpR
 |some l=>(match eS l with|some bs=>.val (S bs) [A]|none=>.no "convert no bytes")
 |none=>.no "convert cells"
def zIr (A off n len:Nat):OpR:=match qV h A n with
 |some g=>zLd A (uD g off len)
 |none=>.no "convert block"
def zOs (b:ByteArray)(U:TypeId):OpR:=match P.underlying U with
 |some .string=>.val (.string b) []
 |some (.slice E)=>bif zAa P E && Nat.ble (yQ b).length lim then .new ⟨zS (yQ b),false⟩ (λA=>gsl A 0 (yQ b).length (yQ b).length 1)else .no "convert bytes"
 |_=>.no "convert string"
def zKr (T:TypeId)(ad:Option Addr)(len fl:Nat):OpR:=match tM P T with
 |some E=>bif zAa P E then(match ad with
  |none=>bif Nat.beq len 0 && Nat.beq fl 0 then .val (S []) [] else .no "convert nil"
  |some ⟨A,off,some n⟩=>zIr h A off n len
  |_=>.no "convert slice")else .no "convert elements"
 |none=>.no "convert slice"
def zMc (A off n t:Nat):Option (Option Value × Nat × Nat)->Option Blk->OpR
 |some (_,s,_),some g=>bif Nat.blt 0 s && Nat.blt off g.cells.length && !g.ro.b then(match g.ro.ty with
  |some _=>.val (.pointer (some ⟨A,off,some n⟩)) [A]
  |none=>.no "convert no type")else .no "convert pointer"
 |_,_=>.no "convert pointer"
def zMa (A off n u:Nat):Option (Option Value × Nat × Nat)->Option Blk->OpR
 |some _,some g=>(match g.ro.ty with
  |some e=>bif liesAt P P.depth e (g.cells.length/P.cellsOf e) off u 1 && !g.ro.b then .val (.pointer (some ⟨A,off,some n⟩)) [A] else .no "convert lies"
  |none=>.no "convert no type")
 |_,_=>.no "convert pointer"
def zRl (ad:Option Addr)(T U:TypeId):OpR:=match ad,P.underlying T,P.underlying U with
 |some ⟨A,off,some n⟩,some (.pointer t),some .unsafePointer=>zMc A off n t (yC P t) (qV h A n)
 |some ⟨A,off,some n⟩,some .unsafePointer,some (.pointer u)=>zMa P A off n u (yC P u) (qV h A n)
 |_,_,_=>.no "convert pointer"
def zVg (T U:TypeId)(n:Int):OpR:=match P.underlying T,P.underlying U with
 |some _,some (.int k)=>.val (.int k (k.wrap n)) []
 |_,_=>.no "convert number"
def zAn (T U:TypeId)(x:Operand):OpR:=match xB f x with
 |some (.int _ n)=>zVg P T U n
 |some (.string b)=>bif pO P T then zOs P b U else .no "convert"
 |some (.slice ad len fl)=>bif pO P U then zKr P h T ad len fl else .no "convert"
 |some (.pointer ad)=>zRl P h ad T U
 |_=>.no "convert"
def zFj (fn:Fn)(xs ys:List Operand):OpR:=match uI f xs,uI f ys with
 |some us,some vs=>.val (.func fn us.toArray vs.toArray) []
 |_,_=>.no "makeFunc"
def zSl (n c:Nat)(E:TypeId):OpR:=match yC P E with
 |some (some z,s,b)=>bif yB z && Nat.beq z.cells.size s && Nat.blt 0 s && Nat.ble n c && Nat.ble (b*c) lim && Nat.ble c lim then .new ⟨qE z (n*s),false⟩ (λA=>gsl A 0 (n*s) n s)else .no "makeSlice"
 |_=>.no "makeSlice"
def zDh (T:TypeId)(x y:Operand):OpR:=match xB f x,xB f y,tM P T with
 |some (.int _ (.ofNat n)),some (.int _ (.ofNat c)),some E=>zSl P n c E
 |_,_,_=>.no "makeSlice"
def eR :Option Operand->Option (Option Nat)
 |none=>some none
 |some x=>match xB f x with
  |some (.int _ (.ofNat n))=>some (some n)
  |_=>none
def zMd (l:List UInt8)(lo hi mx:Option Nat):OpR:=match lo,hi,mx with
 |some i,some n,none=>bif Nat.ble i n && Nat.ble n l.length then .val (S ((l.take n).drop i)) [] else .no "slice string"
 |some i,none,none=>bif Nat.ble i l.length then .val (S (l.drop i)) [] else .no "slice string"
 |none,some n,none=>bif Nat.ble n l.length then .val (S (l.take n)) [] else .no "slice string"
 |_,_,_=>.no "slice string"
def zOx (A off n len fl s:Nat)(lo hi mx:Option Nat):OpR:=match lo,hi,mx with
 |some i,some m,none=>bif Nat.ble i m && Nat.ble m len then(bif Nat.blt i m || Nat.beq i 0 then .val (gsl A (off+i*s) n (m-i) 0) [] else .val iL [])else .no "slice cut"
 |some i,none,none=>bif Nat.beq i len then .val iL [] else bif Nat.ble i len then .val (gsl A (off+i*s) n (len-i) 0) [] else .no "slice from"
 |none,some m,none=>bif Nat.ble m len then .val (gsl A off n m (bif Nat.beq (m*s) n && Nat.beq off 0 then fl else 0)) [] else .no "slice to"
 |none,some m,some m'=>bif Nat.beq m m' && Nat.ble m len then .val (.slice (some ⟨A,off,none⟩) m (n+1)) [] else .no "slice three"
 |_,_,_=>.no "slice form"
def zVl (lo hi mx:Option Nat):OpR:=match lo,hi,mx with
 |none,some 0,some 0=>.val (.slice none 0 0) []
 |some 0,none,none=>.val (.slice none 0 0) []
 |none,some 0,none=>.val (.slice none 0 0) []
 |_,_,_=>.no "slice nil"
def zLh (A off n len:Nat)(E:TypeId)(lo hi mx:Option Nat):OpR:=match lo,hi,mx with
 |none,none,none=>bif (match yC P E with|some _=>true|none=>false) && Nat.ble len lim then .val (.slice (some ⟨A,off,none⟩) len (n+1)) [] else .no "slice array"
 |_,_,_=>.no "slice array"
def zQr (ad:Option Addr)(len fl s:Nat)(lo hi mx:Option Nat):OpR:=match ad with
 |some ⟨A,off,some n⟩=>zOx A off n len fl s lo hi mx
 |none=>bif Nat.beq len 0 && Nat.beq fl 0 then zVl lo hi mx else .no "slice nil"
 |_=>.no "slice operand"
def zTb (ad:Option Addr)(len fl:Nat)(T:TypeId)(lo hi mx:Option Nat):OpR:=match tM P T with
 |some E=>(match yC P E with|some (_,s,_)=>zQr ad len fl s lo hi mx|none=>.no "slice")
 |none=>.no "slice"
def zSt (ad:Option Addr)(T:TypeId)(lo hi mx:Option Nat):OpR:=match ad,P.underlying T with
 |some ⟨A,off,some n⟩,some (.array len E)=>zLh P A off n len E lo hi mx
 |_,_=>.no "slice pointer"
def zQh (v:Value)(T:TypeId)(lo hi mx:Option Nat):OpR:=match v with
 |.string b=>bif pO P T then zMd (yQ b) lo hi mx else .no "slice type"
 |.slice ad len fl=>zTb P ad len fl T lo hi mx
 |.pointer ad=>zSt P ad T lo hi mx
 |_=>.no "slice operand"
def zDs (T:TypeId)(x:Operand)(lo hi mx:Option Operand):OpR:=match xB f x,eR f lo,eR f hi,eR f mx with
 |some v,some lo,some hi,some mx=>zQh P v T lo hi mx
 |_,_,_,_=>.no "slice operands"
def zJk (A off n fo:Nat)(F:TypeId):OpR:=match yC P F with
 |some (_,s,_)=>bif Nat.beq s 0 then .no "fieldAddr" else .val (zG A (off+fo) n) []
 |none=>.no "fieldAddr"
def zGz (T:TypeId)(x:Operand)(i:Nat):OpR:=match xB f x,rQ P T i with
 |some (.pointer (some ⟨A,off,some n⟩)),some (F,fo)=>zJk P A off n fo F
 |_,_=>.no "fieldAddr"
def zQl (vs:List Value)(F fo:Nat):OpR:=match vM P F with
 |some false=>ofO "field" vs[fo]?
 |some true=>(match yC P F with
  |some (_,s,_)=>bif Nat.ble (fo+s) vs.length then .val (.agg ((vs.drop fo).take s).toArray) [] else .no "field"
  |none=>.no "field")
 |none=>.no "field"
def zEu (T:TypeId)(x:Operand)(i:Nat):OpR:=match xB f x,rQ P T i with
 |some (.agg vs),some (F,fo)=>zQl P vs.toList F fo
 |_,_=>.no "field"
def aD (A off n len i:Nat)(E:TypeId):OpR:=match yC P E with
 |some (_,s,_)=>bif Nat.blt i len then .val (zG A (off+i*s) n) [] else .no "indexAddr range"
 |none=>.no "indexAddr"
def zCh (T:TypeId)(x y:Operand):OpR:=match xB f x,xB f y,P.underlying T with
 |some (.slice (some ⟨A,off,some n⟩) len _),some (.int _ (.ofNat i)),some (.slice E)=>aD P A off n len i E
 |some (.pointer (some ⟨A,off,some n⟩)),some (.int _ (.ofNat i)),some (.array len E)=>aD P A off n len i E
 |_,_,_=>.no "indexAddr"
def zSv (vs:List Value)(i len:Nat)(E:TypeId):OpR:=match vM P E,yC P E with
 |some false,some (_,s,_)=>bif Nat.beq s 1 && Nat.blt i len then ofO "index" vs[i]? else .no "index"
 |_,_=>.no "index"
def zPp (l:List UInt8)(i:Nat)(T:TypeId):OpR:=bif pO P T && Nat.blt i l.length then .val (.int .u8 (bat l i)) [] else .no "index range"
def zAs (T:TypeId)(x y:Operand):OpR:=match xB f x,xB f y with
 |some (.string b),some (.int _ (.ofNat i))=>zPp P (yQ b) i T
 |some (.agg vs),some (.int _ (.ofNat i))=>(match P.underlying T with
  |some (.array len E)=>zSv P vs.toList i len E
  |_=>.no "index")
 |_,_=>.no "index"
def okV (c:Bool)(v:Value)(b:Bool):Value:=bif c then .tuple #[v,.bool b] else v
def aY (A:Nat)(c:Bool)(z:Value):Option (Option (Nat × Value))->OpR
 |some (some (_,v))=>.val (okV c v true) [A]
 |some none=>.val (okV c z false) [A]
 |none=>.no "lookup keys"
def zNe (A:Nat)(g:Blk)(key:KV)(K E:TypeId)(c:Bool):OpR:=match yC P E with
 |some (some z,_,_)=>bif sP P K key && yB z then aY A c z (wZ key g.cells 0)else .no "lookup kind"
 |_=>.no "lookup type"
def zRt (A:Nat)(kv:Value)(K E:TypeId)(c:Bool):OpR:=match h.get A,qO kv with
 |some g,some key=>zNe P A g key K E c
 |_,_=>.no "lookup block"
def zIt (A:Nat)(s:List UInt8)(K E:TypeId)(c:Bool)(g:Blk):OpR:=match yC P E with
 |some (some z,_,_)=>bif pO P K && yB z then aY A c z (wZ (.s s) g.cells 0)else .no "lookup kind"
 |_=>.no "lookup type"
def zVs (A:Nat)(s:List UInt8)(K E:TypeId)(c:Bool):OpR:=match h.get A with
 |some g=>zIt P A s K E c g
 |none=>.no "lookup block"
def zCq (T:TypeId)(x k:Operand)(c:Bool):OpR:=match xB f x,xB f k,P.underlying T with
 |some (.map (some A)),some kv,some (.map K E)=>zRt P h A kv K E c
 |some (.complex .f32 A 0),some (.string b),some (.map K E)=>zVs P h A (yQ b) K E c
 |_,_,_=>.no "lookup operands"
def updO (A:Nat)(cells:List Value)(kv v:Value):Option (Option (Nat × Value))->OpR
 |some (some (i,_))=>.upd undef A ⟨(cells.set (2*i) kv).set (2*i+1) v,false⟩
 |some none=>.upd undef A ⟨cells++[kv,v],false⟩
 |none=>.no "mapUpdate keys"
def zTw (A:Nat)(kv v:Value)(K:TypeId):OpR:=match h.get A,qO kv with
 |some g,some key=>bif g.ro.b then .no "mapUpdate frozen" else bif sP P K key then updO A g.cells kv v (wZ key g.cells 0)else .no "mapUpdate kind"
 |_,_=>.no "mapUpdate block"
def bW (T:TypeId)(x k y:Operand):OpR:=match xB f x,xB f k,xB f y,P.underlying T with
 |some (.map (some A)),some kv,some v,some (.map K _)=>zTw P h A kv v K
 |_,_,_,_=>.no "mapUpdate operands"
def zCd (T:TypeId)(x:Operand):OpR:=match xB f x,P.underlying T with
 |some (.string b),some .string=>.new ⟨[.string b,.int .i64 0],false⟩ (λA=>.complex .f64 A 0)
 |some (.map (some A)),some (.map _ _)=>(match h.get A with
  |some g=>.newR ⟨[.map (some A),.int .i64 (g.cells.length/2:Nat),.agg #[],.int .i64 (g.cells.length/2:Nat)],false⟩ (λB=>.complex .f64 B 0) [A]
  |none=>.no "range map")
 |_,_=>.no "range"
def zZm (A:Nat)(b:ByteArray)(p:Nat)(d:Nat × Nat):OpR:=.upd (.tuple #[.bool true,.int .i64 p,.int .i32 (d.1:Int)]) A ⟨[.string b,.int .i64 ((p+d.2:Nat):Int)],false⟩
def zCp (x:Operand):OpR:=match xB f x with
 |some (.complex .f64 A 0)=>(match h.get A with
  |some ⟨[.string b,.int .i64 (.ofNat p)],false⟩=>bif Nat.blt p (yQ b).length then zZm A b p (Utf8.decode b p)else .val (.tuple #[.bool false]) [A]
  |_=>.no "next block")
 |_=>.no "next"
def iD (s:Nat)(seen:List Value):List Nat:=(List.range s).filter (λ(i:Nat)=>seen.all λv=>match v with|.int _ j=>!eqI j (i:Int)|_=>false)
def gI (B s:Nat)(seen:Array Value)(cells:List Value)(i:Nat):Value × Blk:=(.tuple #[.bool true,cells.getD (2*i) undef,cells.getD (2*i+1) undef],⟨[.map (some B),.int .i64 s,.agg (seen.push (.int .i64 i)),.int .i64 s],false⟩)
def zRb (A B s:Nat)(seen:Array Value)(g:Blk):OpR:=bif Nat.beq g.cells.length (2*s)then
  (match iD s seen.toList with
  |[]=>.val (.tuple #[.bool false]) [A,B]
  |l=>.alts A (l.map (gI B s seen g.cells)))
  else .no "next map turned"
def zBu (x:Operand):OpR:=match xB f x with
 |some (.complex .f64 A 0)=>(match h.get A with
  |some ⟨[.map (some B),.int .i64 (.ofNat s),.agg seen,.int .i64 (.ofNat s')],false⟩=>bif Nat.beq s s' then(match h.get B with
   |some g=>zRb A B s seen g
   |none=>.no "next map")else .no "next stamps"
  |_=>.no "next block")
 |_=>.no "next"
def zMu (A B st:Nat)(seen:List Value)(g:Blk):OpR:=match seen.getLast? with
 |some (.int _ (.ofNat i))=>bif Nat.beq g.cells.length (2*st) && Nat.blt i st then .val (.tuple #[g.cells.getD (2*i) undef,g.cells.getD (2*i+1) undef]) [A,B] else .no "entry"
 |_=>.no "entry"
def zCc (x:Operand):OpR:=match xB f x with
 |some (.complex .f64 A 0)=>(match h.get A with
  |some ⟨[.map (some B),.int .i64 _,.agg seen,.int .i64 (.ofNat st)],false⟩=>(match h.get B with
   |some g=>zMu A B st seen.toList g
   |none=>.no "entry map")
  |_=>.no "entry block")
 |_=>.no "entry"
def zGl (x:Operand)(i:Nat):OpR:=match xB f x with
 |some (.tuple vs)=>ofO "extract" vs[i]?
 |_=>.no "extract"
def zEy (v:Value)(T:TypeId):OpR:=match v with
 |.string s=>bif pO P T then .val (I (yQ s).length) [] else .no "len"
 |.slice _ n _=>bif gQ P T then .val (I n) [] else .no "len"
 |.map (some A)=>(match h.get A with|some g=>bif zBv P T then .val (I (g.cells.length/2:Nat)) [A] else .no "len type" | none=>.no "len map")
 |_=>match P.underlying T with|some (.array n _)=>.val (I n) []|_=>.no "len"
def zAb (mx:Bool)(u v:Value):OpR:=match u,v with
 |.int k m,.int k' n=>bif oI k k' then .val (.int k (bif mx then max m n else min m n)) [] else .no "min"
 |_,_=>.no "min"
def oP (m:Mk)(E:TypeId):Bool:=match m.ty with
 |some t=>Nat.beq t E
 |none=>false
def zJs (E b:Nat)(x:Value)(l:List UInt8):OpR:=match x with
 |.slice none 0 0=>bif Nat.ble (l.length*b) lim then .new ⟨zS l,⟨false,some E⟩⟩ (λA=>gsl A 0 l.length l.length 1)else .no "append great"
 |.slice (some ⟨A,0,some n⟩) len fl=>(match qV h A n with
  |some g=>bif (!g.ro.b) && Nat.beq len n && Nat.beq fl 1 && Nat.ble (len+l.length) lim && Nat.ble ((len+l.length)*b) lim then .upd (gsl A 0 (n+l.length) (len+l.length) 1) A ⟨g.cells++zS l,bif oP g.ro E then g.ro else⟨false,none⟩⟩else .no "append string"
  |none=>.no "append block")
 |_=>.no "append slice"
def dT (x:Value):Bool:=match x with
 |.slice _ _ _=>true
 |_=>false
def zRn (E b:Nat)(x:Value)(l:List UInt8):OpR:=bif Nat.beq l.length 0 then(bif dT x then .val x [] else .no "append slice")else bif Nat.ble l.length lim then zJs h E b x l else .no "append great"
def zQc (news:List Value)(m s b A2:Nat):OpR:=bif Nat.ble (m*b) lim && Nat.ble m lim then .newR ⟨news,false⟩ (λA=>gsl A 0 (m*s) m s) [A2] else .no "append great"
def zIa (news:List Value)(m s b A n len fl:Nat):OpR:=match qV h A n with
 |some g=>bif (!g.ro.b) && Nat.beq (len*s) n && Nat.beq fl s && news.all one && Nat.ble ((len+m)*b) lim && Nat.ble (len+m) lim then .upd (gsl A 0 (n+m*s) (len+m) s) A ⟨g.cells++news,false⟩else .no "append slice"
 |none=>.no "append block"
def zJw (news:List Value)(m s b A A2 len:Nat):Option (List Value)->OpR
 |some olds=>bif Nat.ble ((len+m)*b) lim && Nat.ble (len+m) lim then .newR ⟨olds++news,false⟩ (λA'=>gsl A' 0 ((len+m)*s) (len+m) s) [A,A2] else .no "append full"
 |none=>.no "append full"
def zNn (news:List Value)(m s b A off n len A2:Nat):OpR:=match qV h A n with
 |some g=>zJw news m s b A A2 len (uD g off (len*s))
 |none=>.no "append block"
def zTn (x:Value)(m s b A2:Nat):Option (List Value)->OpR
 |none=>.no "append cells"
 |some news=>match x with
  |.slice none 0 0=>zQc news m s b A2
  |.slice (some ⟨A,0,some n⟩) len fl=>zIa h news m s b A n len fl
  |.slice (some ⟨A,off,none⟩) len (n+1)=>zNn h news m s b A off n len A2
  |_=>.no "append to"
def zJv (x y:Value)(z:Value)(s b:Nat):OpR:=match y with
 |.slice none 0 0=>bif dT x then .val x [] else .no "append to"
 |.slice (some _) 0 _=>bif dT x then .val x [] else .no "append to"
 |.slice (some ⟨A2,off2,some n2⟩) m _=>(match qV h A2 n2 with
  |some g2=>bif Nat.beq z.cells.size s && Nat.blt 0 s && Nat.blt 0 m then zTn h x m s b A2 (uD g2 off2 (m*s))else .no "append from"
  |none=>.no "append block")
 |_=>.no "append what"
def zAo (x y:Value)(T U:TypeId):OpR:=match tM P T with
 |none=>.no "append"
 |some E=>match y with
  |.string s=>(match yC P E with
   |some (some z,1,b)=>bif pO P U && Nat.beq z.cells.size 1 then zRn h E b x (yQ s)else .no "append string"
   |_=>.no "append string")
  |y=>match yC P E with
   |some (some z,s,b)=>bif Nat.beq T U then zJv h x y z s b else .no "append types"
   |_=>.no "append type"
def zMl (A off n:Nat)(g:Blk)(k:Nat):Option (List Value)->OpR
 |some vs=>bif Nat.ble (off+k) n && vs.all one && !g.ro.b then .upd (I k) A ⟨wO g.cells off vs,g.ro⟩else .no "copy room"
 |none=>.no "copy cells"
def zUj (A off n len A2 off2 n2 m:Nat):OpR:=match qV h A n,qV h A2 n2 with
 |some g,some g2=>zMl A off n g (bif Nat.ble m len then m else len) (uD g2 off2 (bif Nat.ble m len then m else len))
 |_,_=>.no "copy blocks"
def zAu (x y:Value)(T:TypeId):OpR:=match x,y with
 |.slice _ _ _,.slice none 0 0=>(match tM P T with
  |some E=>bif (match yC P E with|some _=>true|none=>false)then .val (I 0) [] else .no "copy type"
  |none=>.no "copy type")
 |.slice (some ⟨A,off,some n⟩) len _,.slice (some ⟨A2,off2,some n2⟩) m _=>(match tM P T with
  |some E=>(match yC P E with
   |some (_,s,_)=>bif Nat.beq s 1 then zUj h A off n len A2 off2 n2 m else .no "copy elements"
   |none=>.no "copy type")
  |none=>.no "copy type")
 |_,_=>.no "copy"
def zMj (A off n len:Nat)(z:Value):OpR:=match qV h A n with
 |some g=>bif yB z && one z && (!g.ro.b) && Nat.ble (off+len) n && Nat.blt 0 len then .upd (.tuple #[]) A ⟨wO g.cells off (List.replicate len z),g.ro⟩else .no "clear"
 |none=>.no "clear"
def zQw (x:Value)(T:TypeId):OpR:=match x,tM P T with
 |.slice (some ⟨A,off,some n⟩) len _,some E=>(match yC P E with
  |some (some z,1,_)=>zMj h A off n len z
  |_=>.no "clear")
 |_,_=>.no "clear"
def zPc (A:Nat)(g:Blk):Option (List UInt8)->OpR
 |some bs=>.upd (S bs) A ⟨g.cells,⟨true,g.ro.ty⟩⟩
 |none=>.no "unsafeString no bytes"
def zMt (A m E:Nat)(g:Blk):Option (List Value)->OpR
 |some l=>bif (!g.ro.b) && oP g.ro E && Nat.beq (P.cellsOf E) 1 && Nat.ble m lim then zPc A g (eS l)else .no "unsafeString type"
 |none=>.no "unsafeString cells"
def zRp (A n m E:Nat):OpR:=match qV h A n with
 |some g=>zMt P A m E g (uD g 0 m)
 |none=>.no "unsafeString block"
def zEs (x y:Value)(T:TypeId):OpR:=match x,y,P.underlying T with
 |.pointer _,.int .i64 0,some (.pointer _)=>.val (S []) []
 |.pointer (some ⟨A,0,some n⟩),.int .i64 (.ofNat m),some (.pointer E)=>zRp P h A n m E
 |_,_,_=>.no "unsafeString"
def zNq (x:Value):OpR:=match x with
 |.slice none 0 0=>.val (.pointer none) []
 |.slice (some ⟨A,off,some n⟩) (_+1) _=>.val (zG A off n) []
 |_=>.no "unsafeSliceData"
def zGe (b:Builtin)(x y:Value)(T U:TypeId):OpR:=match b with
 |.append=>zAo P h x y T U
 |.min=>zAb false x y
 |.max=>zAb true x y
 |.copy=>zAu P h x y T
 |.unsafeString=>zEs P h x y T
 |_=>.no "builtin"
def zLm (x:Value)(T:TypeId):OpR:=match x with
 |.slice none 0 0=>bif gQ P T then .val (I 0) [] else .no "cap"
 |_=>.no "cap"
def zBj (b:Builtin)(x:Value)(T:TypeId):OpR:=match b with
 |.len=>zEy P h x T
 |.cap=>zLm P x T
 |.clear=>zQw P h x T
 |.unsafeSliceData=>zNq x
 |_=>.no "builtin"
def zEi (b:Builtin)(args:List Operand)(ts:List TypeId):OpR:=match uI f args,ts with
 |some [x],[T]=>zBj P h b x T
 |some [x,y],[T,U]=>zGe P h b x y T U
 |_,_=>.no "builtin arguments"
def zDt (x:Operand)(args:List Operand):OpR:=match xB f x,uI f args with
 |some (.func (.func g) us vs),some as0=>.call g (us.toList++as0++vs.toList)
 |some (.chan (some A)),some as0=>.yld A as0
 |_,_=>.no "call"
def zFo (c:Call):OpR:=match c.callee with
 |.builtin b=>zEi P f h b c.args.toList c.argTypes.toList
 |.value x=>zDt f x c.args.toList
 |_=>.no "invoke"
def zPq :Option Operand->OpR
 |none=>.new ⟨[],false⟩ (λA=>.map (some A))
 |some _=>.no "makeMap"
def tG (o:Op):OpR:=match o with
 |.move x=>bZ f x
 |.assign x=>bZ f x
 |.pick c x y=>zAp f c x y
 |.alloc T=>zEb P T
 |.box T x=>zDk f T x
 |.build T ps=>zHl P f T ps.toList
 |.buildSlice T n ps=>zFl P f T n ps.toList
 |.load T x=>dJ P f h T x
 |.store T x y=>zGg P f h T x y
 |.nilCheck x=>zDo f x
 |.binOp op T x y _=>zBw P f h op T x y
 |.unOp op _ x=>zBt f op x
 |.convert T U x=>zAn P f h T U x
 |.makeFunc fn xs ys=>zFj f fn xs.toList ys.toList
 |.makeMap _ r=>zPq r
 |.makeSlice T x y=>zDh P f T x y
 |.slice T x lo hi mx=>zDs P f T x lo hi mx
 |.fieldAddr T x i=>zGz P f T x i
 |.field T x i=>zEu P f T x i
 |.indexAddr T x y=>zCh P f T x y
 |.index T x y=>zAs P f T x y
 |.lookup T x k c=>zCq P f h T x k c
 |.mapUpdate T x k y=>bW P f h T x k y
 |.insert T x k y=>bW P f h T x k y
 |.range T x=>zCd P f h T x
 |.next x b=>bif b then zCp f h x else zBu f h x
 |.entry x=>zCc f h x
 |.extract x i=>zGl f x i
 |.call c=>zFo P f h c
 |_=>.no "no such operation"
end
end
end Go.Gh
end
section
set_option maxRecDepth 4000
namespace Go.Gh
open Go.RowKit
noncomputable section

def fE :Value->Bool
 |.tuple ⟨[]⟩=>true
 |_=>false
def wanted (ops:List Oper)(f:Fm)(o:Oper):Option Bool:=match o.guard with
 |none=>some true
 |some (j,w)=>match ops[j]? with
  |none=>none
  |some p=>match p.dst with
   |none=>none
   |some d=>match f.get d with
    |some (.bool b)=>some (b == w)
    |some v=>bif fE v then some false else none
    |none=>none
def wG (f:Fm)(dst:Option Tmp)(v:Value):Fm:=match dst with
 |some d=>f.set d v
 |none=>f
def uM (sz:Nat)(o:Oper):Bool:=match o.dst with
 |some d=>Nat.blt d sz
 |none=>true

abbrev tA :=FuncId->List Value->Hp->Ou (Value × Hp)
abbrev sL :=Nat->List Value->Hp->Ou (Value × Hp)
abbrev uC :=Hp->OpR->OpR
abbrev wR :=Ou (Exit × Fm × Hp)

abbrev KO :=Fm->Hp->wR
def kL (k:Value × Blk->wR):List (Value × Blk)->wR
 |[]=>.err "alternatives"
 |[x]=>k x
 |x::l=>.two (k x) (kL k l)
def zGq (call:tA)(yld:sL)(dst:Option Tmp)(f:Fm)(h:Hp)(k:KO):OpR->wR
 |.no s=>.err s
 |.val v _=>k (wG f dst v) h
 |.all v=>k (wG f dst v) h
 |.new b v=>k (wG f dst (v h.n)) (h.push b)
 |.newR b v _=>k (wG f dst (v h.n)) (h.push b)
 |.upd v A b=>k (wG f dst v) (h.set A b)
 |.call g as0=>(call g as0 h).bind λx=>k (wG f dst x.1) x.2
 |.yld A as0=>(yld A as0 h).bind λx=>k (wG f dst x.1) x.2
 |.alts A l=>kL (λx=>k (wG f dst x.1) (h.set A x.2)) l
def zIi (P:Program)(rsv:uC)(call:tA)(yld:sL)(o:Oper)(f:Fm)(h:Hp)(k:KO):Option Bool->wR
 |none=>.err "guard"
 |some false=>k (wG f o.dst undef) h
 |some true=>zGq call yld o.dst f h k (rsv h (tG P f h o.op))
def zXb (P:Program)(rsv:uC)(call:tA)(yld:sL)(sz:Nat)(ops:List Oper)(o:Oper)(k:KO):KO:=λf h =>
 bif uM sz o then zIi P rsv call yld o f h k (wanted ops f o)else .err "slot"
def mD (P:Program)(rsv:uC)(call:tA)(yld:sL)(sz:Nat)(ops:List Oper)(l:List Oper):KO :=
 l.foldr (zXb P rsv call yld sz ops) λf h=>.one (.normal,f,h)

def vB :Nat->Value->Value->Bool
 |_,.bool a,.bool b=>a == b
 |_,.int k m,.int k' n=>oI k k' && eqI m n
 |_,.string a,.string b=>sN (yQ a) (yQ b)
 |_,.pointer none,.pointer none=>true
 |_,.pointer (some ⟨A,o,some n⟩),.pointer (some ⟨A',o',some n'⟩)=>Nat.beq A A' && Nat.beq o o' && Nat.beq n n'
 |_,.slice none 0 0,.slice none 0 0=>true
 |_,.slice (some ⟨A,o,some n⟩) l f,.slice (some ⟨A',o',some n'⟩) l' f'=>Nat.beq A A' && Nat.beq o o' && Nat.beq n n' && Nat.beq l l' && Nat.beq f f'
 |_,.slice (some ⟨A,o,none⟩) l f,.slice (some ⟨A',o',none⟩) l' f'=>Nat.beq A A' && Nat.beq o o' && Nat.beq l l' && Nat.beq f f'
 |_,.map none,.map none=>true
 |_,.map (some A),.map (some A')=>Nat.beq A A'
 |_,.chan (some A),.chan (some A')=>Nat.beq A A'
 |_,.complex .f64 A 0,.complex .f64 A' 0=>Nat.beq A A'
 |_,.complex .f32 A 0,.complex .f32 A' 0=>Nat.beq A A'
 |_,.nilFunc,.nilFunc=>true
 |_,.nilIface,.nilIface=>true
 |n+1,.func (.func f) a b,.func (.func g) c d=>Nat.beq f g && beqVs (vB n) a.toList c.toList && beqVs (vB n) b.toList d.toList
 |n+1,.agg a,.agg b=>beqVs (vB n) a.toList b.toList
 |n+1,.tuple a,.tuple b=>beqVs (vB n) a.toList b.toList
 |_,_,_=>false
 where
 beqVs (p:Value->Value->Bool):List Value->List Value->Bool
  |[],[]=>true
  |a::r,b::s=>p a b && beqVs p r s
  |_,_=>false
def zEc :Option Nat->Option Nat->Bool
 |none,none=>true
 |some a,some b=>Nat.beq a b
 |_,_=>false
def zAz (a b:Blk):Bool:=(a.ro.b == b.ro.b) && zEc a.ro.ty b.ro.ty && vB.beqVs (vB 4) a.cells b.cells
def pC (fp:List Nat)(k h:Hp):Bool:=fp.all λA=>match k.get A,h.get A with
 |some a,some b=>Nat.blt A k.n && Nat.blt A h.n && zAz a b
 |_,_=>false
def zMp (p:Nat)(fp:List Nat)(k h:Hp):Bool:=fp.all λA=>Nat.beq A p || pC [A] k h
structure Pst where
 eff:Bool
 call:Bool
 j:Nat
 h:Hp
 h1:Hp
def pE (ops:Array Oper)(i:Nat)(fp:List Nat)(h:Hp):List Pst->List Nat->Bool
 |[],_=>true
 |x::r,E=>bif x.eff then wt ops i x.j || (pC fp x.h h && pE ops i fp h r E)
  else(wt ops i x.j || pC fp x.h h || E.any (λp=>zMp p fp x.h h)) && pE ops i fp h r (bif wt ops i x.j && pC [x.h.n] x.h1 h then x.h.n::E else E)
def fU (ops:Array Oper)(i:Nat):List Pst->Bool
 |[]=>true
 |x::r=>wt ops i x.j && (x.eff || fU ops i r)
structure Clm where
 j:Nat
 fp:List Nat
 h:Hp
def clmE (ops:Array Oper)(i:Nat)(h':Hp)(cl:List Clm):Bool:=cl.all λx=>wt ops i x.j || pC x.fp h' x.h
def bM (ops:Array Oper)(i:Nat)(h:Hp)(past:List Pst)(cl:List Clm)(h':Hp):Bool:=fU ops i past && clmE ops i h' cl && Nat.ble h.n h'.n
abbrev KD :=Nat->Fm->Hp->List Pst->List Clm->wR
def rY (ops:Array Oper)(dst:Option Tmp)(k:KD)(c:Bool)(i:Nat)(f:Fm)(h:Hp)(past:List Pst)(cl:List Clm)(v:Value)(h':Hp):wR :=
 bif bM ops i h past cl h' then k (i+1) (wG f dst v) h' (⟨true,c,i,h,h'⟩::past) cl else .err "drawn effects"
def dY (k:Value × Hp->wR):Ou (Value × Hp)->wR
 |.one x=>k x
 |.err s=>.err s
 |.two _ _=>.err "drawn alternatives"
def valD (ops:Array Oper)(dst:Option Tmp)(k:KD)(i:Nat)(f:Fm)(h:Hp)(past:List Pst)(cl:List Clm)(v:Value):List Nat->wR
 |[]=>k (i+1) (wG f dst v) h past cl
 |fp=>bif pE ops i fp h past [] then k (i+1) (wG f dst v) h past (⟨i,fp,h⟩::cl)else .err "drawn a read"
def dD (ops:Array Oper)(i:Nat)(past:List Pst):Bool:=past.all λx=>!x.call || wt ops i x.j
def goD (call:tA)(yld:sL)(ops:Array Oper)(dst:Option Tmp)(k:KD)(i:Nat)(f:Fm)(h:Hp)(past:List Pst)(cl:List Clm):OpR->wR
 |.no s=>.err s
 |.val v fp=>valD ops dst k i f h past cl v fp
 |.all v=>rY ops dst k false i f h past cl v h
 |.new b v=>bif dD ops i past then k (i+1) (wG f dst (v h.n)) (h.push b) (⟨false,false,i,h,h.push b⟩::past) cl else .err "drawn a new block"
 |.newR b v _=>rY ops dst k false i f h past cl (v h.n) (h.push b)
 |.upd v A b=>rY ops dst k false i f h past cl v (h.set A b)
 |.call g as0=>dY (λx=>rY ops dst k true i f h past cl x.1 x.2) (call g as0 h)
 |.yld A as0=>dY (λx=>rY ops dst k true i f h past cl x.1 x.2) (yld A as0 h)
 |.alts _ _=>.err "drawn alternatives"
def stD (P:Program)(rsv:uC)(call:tA)(yld:sL)(ops:Array Oper)(o:Oper)(k:KD)(i:Nat)(f:Fm)(h:Hp)(past:List Pst)(cl:List Clm):Option Bool->wR
 |none=>.err "guard"
 |some false=>k (i+1) (wG f o.dst undef) h past cl
 |some true=>goD call yld ops o.dst k i f h past cl (rsv h (tG P f h o.op))
def yLb (P:Program)(rsv:uC)(call:tA)(yld:sL)(sz:Nat)(ops:Array Oper)(o:Oper)(k:KD):KD:=λi f h past cl =>
 bif uM sz o then stD P rsv call yld ops o k i f h past cl (wanted ops.toList f o)else .err "slot"
def evD (P:Program)(rsv:uC)(call:tA)(yld:sL)(sz:Nat)(ops:Array Oper)(l:List Oper):KD :=
 l.foldr (yLb P rsv call yld sz ops) λ_ f h _ _=>.one (.normal,f,h)

abbrev EvF :=Nat->Nat->Bool->Code->Fm->Hp->wR
def vQ :Code->List (Array Tmp × Code × Code)
 |.seq a b=>vQ a++vQ b
 |.cond _ a b=>vQ a++vQ b
 |.block _ c=>vQ c
 |.loop c=>vQ c
 |.scope c=>vQ c
 |.rangeFunc _ ps a c=>[(ps,a,c)]
 |_=>[]
def sK (P:Program)(d:Nat):Array Tmp × Code × Code × Nat:=match P.funcs[d]? with
 |some fn=>match fn.body with
  |some c=>match vQ c with
   |(ps,a,b)::_=>(ps,a,b,fn.ntmps)
   |[]=>(#[],.skip,.skip,0)
  |none=>(#[],.skip,.skip,0)
 |none=>(#[],.skip,.skip,0)
def nO :Nat->List Value->Fm->Fm
 |_,[],f=>f
 |k,v::r,f=>nO (k+1) r (f.set k v)
def rZ (f:Fm):Nat->List (Nat × Value)
 |0=>[]
 |k+1=>match f.get k with
  |some v=>(k,v)::rZ f k
  |none=>rZ f k
def sF :List (Nat × Value)->Fm->Fm
 |[],f=>f
 |x::r,f=>sF r (f.set x.1 x.2)
def lC :List Value->Option (List (Nat × Value))
 |[]=>some []
 |.int .i64 (.ofNat t)::v::r=>match lC r with
  |some l=>some ((t,v)::l)
  |none=>none
 |_=>none
def cA (v:Option Value)(r:Option (List Value)):Option (List Value):=match v,r with
 |some v,some vs=>some (v::vs)
 |_,_=>none
def zZw :OpR->Option Value
 |.val v _=>some v
 |_=>none
def zGr (P:Program)(f:Fm)(h:Hp)(b:Nat)(T:TypeId):Option Value:=zZw (dJ P f h T (.tmp b))
def oL (P:Program)(f:Fm)(h:Hp):List ResultVar->Option (List Value)
 |[]=>some []
 |.tmp t::r=>cA (f.get t) (oL P f h r)
 |.cell b T::r=>cA (zGr P f h b T) (oL P f h r)
abbrev OrcF :=FuncId->Option (List Value->OpR)
structure Cfg where
 orc:OrcF
 orb:FuncId->Option (List Value->Hp->Ou (Value × Hp))
 gc:FuncId->Bool
 pur:FuncId->Bool
structure kJ where
 off:Nat
 n:Nat
 len:Nat
 fl:Nat
 cells:List Value
inductive iC |no|cst (v:Value)|blk (x:kJ)
def zBm (off n len fl:Nat)(g:Blk):iC:=bif g.cells.all yB && !g.ro.b && Nat.beq n g.cells.length then .blk ⟨off,n,len,fl,g.cells⟩else .no
def gL (k:Nat)(x:Value × Hp):iC:=match x.1 with
 |.slice (some ⟨A,off,some n⟩) len fl=>(match x.2.get A with
  |some g=>bif Nat.ble k A then zBm off n len fl g else .no
  |none=>.no)
 |v=>bif yB v then .cst v else .no
def lW (x y:kJ):Bool:=Nat.beq x.off y.off && Nat.beq x.n y.n && Nat.beq x.len y.len && Nat.beq x.fl y.fl && vB.beqVs (vB 1) x.cells y.cells
def zEh (a b:iC):iC:=match a,b with
 |.blk x,.blk y=>bif lW x y then .blk x else .no
 |_,_=>.no
def pA (k:Nat):Ou (Value × Hp)->iC
 |.err _=>.no
 |.one x=>gL k x
 |.two a b=>zEh (pA k a) (pA k b)
def zSg :iC->OpR
 |.blk x=>.newR ⟨x.cells,false⟩ (λA=>.slice (some ⟨A,x.off,some x.n⟩) x.len x.fl) []
 |.cst v=>.all v
 |.no=>.no "collapse"
def zHh :Ou (Value × Hp)->OpR
 |.one x=>bif yB x.1 then .all x.1 else .no "pure a value with blocks"
 |_=>.no "pure"
def lD (h:Hp):Option (List Value)->Ou (Value × Hp)
 |some vs=>.one (tF vs,h)
 |none=>.err "results"
def fM (P:Program)(rs:List ResultVar)(x:Exit × Fm × Hp):Ou (Value × Hp):=match x.1 with
 |.normal=>lD x.2.2 (oL P x.2.1 x.2.2 rs)
 |.ret=>lD x.2.2 (oL P x.2.1 x.2.2 rs)
 |_=>.err "a jump out of a function"
def zKe (P:Program)(ev:EvF)(g:FuncId)(as0:List Value)(h:Hp)(fn:Func):Option Code->Ou (Value × Hp)
 |none=>.err "no body"
 |some c=>bif Nat.ble as0.length fn.ntmps && xL P g && Nat.ble (vQ c).length 1 then(ev g fn.ntmps false c (nO 0 as0 .e) h).bind (fM P fn.results.toList)else .err "entry"
def iO (P:Program)(ev:EvF)(g:FuncId)(as0:List Value)(h:Hp):Ou (Value × Hp):=match P.funcs[g]? with
 |none=>.err "no such function"
 |some fn=>zKe P ev g as0 h fn fn.body
def runK (P:Program)(ev:EvF)(g:FuncId)(as0:List Value)(h:Hp):Option (List Value->Hp->Ou (Value × Hp))->Ou (Value × Hp)
 |some x=>x as0 h
 |none=>iO P ev g as0 h
def xH (P:Program)(ext:Cfg)(ev:EvF)(g:FuncId)(as0:List Value)(h:Hp):Ou (Value × Hp):=runK P ev g as0 h (ext.orb g)
def pG (h:Hp)(A:Nat):Bool:=(h.get A).isSome
def wU (h:Hp):Nat->Value->Bool
 |_,.bool _|_,.int _ _|_,.string _|_,.pointer none|_,.slice none 0 0|_,.map none|_,.nilFunc|_,.nilIface=>true
 |_,.pointer (some ⟨A,_,some _⟩)=>pG h A
 |_,.slice (some ⟨A,_,some _⟩) _ _=>pG h A
 |_,.slice (some ⟨0,0,none⟩) 0 0=>true
 |_,.slice (some ⟨A,_,none⟩) _ (_+1)=>pG h A
 |_,.map (some A)=>pG h A
 |_,.chan (some A)=>pG h A
 |_,.complex .f64 A 0=>pG h A
 |_,.complex .f32 A 0=>pG h A
 |n+1,.iface _ v=>wU h n v
 |n+1,.func _ a b=>a.toList.all (wU h n) && b.toList.all (wU h n)
 |n+1,.agg a=>a.toList.all (wU h n)
 |n+1,.tuple a=>a.toList.all (wU h n)
 |_,_=>false
def yDn (h:Hp):Option Blk->Bool
 |some b=>b.cells.all (wU h 4)
 |none=>true
def eY (h:Hp):Bool:=(List.range h.n).all λA=>yDn h (h.get A)
inductive Way |full|gc|pur
def yDv (ext:Cfg)(g:FuncId):Way:=bif ext.pur g then .pur else bif ext.gc g then .gc else .full
def runW (P:Program)(ext:Cfg)(ev:EvF)(g:FuncId)(as0:List Value)(h:Hp):Way->OpR
 |.full=>.call g as0
 |.gc=>bif eY h && as0.all (wU h 4)then zSg (pA h.n (xH P ext ev g as0 h.shut))else .no "a heap that is not closed"
 |.pur=>bif as0.all yB then zHh (xH P ext ev g as0 .none)else .no "pure arguments"
def runO (P:Program)(ext:Cfg)(ev:EvF)(g:FuncId)(as0:List Value)(h:Hp):Option (List Value->OpR)->OpR
 |some x=>x as0
 |none=>runW P ext ev g as0 h (yDv ext g)
def qG (P:Program)(ext:Cfg)(ev:EvF):uC:=λh r=>match r with
 |.call g as0=>runO P ext ev g as0 h (ext.orc g)
 |r=>r
def lH :Option Blk->Option (Int × Nat × Value × List Value)
 |some ⟨.int .i64 st::.int .i64 (.ofNat d)::pj::rest,false⟩=>some (st,d,pj,rest)
 |_=>none
def mW (st:Int)(pj:Value)(want:Int):Bool:=match pj with
 |.int .i64 p=>eqI st want && eqI p 0
 |_=>false
def gN (st:Int)(d:Nat)(pj:Value)(rest:List Value):Blk:=⟨.int .i64 st::.int .i64 d::pj::rest,false⟩
def nH (l:List Value):Bool:=match lC l with
 |some _=>true
 |none=>false
def yAe (A d:Nat)(e:Exit)(h:Hp)(rest:List Value):Ou (Value × Hp):=match e with
 |.normal=>.one (.bool true,h.set A (gN 0 d (.int .i64 0) rest))
 |.ret=>.one (.bool false,h.set A (gN 2 d (.int .i64 1) rest))
 |.exit id=>.one (.bool false,h.set A (gN 2 d (.int .i64 (2+id)) rest))
 |_=>.err "yield a jump"
def zEm (A d:Nat)(x:Exit × Fm × Hp):Ou (Value × Hp):=match lH (x.2.2.get A)with
 |some (st,d',pj,rest)=>bif Nat.beq d d' && mW st pj 1 && nH rest then yAe A d x.1 x.2.2 rest else .err "yield the block behind the body"
 |none=>.err "yield no block behind the body"
def zGc (ev:EvF)(A d sz:Nat)(c:Code)(f:Fm)(h:Hp):Ou (Value × Hp):=match lH (h.get A)with
 |some (st,d',pj,rest)=>bif Nat.beq d d' && mW st pj 0 && nH rest then(ev d sz true c f (h.set A (gN 1 d (.int .i64 0) rest))).bind (zEm A d)else .err "yield the block behind the assignment"
 |none=>.err "yield no block behind the assignment"
def gR (ev:EvF)(A d sz:Nat)(c:Code)(x:Exit × Fm × Hp):Ou (Value × Hp):=match x.1 with
 |.normal=>zGc ev A d sz c x.2.1 x.2.2
 |_=>.err "yield a jump in the assignment"
def goY (ev:EvF)(A d:Nat)(as0:List Value)(b:List (Nat × Value))(h:Hp)(lt:Array Tmp × Code × Code × Nat):Ou (Value × Hp) :=
 bif Nat.beq as0.length lt.1.toList.length && lt.1.toList.all (λt=>Nat.blt t lt.2.2.2) && Nat.blt A h.n then
  (ev d lt.2.2.2 true lt.2.1 (sF (lt.1.toList.zip as0) (sF b.reverse .e)) h).bind (gR ev A d lt.2.2.2 lt.2.2.1)else .err "yield arguments"
def zCt (P:Program)(ev:EvF)(A d:Nat)(as0:List Value)(h:Hp):Option (List (Nat × Value))->Ou (Value × Hp)
 |none=>.err "yield slots"
 |some b=>goY ev A d as0 b h (sK P d)
def vI (P:Program)(ev:EvF):sL:=λA as0 h=>match lH (h.get A)with
 |some (st,d,pj,rest)=>bif mW st pj 0 then zCt P ev A d as0 h (lC rest)else .err "yield not ready"
 |none=>.err "yield no loop"

def iY (k:Fm->Hp->wR)(z:Exit × Fm × Hp):wR:=match z.1 with
 |.normal=>k z.2.1 z.2.2
 |e=>.one (e,z.2)
def zFk (id:Nat)(z:Exit × Fm × Hp):wR:=match z.1 with
 |.exit id'=>.one (bif Nat.beq id' id then .normal else .exit id',z.2)
 |e=>.one (e,z.2)
def zGx (z:Exit × Fm × Hp):wR:=match z.1 with
 |.goto _=>.err "goto"
 |e=>.one (e,z.2)
def bQ (x y:wR):Option Value->wR
 |some (.bool b)=>bif b then x else y
 |_=>.err "cond"
def fN (P:Program)(ext:Cfg)(ev:EvF)(sz:Nat)(ops:Array Oper)(f:Fm)(h:Hp)(draw:Bool):wR :=
 bif draw then(bif tH ops && P.follows .mixedOrders then evD P (qG P ext ev) (xH P ext ev) (vI P ev) sz ops ops.toList 0 f h [] [] else .err "drawn edges")
 else mD P (qG P ext ev) (xH P ext ev) (vI P ev) sz ops.toList ops.toList f h
def zQd (f:Fm)(h:Hp)(A d:Nat)(pj:Value)(rest:List Value):Option Exit->wR
 |some e=>.one (e,f,h.set A (gN 3 d pj rest))
 |none=>.err "range the jump"
def eG (fid A:Nat)(f:Fm)(x:Value × Hp):wR:=match lH (x.2.get A)with
 |some (st,d,pj,rest)=>bif Nat.beq d fid && (eqI st 0 || eqI st 2) && nH rest then zQd f x.2 A d pj rest (gC pj)else .err "range the state"
 |none=>.err "range the block"
def iK (P:Program)(ext:Cfg)(ev:EvF)(fid sz:Nat)(f:Fm)(h:Hp):Option Value->wR
 |some (.func (.func g) us vs)=>bif xL P g then(xH P ext ev g (us.toList++[.chan (some h.n)]++vs.toList) (h.push ⟨yX 0 fid (.int .i64 0) (rZ f sz),false⟩)).bind (eG fid h.n f)else .err "range no function"
 |_=>.err "range what"
def nZ (P:Program)(ext:Cfg)(ev:EvF):EvF:=λfid sz ro c f h=>match c with
 |.skip=>.one (.normal,f,h)
 |.label _=>.one (.normal,f,h)
 |.ret=>.one (.ret,f,h)
 |.exit id=>.one (.exit id,f,h)
 |.seq x y=>(ev fid sz ro x f h).bind (iY (ev fid sz ro y))
 |.cond c x y=>bQ (ev fid sz ro x f h) (ev fid sz ro y f h) (xB f c)
 |.block id c=>(ev fid sz ro c f h).bind (zFk id)
 |.loop c=>(ev fid sz ro c f h).bind (iY (ev fid sz ro (.loop c)))
 |.scope c=>(ev fid sz ro c f h).bind zGx
 |.region _ ops d=>fN P ext ev sz ops f h d
 |.rangeFunc g _ _ _=>bif ro then .err "a loop over a function in a round" else iK P ext ev fid sz f h (xB f g)
 |_=>.err "no such code"
def iter {α:Type}(g:α->α)(x:α):Nat->α
 |0=>x
 |n+1=>g (iter g x n)
def evN (P:Program)(ext:Cfg)(n:Nat):EvF:=iter (nZ P ext) (λ_ _ _ _ _ _=>.err "fuel") n
end
end Go.Gh
end
section
set_option maxRecDepth 4000
namespace Go.Gh
open Go.RowKit
noncomputable section

namespace Tri
variable {α:Type}
theorem tR (k:Nat):get (.e:Tri α) k=none:=rfl
theorem eT (v:Option α)(l r:Tri α):get (.n v l r) 0=v:=rfl
theorem mK (v:Option α)(l r:Tri α)(k:Nat):get (.n v l r) (k+1)=if k%2=0 then get l (k/2)else get r (k/2):=by
 show(Nat.beq (Nat.mod k 2) 0).rec (motive:=λ_=>Option α) (get r (Nat.div k 2)) (get l (Nat.div k 2))=_;have e:Nat.mod k 2=k%2:=rfl;have d:Nat.div k 2=k/2:=rfl;rw[e,d];by_cases h:k%2=0
 ·rw[if_pos h,h];rfl
 ·rw[if_neg h]
  have:Nat.beq (k%2) 0=false:=by
   cases hb:Nat.beq (k%2) 0 with
   |false=>rfl
   |true=>exact absurd (Nat.eq_of_beq_eq_true hb) h
  rw[this]
theorem nE (v:Option α)(l r:Tri α):mk v l r=.n v l r:=by cases l <;> cases r <;> rfl
theorem zXk (f:Nat)(t:Tri α)(x:α):put (f+1) t 0 x=match t with|.e=>.n (some x) .e .e|.n _ l r=>.n (some x) l r:=by cases t <;> rfl
theorem yNt (f:Nat)(t:Tri α)(k:Nat)(x:α):put (f+1) t (k+1) x=match t with
  |.e=>if k%2=0 then .n none (put f .e (k/2) x) .e else .n none .e (put f .e (k/2) x)
  |.n v l r=>if k%2=0 then .n v (put f l (k/2) x) r else .n v l (put f r (k/2) x):=by
 have e:Nat.mod k 2=k%2:=rfl;have d:Nat.div k 2=k/2:=rfl;cases t with
 |e =>
  show(Nat.beq (Nat.mod k 2) 0).rec (motive:=λ_=>Tri α) (mk none .e (put f .e (Nat.div k 2) x)) (mk none (put f .e (Nat.div k 2) x) .e)=_;rw[e,d];by_cases h:k%2=0
  ·simp only[if_pos h];rw[h,nE,nE];rfl
  ·simp only[if_neg h]
   have:Nat.beq (k%2) 0=false:=by
    cases hb:Nat.beq (k%2) 0 with
    |false=>rfl
    |true=>exact absurd (Nat.eq_of_beq_eq_true hb) h
   rw[this,nE,nE]
 |n v l r =>
  show(Nat.beq (Nat.mod k 2) 0).rec (motive:=λ_=>Tri α) (mk v l (put f r (Nat.div k 2) x)) (mk v (put f l (Nat.div k 2) x) r)=_;rw[e,d];by_cases h:k%2=0
  ·simp only[if_pos h];rw[h,nE,nE];rfl
  ·simp only[if_neg h]
   have:Nat.beq (k%2) 0=false:=by
    cases hb:Nat.beq (k%2) 0 with
    |false=>rfl
    |true=>exact absurd (Nat.eq_of_beq_eq_true hb) h
   rw[this,nE,nE]
theorem mF :∀(f:Nat) (t:Tri α) (k:Nat) (x:α) (j:Nat),k<f->get (put f t k x) j=if j=k then some x else get t j:=by
 intro f
 induction f with
 |zero=>intro t k x j h;omega
 |succ f ih =>
  intro t k x j h;cases k with
  |zero =>
   rw[zXk];cases t <;> cases j <;> simp[eT,mK,tR]
  |succ k =>
   rw[yNt];have hk:k/2<f:=by omega
   cases t with
   |e =>
    by_cases h2:k%2=0
    ·simp only[if_pos h2]
     cases j with
     |zero=>simp[eT,tR]
     |succ j =>
      rw[mK];by_cases hj:j%2=0
      ·rw[if_pos hj,ih _ _ _ _ hk,tR,tR]
       by_cases e:j=k
       ·subst e;simp
       ·rw[if_neg (by omega),if_neg (by omega)]
      ·rw[if_neg hj,tR,tR,if_neg (by omega)]
    ·simp only[if_neg h2]
     cases j with
     |zero=>simp[eT,tR]
     |succ j =>
      rw[mK];by_cases hj:j%2=0
      ·rw[if_pos hj,tR,tR,if_neg (by omega)]
      ·rw[if_neg hj,ih _ _ _ _ hk,tR,tR]
       by_cases e:j=k
       ·subst e;simp
       ·rw[if_neg (by omega),if_neg (by omega)]
   |n v l r =>
    by_cases h2:k%2=0
    ·simp only[if_pos h2]
     cases j with
     |zero=>simp[eT]
     |succ j =>
      rw[mK,mK];by_cases hj:j%2=0
      ·rw[if_pos hj,if_pos hj,ih _ _ _ _ hk]
       by_cases e:j=k
       ·subst e;simp
       ·rw[if_neg (by omega),if_neg (by omega)]
      ·rw[if_neg hj,if_neg hj,if_neg (by omega)]
    ·simp only[if_neg h2]
     cases j with
     |zero=>simp[eT]
     |succ j =>
      rw[mK,mK];by_cases hj:j%2=0
      ·rw[if_pos hj,if_pos hj,if_neg (by omega)]
      ·rw[if_neg hj,if_neg hj,ih _ _ _ _ hk]
       by_cases e:j=k
       ·subst e;simp
       ·rw[if_neg (by omega),if_neg (by omega)]
theorem get_set (t:Tri α)(k:Nat)(x:α)(j:Nat):get (set t k x) j=if j=k then some x else get t j:=mF _ _ _ _ _ (Nat.lt_succ_self k)
def bnd :Tri α->Nat
 |.e=>0
 |.n _ l r=>2*(bnd l+bnd r)+3
theorem get_bnd :∀(t:Tri α) (k:Nat),bnd t<=k->get t k=none
 |.e,_,_=>rfl
 |.n v l r,0,h=>by unfold bnd at h;omega
 |.n v l r,k+1,h=>by
  unfold bnd at h;rw[mK];split
  ·exact get_bnd l _ (by omega)
  ·exact get_bnd r _ (by omega)
end Tri

theorem zUs (f:Fm):∀(n t:Nat),Gh.get (rZ f n) t=if t<n then f.get t else none
 |0,t=>rfl
 |n+1,t=>by
  unfold rZ;have ih:=zUs f n t;cases hv:f.get n with
  |none =>
   simp only;rw[ih];by_cases h:t<n
   ·rw[if_pos h,if_pos (by omega)]
   ·rw[if_neg h]
    by_cases h2:t<n+1
    ·rw[if_pos h2,show t=n by omega,hv]
    ·rw[if_neg h2]
  |some v =>
   simp only;unfold Gh.get;by_cases e:n=t
   ·subst e
    rw[show Nat.beq n n=true from Nat.beq_refl n,if_pos (Nat.lt_succ_self n),hv];rfl
   ·have:Nat.beq n t=false:=by
     cases hb:Nat.beq n t with
     |true=>exact absurd (Nat.eq_of_beq_eq_true hb) e
     |false=>rfl
    rw[this,cond_false,ih];by_cases h:t<n
    ·rw[if_pos h,if_pos (by omega)]
    ·rw[if_neg h,if_neg (by omega)]
def yI (f:Fm):AF:=rZ f f.bnd
theorem sY (f:Fm)(t:Nat):Gh.get (yI f) t=f.get t:=by
 unfold yI;rw[zUs];split
 ·rfl
 ·rename_i h;exact(Tri.get_bnd f t (by omega)).symm
theorem lN {a:AF}:∀(n:Nat) (f:Fm),(∀t v,f.get t=some v->Gh.get a t=some v)->Sub (rZ f n) a
 |0,_,_=>trivial
 |n+1,f,h=>by
  unfold rZ;cases hv:f.get n with
  |none=>exact lN n f h
  |some v=>exact⟨h n v hv,lN n f h⟩
theorem yIa (f:Fm)(dst:Option Tmp)(v:Value):Sub (yI (wG f dst v)) (Gh.put (yI f) dst v):=by
 refine lN _ _ λt u h=>?_;cases dst with
 |none=>show Gh.get (yI f) t=_;rw[sY];exact h
 |some d =>
  have h2:Tri.get (Tri.set f d v) t=some u:=h;rw[Tri.get_set]at h2;show Gh.get ((d,v)::yI f) t=_;unfold Gh.get;by_cases e:t=d
  ·subst e;rw[if_pos rfl]at h2;rw[show Nat.beq t t=true from Nat.beq_refl t];exact h2
  ·rw[if_neg e]at h2
   have:Nat.beq d t=false:=by
    cases hb:Nat.beq d t with
    |false=>rfl
    |true=>exact absurd (Nat.eq_of_beq_eq_true hb).symm e
   rw[this,cond_false,sY];exact h2
theorem lY {f:Fm}{x:Operand}{v:Value}(h:xB f x=some v):ev (yI f) x=some v:=by
 cases x with
 |tmp t=>show Gh.get (yI f) t=_;rw[sY];exact h
 |const u=>exact h
 |global g=>cases h
 |func g=>exact h
theorem zYm {f:Fm}:∀{xs:List Operand} {vs:List Value},uI f xs=some vs->evs (yI f) xs=some vs:=by
 intro xs
 induction xs with
 |nil=>intro vs h;exact h
 |cons x xs ih =>
  intro vs h;unfold uI at h;split at h
  ·rename_i v us h1 h2
   cases h;simp only[evs,lY h1,ih h2]
  ·cases h
theorem yJn {f:Fm}:∀{xs:List (Nat × Operand)} {vs:List (Nat × Value)},iQ f xs=some vs->vG (yI f) xs=some vs:=by
 intro xs
 induction xs with
 |nil=>intro vs h;exact h
 |cons x xs ih =>
  obtain⟨i,x⟩:=x;intro vs h;unfold iQ at h;split at h
  ·rename_i v us h1 h2
   cases h;simp only[vG,lY h1,ih h2]
  ·cases h
theorem yEp {o:Oper}{a a':AF}(h:Ag o a a'):∀{xs:List Operand},(∀x∈xs,x∈o.op.operands)->evs a' xs=evs a xs:=by
 intro xs
 induction xs with
 |nil=>intro _;rfl
 |cons x xs ih=>intro hx;simp only[evs,h.ev (hx x List.mem_cons_self),ih λy hy=>hx y (List.mem_cons_of_mem _ hy)]
theorem yOp {o:Oper}{a a':AF}(h:Ag o a a'):∀{xs:List (Nat × Operand)},(∀x∈xs,x.2∈o.op.operands)->vG a' xs=vG a xs:=by
 intro xs
 induction xs with
 |nil=>intro _;rfl
 |cons x xs ih =>
  obtain⟨i,x⟩:=x;intro hx;simp only[vG,h.ev (hx (i,x) List.mem_cons_self),ih λy hy=>hx y (List.mem_cons_of_mem _ hy)]

def toL (h:Hp):zI:=(List.range h.n).map h.get
theorem xW (h:Hp):(toL h).length=h.n:=by simp[toL]
theorem xS {a b:Nat}:Nat.blt a b=true↔a<b:=⟨λh=>Nat.le_of_ble_eq_true h,λh=>Nat.ble_eq_true_of_le h⟩
theorem xU {a b:Nat}:Nat.ble a b=true↔a<=b:=⟨λh=>Nat.le_of_ble_eq_true h,λh=>Nat.ble_eq_true_of_le h⟩
theorem yP {a b:Nat}:Nat.beq a b=true↔a=b:=⟨λh=>Nat.eq_of_beq_eq_true h,λh=>by rw[h];exact Nat.beq_refl b⟩
theorem hp_n (h:Hp):h.n=h.lk+h.d:=rfl
theorem nA (h:Hp)(A:Nat):h.get A=if A<h.n then(if A<h.lk then(h.t.get A).map eV else h.t.get A)else none:=by
 unfold Hp.get zOe;by_cases h1:A<h.n
 ·rw[if_pos h1,xS.2 h1,cond_true]
  by_cases h2:A<h.lk
  ·rw[if_pos h2,xS.2 h2,cond_true]
  ·rw[if_neg h2]
   cases hb:Nat.blt A h.lk with
   |true=>exact absurd (xS.1 hb) h2
   |false=>rfl
 ·rw[if_neg h1]
  cases hb:Nat.blt A h.n with
  |true=>exact absurd (xS.1 hb) h1
  |false=>rfl
theorem qT {h:Hp}{A:Nat}{b:Blk}(e:h.get A=some b):A<h.n:=by
 rw[nA]at e;by_cases h1:A<h.n
 ·exact h1
 ·rw[if_neg h1]at e;cases e
theorem dI {h:Hp}{A:Nat}{b:Blk}(e:h.get A=some b)(hb:b.ro.b=false):h.lk<=A:=by
 rw[nA]at e;by_cases h1:A<h.n
 ·rw[if_pos h1]at e
  by_cases h2:A<h.lk
  ·rw[if_pos h2]at e
   cases hg:h.t.get A with
   |none=>rw[hg]at e;cases e
   |some g=>rw[hg]at e;cases e;cases hb
  ·omega
 ·rw[if_neg h1]at e;cases e
theorem mE {h:Hp}{A:Nat}(h1:A<h.n):(toL h)[A]?=some (h.get A):=by simp[toL,h1]
theorem rT {h:Hp}{A:Nat}{b:Blk}(e:h.get A=some b):(toL h)[A]?=some (some b):=by rw[mE (qT e),e]
theorem aV {h:Hp}{A:Nat}{b:Blk}(e:(toL h)[A]?=some (some b)):h.get A=some b:=by
 rcases Nat.lt_or_ge A h.n with h1|h1
 ·rw[mE h1]at e;exact Option.some.inj e
 ·rw[List.getElem?_eq_none (by rw[xW];exact h1)]at e;cases e
theorem yCm {h:Hp}{A:Nat}(b:Blk)(hl:h.lk<=A)(hA:A<h.n)(i:Nat):(h.set A b).get i=if i=A then some b else h.get i:=by
 rw[nA];show(if i<h.n then(if i<h.lk then(Tri.get (Tri.set h.t A b) i).map eV else Tri.get (Tri.set h.t A b) i)else none)=_;rw[Tri.get_set];by_cases e:i=A
 ·subst e;rw[if_pos hA,if_neg (by omega),if_pos rfl,if_pos rfl]
 ·rw[if_neg e,if_neg e,nA]
theorem zIs (h:Hp)(b:Blk)(i:Nat):(h.push b).get i=if i=h.n then some b else h.get i:=by
 rw[nA];show(if i<h.lk+(h.d+1)then(if i<h.lk then(Tri.get (Tri.set h.t h.n b) i).map eV else Tri.get (Tri.set h.t h.n b) i)else none)=_;rw[Tri.get_set];have:=hp_n h;by_cases e:i=h.n
 ·subst e;rw[if_pos (by omega),if_neg (by omega),if_pos rfl,if_pos rfl]
 ·rw[if_neg e,if_neg e,nA]
  by_cases h1:i<h.n
  ·rw[if_pos h1,if_pos (by omega)]
  ·rw[if_neg h1,if_neg (by omega)]
theorem zCj (h:Hp)(b:Blk):(h.push b).n=h.n+1:=by simp[hp_n,Hp.push];omega
theorem yBe (h:Hp)(A:Nat)(b:Blk):(h.set A b).n=h.n:=rfl
theorem lS {h:Hp}{A:Nat}(hl:h.lk<=A)(hA:A<h.n)(b:Blk):toL (h.set A b)=(toL h).set A (some b):=by
 apply List.ext_getElem?;intro i;rcases Nat.lt_or_ge i h.n with hi|hi
 ·rw[mE (h:=h.set A b) hi,yCm b hl hA]
  by_cases hia:i=A
  ·subst hia;rw[if_pos rfl,List.getElem?_set_self (by rw[xW];exact hA)]
  ·rw[if_neg hia,List.getElem?_set_ne (by omega),mE hi]
 ·rw[List.getElem?_eq_none (by rw[xW];exact hi),List.getElem?_eq_none (by rw[List.length_set,xW];exact hi)]
theorem mN (h:Hp)(b:Blk):toL (h.push b)=toL h++[some b]:=by
 apply List.ext_getElem?;intro i;rcases Nat.lt_or_ge i (h.n+1)with hi|hi
 ·rw[mE (h:=h.push b) (by rw[zCj];exact hi),zIs]
  by_cases hia:i=h.n
  ·subst hia;rw[if_pos rfl,List.getElem?_append_right (by rw[xW];exact Nat.le_refl _),xW,Nat.sub_self];rfl
  ·rw[if_neg hia,List.getElem?_append_left (by rw[xW];omega),mE (by omega)]
 ·rw[List.getElem?_eq_none (by rw[xW,zCj];exact hi),List.getElem?_eq_none (by rw[List.length_append,xW];exact hi)]
theorem kK (h:Hp):toL h.shut=lock (toL h):=by
 apply List.ext_getElem?;intro i;have hn:h.shut.n=h.n:=rfl;rcases Nat.lt_or_ge i h.n with hi|hi
 ·rw[mE (h:=h.shut) hi]
  unfold lock;rw[List.getElem?_map,mE hi,nA,nA];show some (if i<h.n then(if i<h.n then(h.t.get i).map eV else h.t.get i)else none)=_;rw[if_pos hi,if_pos hi,if_pos hi];simp only[Option.map_some,Option.some.injEq];cases hg:h.t.get i with
  |none=>split <;> rfl
  |some g=>split <;> rfl
 ·rw[List.getElem?_eq_none (by rw[xW];exact hi),List.getElem?_eq_none (by unfold lock;rw[List.length_map,xW];exact hi)]
theorem aA :toL .none=[]:=rfl

inductive Mem {α:Type}:α->Ou α->Prop
 |one {a}:Mem a (.one a)
 |l {a r s} (h:Mem a r):Mem a (.two r s)
 |r {a r s} (h:Mem a s):Mem a (.two r s)
def Ou.ok {α:Type}:Ou α->Bool
 |.err _=>false
 |.one _=>true
 |.two a b=>a.ok && b.ok
theorem sQ {α β:Type}{g:α->Ou β}:∀{r:Ou α},(r.bind g).ok=true->r.ok=true/\∀x,Mem x r->(g x).ok=true
 |.err _,h=>by cases h
 |.one a,h=>⟨rfl,λx hx=>by cases hx;exact h⟩
 |.two a b,h=>by
  unfold Ou.bind Ou.ok at h;rw[Bool.and_eq_true]at h;obtain⟨h1,h2⟩:=sQ h.1;obtain⟨h3,h4⟩:=sQ h.2;exact⟨by unfold Ou.ok;rw[h1,h3];rfl,λx hx=>by
   cases hx with
   |l hx=>exact h2 x hx
   |r hx=>exact h4 x hx⟩
theorem rU {α β:Type}{g:α->Ou β}{y:β}:∀{r:Ou α},Mem y (r.bind g)↔∃x,Mem x r/\Mem y (g x)
 |.err _=>⟨(λh=>by cases h),(λ⟨x,h,_⟩=>by cases h)⟩
 |.one a=>⟨λh=>⟨a,.one,h⟩,λ⟨x,h1,h2⟩=>by cases h1;exact h2⟩
 |.two a b=>⟨λh=>by
   unfold Ou.bind at h;cases h with
   |l h=>obtain⟨x,h1,h2⟩:=(rU (r:=a)).1 h;exact⟨x,.l h1,h2⟩
   |r h=>obtain⟨x,h1,h2⟩:=(rU (r:=b)).1 h;exact⟨x,.r h1,h2⟩,
  λ⟨x,h1,h2⟩=>by
   unfold Ou.bind;cases h1 with
   |l h1=>exact .l ((rU (r:=a)).2 ⟨x,h1,h2⟩)
   |r h1=>exact .r ((rU (r:=b)).2 ⟨x,h1,h2⟩)⟩
end
end Go.Gh
end
section
set_option maxRecDepth 4000
namespace Go.Gh
open Go.RowKit

theorem yJg {B0:Nat}{w0:World}{φ:Go.Gh.Fi}{H:zI}{w w':World}(r:Rel B0 w0 φ H w)(hbw:Below w.heap.size w w'){g0:Blk}{l0:Go.Gh.Loc}{A0:Nat}{H':zI}
  (hpl:Place H A0 H' g0) (hlb:w.heap.size<=l0.b) (hl0:l0.base=0)
  (hbr:Ext φ (lens H) (upd φ A0 l0) (lens H')->nB (upd φ A0 l0) (lens H') g0 l0 w') :
  Ext φ (lens H) (upd φ A0 l0) (lens H')/\Rel B0 w0 (upd φ A0 l0) H' w':=by
 have hne:∀{A n},lens H A=some n->A≠A0:=by
  intro A n hA e;subst e;obtain⟨g,h,_⟩:=gT hA;exact hpl.free g h
 have hext:Ext φ (lens H) (upd φ A0 l0) (lens H'):=by
  refine⟨λA n hA=>?_,λ_ h=>h⟩;have h:=hne hA;exact⟨n,by rw[hpl.lens_ne h];exact hA,.inl ⟨rfl,wX h⟩⟩
 have hb:w0.heap.size<=w.heap.size:=r.below.size;have r2:=r.later hbw;refine⟨hext,⟨r2.below,r.b0,?_,?_,?_,r.gw,λD hD=>⟨(r2.mks D hD).1,(r.mks D hD).2⟩⟩⟩
 ·intro A g hA
  by_cases e:A=A0
  ·subst e
   rw[hpl.at_]at hA;simp only[Option.some.injEq]at hA;subst hA;rw[yU];exact hbr hext
  ·rw[hpl.ne A e]at hA
   obtain⟨o1,c1,h1,h2,h3,h5⟩:=(r2.blk A g hA).any;rw[wX e];refine⟨o1,c1,h1,h2,h3,λi v hi=>?_⟩;obtain⟨v',g1,g2⟩:=h5 i v hi;exact⟨v',g1,g2.mono hext⟩
 ·intro A g hA hro
  by_cases e:A=A0
  ·subst e
   rw[yU];exact⟨by have:=r.b0;omega,hl0⟩
  ·rw[hpl.ne A e]at hA
   rw[wX e];exact r.own A g hA hro
 ·intro A A' g g' hA hro hA' he
  by_cases e1:A=A0
  ·subst e1
   by_cases e2:A'=A
   ·exact e2
   ·rw[hpl.ne A' e2]at hA'
    rw[yU,wX e2]at he;have:=r.lt hA';omega
  ·rw[hpl.ne A e1]at hA
   by_cases e2:A'=A0
   ·subst e2
    rw[yU,wX e1]at he;have:=r.lt hA;omega
   ·rw[hpl.ne A' e2]at hA'
    rw[wX e1,wX e2]at he;exact r.inj A A' g g' hA hro hA' he
noncomputable section

def uA (fp:List Nat)(h:Hp)(H:zI):Prop:=∀A∈fp,∀g,h.get A=some g->H[A]?=some (some g)
def wW (h:Hp)(H:zI):Prop:=∀A g,h.get A=some g->H[A]?=some (some g)
theorem wW.on {h:Hp}{H:zI}(k:wW h H)(fp:List Nat):uA fp h H:=λA _ g e=>k A g e
theorem wW.toL (h:Hp):wW h (toL h):=λ_ _ e=>rT e
structure zEn (P:Program)(N:Fr)(o:Oper)(a:AF)(H:zI)(R:Value->zI->Prop):Prop where
 go:∀B0 w0 φ w ac,Rel B0 w0 φ H w->xA φ (lens H) N a ac ->
  ∃φ' v v' w' H',R v H'/\Ext φ (lens H) φ' (lens H')/\Rel B0 w0 φ' H' w'/\Val φ' (lens H') v v'/\(execOp ac.eval o).run P w=.ok (.value v') w'
def yF (P:Program)(o:Oper)(f:Fm)(h:Hp):OpR->Prop
 |.no _=>True
 |.val v fp=>∀N a' H,Ag o (yI f) a'->uA fp h H->pP P N o a' H v
 |.all v=>∀N a' H,Ag o (yI f) a'->wW h H->vH P N o a' H v H
 |.new b v=>∀N a' H A H',Ag o (yI f) a'->Place H A H' b->vH P N o a' H (v A) H'
 |.newR b v _=>∀N a' H A H',Ag o (yI f) a'->wW h H->Place H A H' b->vH P N o a' H (v A) H'
 |.upd v A b=>(h.lk<=A/\A<h.n)/\∀N a' H,Ag o (yI f) a'->wW h H->vH P N o a' H v (H.set A (some b))
 |.call g as0=>∀N a' φ L ac,Ag o (yI f) a'->xA φ L N a' ac->∃vs,yM φ L as0 vs/\∀w,(execOp ac.eval o).run P w=(callFunc g vs).run P w
 |.yld A as0=>∃x xs ts,o.op=.call { callee:=.value x,args:=List.toArray xs,argTypes:=ts }/\∀a',Ag o (yI f) a'->ev a' x=some (.chan (some A))/\evs a' xs=some as0
 |.alts A l=>(h.lk<=A/\A<h.n)/\∀N a' H,Ag o (yI f) a'->wW h H->zEn P N o a' H λv H'=>∃x∈l,v=x.1/\H'=H.set A (some x.2)
theorem mJ {P:Program}{o:Oper}{f:Fm}{h:Hp}{c:Bool}{p q:OpR}(k1:c=true->yF P o f h p)(k2:c=false->yF P o f h q):yF P o f h (bif c then p else q):=by
 cases c with
 |true=>exact k1 rfl
 |false=>exact k2 rfl
theorem yN {P:Program}{o:Oper}{f:Fm}{h:Hp}{c:Bool}{p:OpR}{s:String}(k1:c=true->yF P o f h p):yF P o f h (bif c then p else .no s):=mJ k1 λ_=>trivial
theorem oR {P:Program}{o:Oper}{f:Fm}{h:Hp}{s:String}{x:Option Value}(k:∀v,x=some v->yF P o f h (.val v [])):yF P o f h (ofO s x):=by
 cases x with
 |none=>exact trivial
 |some v=>exact k v rfl
theorem zY {P:Program}{o:Oper}{f:Fm}{h:Hp}{v:Value}{fp:List Nat}(k:∀N a' H,Ag o (yI f) a'->uA fp h H->zR P N o a' H v):yF P o f h (.val v fp):=λN a' H h1 h2=>(k N a' H h1 h2).pcall
theorem mX {P:Program}{o:Oper}{f:Fm}{h:Hp}{b:Blk}{v:Nat->Value}(k:∀N a' H A H',Ag o (yI f) a'->Place H A H' b->xG P N o a' H (v A) H'):yF P o f h (.new b v):=λN a' H A H' h1 h2=>(k N a' H A H' h1 h2).ceff
theorem zFu {P:Program}{o:Oper}{f:Fm}{h:Hp}{b:Blk}{v:Nat->Value}{fp:List Nat}(k:∀N a' H A H',Ag o (yI f) a'->wW h H->Place H A H' b->xG P N o a' H (v A) H'):yF P o f h (.newR b v fp):=λN a' H A H' h1 h2 h3=>(k N a' H A H' h1 h2 h3).ceff
theorem uJ {P:Program}{o:Oper}{f:Fm}{h:Hp}{b g:Blk}{v:Value}{A:Nat}(hA:h.get A=some g)(hg:g.ro.b=false)(k:∀N a' H,Ag o (yI f) a'->wW h H->xG P N o a' H v (H.set A (some b))):yF P o f h (.upd v A b) :=
 ⟨⟨dI hA hg,qT hA⟩,λN a' H h1 h2=>(k N a' H h1 h2).ceff⟩
theorem yR {o:Oper}{f:Fm}{x:Operand}{v:Value}{a':AF}(h:xB f x=some v)(hag:Ag o (yI f) a')(hx:x∈o.op.operands):ev a' x=some v:=(hag.ev hx).trans (lY h)
theorem lG {o:Oper}{f:Fm}{xs:List Operand}{vs:List Value}{a':AF}(h:uI f xs=some vs)(hag:Ag o (yI f) a')(hx:∀x∈xs,x∈o.op.operands):evs a' xs=some vs:=(yEp hag hx).trans (zYm h)
theorem zNa {o:Oper}{f:Fm}{xs:List (Nat × Operand)}{vs:List (Nat × Value)}{a':AF}(h:iQ f xs=some vs)(hag:Ag o (yI f) a')(hx:∀x∈xs,x.2∈o.op.operands):vG a' xs=some vs:=(yOp hag hx).trans (yJn h)
theorem yNm (b:ByteArray):b=⟨⟨yQ b⟩⟩:=by cases b with|mk d=>cases d;rfl
theorem zLi (m n:Nat):Nat.beq m n=decide (m=n):=by
 cases hb:Nat.beq m n with
 |true=>have:=yP.1 hb;subst this;simp
 |false=>symm;rw[decide_eq_false_iff_not];intro h;subst h;rw[Nat.beq_refl]at hb;cases hb
theorem vX (b:ByteArray):(.string b:Value)=S (yQ b):=congrArg Value.string (yNm b)
theorem oJ :lim=1000000:=rfl
theorem rS (a b:Int):eqI a b=decide (a=b):=by
 cases a with
 |ofNat m =>
  cases b with
  |ofNat n=>show Nat.beq m n=_;rw[zLi,decide_eq_decide];exact⟨λh=>by rw[h],λh=>by cases h;rfl⟩
  |negSucc n=>symm;exact decide_eq_false (λh=>by cases h)
 |negSucc m =>
  cases b with
  |ofNat n=>symm;exact decide_eq_false (λh=>by cases h)
  |negSucc n=>show Nat.beq m n=_;rw[zLi,decide_eq_decide];exact⟨λh=>by rw[h],λh=>by cases h;rfl⟩
theorem cG (a b:Int):ltI a b=decide (a<b):=by
 have hb:∀m n:Nat,Nat.blt m n=decide (m<n):=λm n=>by
  cases h:Nat.blt m n with
  |true=>have:=xS.1 h;simp[this]
  |false=>symm;rw[decide_eq_false_iff_not];intro h2;rw[xS.2 h2]at h;cases h
 cases a <;> cases b <;> simp only[ltI,hb] <;> rw[eq_comm] <;> simp <;> omega
theorem iW {k k':IntKind}(h:oI k k'=true):k=k':=by cases k <;> cases k' <;> first|rfl|(simp[oI]at h)
theorem uX :∀(a b:List UInt8),sN a b=decide (a=b)
 |[],[]=>rfl
 |[],_::_=>by simp[sN]
 |_::_,[]=>by simp[sN]
 |a::r,b::s=>by
  unfold sN;rw[uX r s];cases hb:Nat.beq a.toNat b.toNat with
  |true =>
   have:a=b:=UInt8.toNat_inj.1 (yP.1 hb);subst this;simp
  |false =>
   have:a≠b:=λh=>by subst h;rw[Nat.beq_refl]at hb;cases hb
   simp[this]
section
variable {P:Program} {o:Oper} {f:Fm} {h:Hp}

theorem yAa {x:Operand}(ho:o.op=.move x):yF P o f h (bZ f x) :=
 oR λ_ hv=>zY λ_ _ _ hag _=>rP x ho (yR hv hag (by rw[ho];simp[Op.operands]))
theorem yFg {x:Operand}(ho:o.op=.assign x):yF P o f h (bZ f x) :=
 oR λ_ hv=>zY λ_ _ _ hag _=>iP x ho (yR hv hag (by rw[ho];simp[Op.operands]))
theorem yGh {c x y:Operand}(ho:o.op=.pick c x y):yF P o f h (zAp f c x y):=by
 unfold zAp;split
 ·rename_i b hc
  refine oR λv hv=>zY λ_ _ _ hag _=>?_;have hc':=yR hc hag (by rw[ho];simp[Op.operands]);cases b with
  |true=>exact zSi c x y ho hc' rfl (yR hv hag (by rw[ho];simp[Op.operands]))
  |false=>exact zVh c x y ho hc' rfl (yR hv hag (by rw[ho];simp[Op.operands]))
 ·exact trivial
theorem yJi {T:TypeId}(ho:o.op=.alloc T):yF P o f h (zEb P T):=by
 unfold zEb;split
 ·rename_i z s b hI
  exact yN λhz=>mX λ_ _ _ _ _ _ hpl=>zKb T (λt ht=>by cases ht;rfl) ho hI hz hpl
 ·exact trivial
theorem yPh {T:TypeId}{x:Operand}(ho:o.op=.box T x):yF P o f h (zDk f T x):=by
 unfold zDk;split
 ·rename_i v hx
  exact mX λ_ _ _ _ _ hag hpl=>cO T x (λt ht=>by cases ht;rfl) ho (yR hx hag (by rw[ho];simp[Op.operands])) hpl
 ·exact trivial
theorem zOr {x:Option (List Value)}(k:∀out,x=some out->yF P o f h (.val (.agg out.toArray) [])):yF P o f h (zDl x):=by
 cases x with
 |none=>exact trivial
 |some v=>exact k v rfl
theorem rE (a:Array Value):a.toList.toArray=a:=by simp
theorem yIl {T:TypeId}{ps:List (Nat × Operand)}(ho:o.op=.build T ps.toArray):yF P o f h (zHl P f T ps):=by
 unfold zHl;split
 ·exact trivial
 rename_i vs hvs;split
 ·rename_i zs s b hI
  refine yN λhz=>?_;have hev:∀a',Ag o (yI f) a'->vG a' ps=some vs:=λa' hag=>zNa hvs hag λx hx=>by rw[ho];simp[Op.operands];exact⟨x.1,hx⟩
  have hI':yC P T=some (some (.agg zs.toList.toArray),s,b):=by rw[rE];exact hI
  have hz':yB (.agg zs.toList.toArray)=true:=by rw[rE];exact hz
  unfold zSp;split
  ·unfold zJf
   split
   ·rename_i pl hp
    exact zOr λout hout=>zY λ_ _ _ hag _=>zMh T ps ho (hev _ hag) hp hI' hz' hout
   ·exact trivial
  ·rename_i n E hT
   unfold zUi;split
   ·rename_i s1 b1 hE
    exact zOr λout hout=>zY λ_ _ _ hag _=>zNf T ps ho (hev _ hag) hT hE hI' hz' hout
   ·exact trivial
  ·exact trivial
 ·exact trivial
theorem zXh {T:TypeId}{n:Nat}{ps:List (Nat × Operand)}(ho:o.op=.buildSlice T n ps.toArray):yF P o f h (zFl P f T n ps):=by
 unfold zFl;split
 ·rename_i vs E hvs hT
  unfold zUp;split
  ·rename_i z s b hI
   refine yN λhc=>?_;simp only[Bool.and_eq_true,yP,xS,xU]at hc;obtain⟨⟨⟨h1,h2⟩,h3⟩,h4⟩:=hc;split
   ·rename_i out hout
    have hT':P.underlying T=some (.slice E):=by
     unfold tM at hT;split at hT
     ·rename_i E' he;cases hT;exact he
     ·cases hT
    exact mX λ_ _ _ _ _ hag hpl=>zNv T n ps ho (zNa hvs hag λx hx=>by rw[ho];simp[Op.operands];exact⟨x.1,hx⟩) hT' hI h1 h2 h3 h4 hout hpl
   ·exact trivial
  ·exact trivial
 ·exact trivial
theorem nR {T E:TypeId}(h:tM P T=some E):P.underlying T=some (.slice E):=by
 unfold tM at h;split at h
 ·rename_i E' he;cases h;exact he
 ·cases h
theorem qZ {A n:Nat}{g:Blk}(e:qV h A n=some g):h.get A=some g/\g.cells.length=n:=by
 unfold qV at e;cases hg:h.get A with
 |none=>rw[hg]at e;cases e
 |some g' =>
  rw[hg]at e;simp only at e;cases hb:Nat.beq g'.cells.length n with
  |true=>rw[hb]at e;cases e;exact⟨rfl,yP.1 hb⟩
  |false=>rw[hb]at e;cases e
theorem lR {g:Blk}{k m:Nat}{l:List Value}(e:uD g k m=some l):l=(g.cells.drop k).take m/\l.length=m:=by
 unfold uD at e;simp only at e;cases hb:Nat.beq ((g.cells.drop k).take m).length m with
 |true=>rw[hb]at e;cases e;exact⟨rfl,yP.1 hb⟩
 |false=>rw[hb]at e;cases e
theorem zGn {g:Blk}{k m:Nat}{l:List Value}(e:uD g k m=some l):∀(i:Nat) v,l[i]?=some v->g.cells[k+i]?=some v:=by
 obtain⟨h1,h2⟩:=lR e;intro i v hi;have hlt:=(List.getElem?_eq_some_iff.1 hi).1;rw[h1,List.getElem?_take,if_pos (by omega),List.getElem?_drop]at hi;exact hi
theorem yCj {T:TypeId}{x:Operand}(ho:o.op=.load T x):yF P o f h (dJ P f h T x):=by
 unfold dJ;split
 ·rename_i A off n hx
  split
  ·rename_i g hg
   obtain⟨h1,h2⟩:=qZ hg;have hx':∀a',Ag o (yI f) a'->ev a' x=some (zG A off n):=λa' hag=>yR hx hag (by rw[ho];simp[Op.operands]);unfold zCg;split
   ·rename_i hT
    unfold ofV;split
    ·rename_i v hv
     exact zY λ_ _ _ hag hfp=>zJa T x ho (hx' _ hag) hT (hfp A (by simp) g h1) h2 hv
    ·exact trivial
   ·rename_i hT
    split
    ·rename_i z s b hI
     refine yN λ_=>?_;unfold ofL;split
     ·rename_i l hl
      exact zY λ_ _ _ hag hfp=>zVn T x ho (hx' _ hag) hT hI (hfp A (by simp) g h1) h2 (lR hl).2 (zGn hl)
     ·exact trivial
    ·exact trivial
   ·exact trivial
  ·exact trivial
 ·exact trivial
theorem yBr {T:TypeId}{x y:Operand}(ho:o.op=.store T x y):yF P o f h (zGg P f h T x y):=by
 unfold zGg;split
 ·rename_i A off n v hx hy
  split
  ·rename_i g hg
   obtain⟨h1,h2⟩:=qZ hg;have hx':∀a',Ag o (yI f) a'->ev a' x=some (zG A off n):=λa' hag=>yR hx hag (by rw[ho];simp[Op.operands]);have hy':∀a',Ag o (yI f) a'->ev a' y=some v:=λa' hag=>yR hy hag (by rw[ho];simp[Op.operands]);unfold zHw;split
   ·rename_i z s b hI
    refine mJ (λ_=>trivial) λhro=>?_;obtain⟨cells,m⟩:=g;unfold zTm;split
    ·rename_i l
     refine yN λhc=>?_;simp only[Bool.and_eq_true,yP,xU]at hc;obtain⟨⟨c1,c2⟩,c3⟩:=hc;exact uJ h1 hro λ_ a' _ hag hfp=>zUu T x y ho (hx' _ hag) (by rw[rE];exact hy' _ hag) c1 hI c2 (hfp A _ h1) h2 (xU.2 c3) hro
    ·rename_i w hw
     refine yN λhc=>?_;simp only[Bool.and_eq_true,yP]at hc;obtain⟨⟨c1,c2⟩,c3⟩:=hc;subst c2;exact uJ h1 hro λ_ a' _ hag hfp=>zVr T x y ho (hx' _ hag) (hy' _ hag) c1 hI (hfp A _ h1) h2 c3 hro
   ·exact trivial
  ·exact trivial
 ·exact trivial
theorem yKb {x:Operand}(ho:o.op=.nilCheck x):yF P o f h (zDo f x):=by
 unfold zDo;split
 ·rename_i ad hx;exact zY λ_ _ _ hag _=>dR x ho (yR hx hag (by rw[ho];simp[Op.operands]))
 ·rename_i g us vs hx;exact zY λ_ _ _ hag _=>zTp x ho (yR hx hag (by rw[ho];simp[Op.operands]))
 ·exact trivial
theorem yFs {op:UnOp}{T:TypeId}{x:Operand}(ho:o.op=.unOp op T x):yF P o f h (zBt f op x):=by
 unfold zBt;split
 ·rename_i b hx;exact zY λ_ _ _ hag _=>zCw T x ho (yR hx hag (by rw[ho];simp[Op.operands]))
 ·rename_i k n hx;exact zY λ_ _ _ hag _=>zNk T x ho (yR hx hag (by rw[ho];simp[Op.operands])) rfl
 ·exact trivial
theorem zWe {T:TypeId}{x:Operand}{i:Nat}(ho:o.op=.fieldAddr T x i):yF P o f h (zGz P f T x i):=by
 unfold zGz;split
 ·rename_i A off n F fo hx hF
  unfold zJk;split
  ·rename_i z s b hI
   refine mJ (λ_=>trivial) λhs=>zY λ_ _ _ hag _=>nG T x i ho (yR hx hag (by rw[ho];simp[Op.operands])) hF hI (λe=>?_);rw[e]at hs;cases hs
  ·exact trivial
 ·exact trivial
theorem yKd {T:TypeId}{x:Operand}{i:Nat}(ho:o.op=.field T x i):yF P o f h (zEu P f T x i):=by
 unfold zEu;split
 ·rename_i vs F fo hx hF
  have hx':∀a',Ag o (yI f) a'->ev a' x=some (.agg vs.toList.toArray):=λa' hag=>by rw[rE];exact yR hx hag (by rw[ho];simp[Op.operands])
  unfold zQl;split
  ·rename_i hT
   exact oR λv hv=>zY λ_ _ _ hag _=>zLq T x i ho (hx' _ hag) hF hT hv
  ·rename_i hT
   split
   ·rename_i z s b hI
    exact yN λhc=>zY λ_ _ _ hag _=>yMh T x i ho (hx' _ hag) hF hT hI (xU.1 hc)
   ·exact trivial
  ·exact trivial
 ·exact trivial
theorem yCr {T:TypeId}{x y:Operand}(ho:o.op=.indexAddr T x y):yF P o f h (zCh P f T x y):=by
 unfold zCh;split
 ·rename_i A off n len fl k i E hx hy hT
  unfold aD;split
  ·rename_i z s b hI
   refine yN λhc=>zY λ_ _ _ hag _=>?_;exact zQt (i:=(i:Int)) T x y ho (yR hx hag (by rw[ho];simp[Op.operands])) (yR hy hag (by rw[ho];simp[Op.operands])) hT hI ⟨by omega,by have:=xS.1 hc;omega⟩
  ·exact trivial
 ·rename_i A off n k i len E hx hy hT
  unfold aD;split
  ·rename_i z s b hI
   refine yN λhc=>zY λ_ _ _ hag _=>?_;exact zTk (i:=(i:Int)) T x y ho (yR hx hag (by rw[ho];simp[Op.operands])) (yR hy hag (by rw[ho];simp[Op.operands])) hT hI ⟨by omega,by have:=xS.1 hc;omega⟩
  ·exact trivial
 ·exact trivial
theorem sS {T:TypeId}(e:pO P T=true):P.underlying T=some .string:=by
 unfold pO at e;split at e
 ·assumption
 ·cases e
theorem yDr {T:TypeId}{x y:Operand}(ho:o.op=.index T x y):yF P o f h (zAs P f T x y):=by
 unfold zAs;split
 ·rename_i b k i hx hy
  unfold zPp;refine yN λhc=>zY λ_ _ _ hag _=>?_;simp only[Bool.and_eq_true,xS]at hc;exact zPm (i:=(i:Int)) T x y ho (yR (hx.trans (congrArg some (vX b))) hag (by rw[ho];simp[Op.operands])) (yR hy hag (by rw[ho];simp[Op.operands])) (sS hc.1) ⟨by omega,by omega⟩
 ·rename_i vs k i hx hy
  split
  ·rename_i len E hT
   unfold zSv;split
   ·rename_i s z b hE hI
    refine yN λhc=>oR λv hv=>zY λ_ _ _ hag _=>?_;simp only[Bool.and_eq_true,xS,yP]at hc;obtain⟨rfl,c2⟩:=hc;exact zKm (i:=(i:Int)) T x y ho (by rw[rE];exact yR hx hag (by rw[ho];simp[Op.operands])) (yR hy hag (by rw[ho];simp[Op.operands])) hT hE hI ⟨by omega,by omega⟩ (by simpa using hv)
   ·exact trivial
  ·exact trivial
 ·exact trivial
theorem yNe {x:Operand}{i:Nat}(ho:o.op=.extract x i):yF P o f h (zGl f x i):=by
 unfold zGl;split
 ·rename_i vs hx
  exact oR λv hv=>zY λ_ _ _ hag _=>zLs x i ho (yR hx hag (by rw[ho];simp[Op.operands])) hv
 ·exact trivial
theorem yDy {fn:Fn}{xs ys:List Operand}(ho:o.op=.makeFunc fn xs.toArray ys.toArray):yF P o f h (zFj f fn xs ys):=by
 unfold zFj;split
 ·rename_i us vs hx hy
  exact zY λ_ _ _ hag _=>mM fn xs ys ho (lG hx hag λx hx=>by rw[ho];simp[Op.operands,hx]) (lG hy hag λx hx=>by rw[ho];simp[Op.operands,hx])
 ·exact trivial
theorem yKv {T:TypeId}{x y:Operand}(ho:o.op=.makeSlice T x y):yF P o f h (zDh P f T x y):=by
 unfold zDh;split
 ·rename_i j n k c E hx hy hT
  unfold zSl;split
  ·rename_i z s b hI
   refine yN λhc=>mX λ_ _ _ A _ hag hpl=>?_;simp only[Bool.and_eq_true,xS,yP,xU]at hc;obtain⟨⟨⟨⟨⟨c1,c2⟩,c3⟩,c4⟩,c5⟩,c6⟩:=hc;have hl:=oJ;have c5':(b:Int)*c<=lim:=by exact_mod_cast c5
   exact zVt (n:=(n:Int)) (c:=(c:Int)) T x y ho (yR hx hag (by rw[ho];simp[Op.operands])) (yR hy hag (by rw[ho];simp[Op.operands])) (nR hT) hI c1 c2 c3 ⟨by omega,by omega,by omega,by omega⟩ hpl
  ·exact trivial
 ·exact trivial
end
end
end Go.Gh
end
section
set_option maxRecDepth 4000
namespace Go.Gh
open Go.RowKit
noncomputable section
section
variable {P:Program} {N:Fr} {o:Oper} {a:AF} {H:zI}
theorem yQb {T E:TypeId}{j:TypeInfo}{c:Addr}{w:World}(hT:P.underlying T=some (.pointer E))(hj:P.info? E=some j):(Op.equal T (.pointer (some c)) (.pointer (some c))).run P w=.ok true w:=by
 have h:∀d:Nat,(Op.equalIn (d+1) T (.pointer (some c)) (.pointer (some c))).run P w=.ok true w:=λd=>by
  simp[Op.equalIn,run_underlying hT,sizeOf,typeInfo,hj,run_sameAddr_same]
 simp[Op.equal,Op.maxDepth,h 9999]
theorem yBx (op:BinOp)(T U:TypeId)(x y:Operand){E A off n:Nat}{z:Option Value × Nat × Nat}{g:Blk}(hop:op=.eql\/op=.neq)(ho:o.op=.binOp op T x y U)(hx:ev a x=some (zG A off n))(hy:ev a y=some (zG A off n))
  (hT:P.underlying T=some (.pointer E)) (hI:yC P E=some z) (hA:H[A]?=some (some g)) (hn:g.cells.length=n):zR P N o a H (.bool (op == .eql)):=by
 obtain⟨z,s,b⟩:=z;obtain⟨i,hi,_⟩:=qN hI;refine⟨λB0 w0 φ w ac r hf=>?_⟩;obtain⟨hu,_⟩:=uP r hA hn (zN hf hx);obtain⟨hv,_⟩:=uP r hA hn (zN hf hy);refine⟨.bool (op == .eql),.bool _,λw _=>pZ ho ?_ ?_⟩
 ·rw[hu,hv];unfold eqGuard;rcases hop with rfl|rfl <;> simp
 ·rw[hu,hv];rcases hop with rfl|rfl <;> simp only[binOp,Sem.run_bind,yQb hT hi,Result.andThen_ok,Sem.run_pure] <;> rfl
theorem zZr {T:TypeId}{ms}{w:World}(hT:P.underlying T=some (.interface ms)):(Op.equal T .nilIface .nilIface).run P w=.ok true w:=by
 have h:∀d:Nat,(Op.equalIn (d+1) T .nilIface .nilIface).run P w=.ok true w:=λd=>by
  simp[Op.equalIn,run_underlying hT]
 simp[Op.equal,Op.maxDepth,h 9999]
theorem yAn (op:BinOp)(T U:TypeId)(x y:Operand){ms}(hop:op=.eql\/op=.neq)(ho:o.op=.binOp op T x y U)(hx:ev a x=some .nilIface)(hy:ev a y=some .nilIface)
  (hT:P.underlying T=some (.interface ms)) (hc:(dL x || dL y)=true):zR P N o a H (.bool (op == .eql)):=by
 refine⟨λB0 w0 φ w ac r hf=>?_⟩;have h1:=zN hf hx;have h2:=zN hf hy;generalize hu:ac.eval x=u at h1;generalize hv:ac.eval y=v at h2;cases h1;cases h2;refine⟨.bool (op == .eql),.bool _,λw _=>pZ ho ?_ ?_⟩
 ·rw[hu,hv];unfold eqGuard
  rcases hop with rfl|rfl <;> (cases x <;> cases y <;> simp[dL]at hc ⊢)
 ·rw[hu,hv];rcases hop with rfl|rfl <;> simp only[binOp,Sem.run_bind,zZr hT,Result.andThen_ok,Sem.run_pure] <;> rfl
end
section
variable {P:Program} {o:Oper} {f:Fm} {h:Hp}
theorem zQu {op:BinOp}{fp:List Nat}(k:(op=.eql\/op=.neq)->yF P o f h (.val (.bool (op == .eql)) fp)):yF P o f h (aM op true fp):=by
 unfold aM;split
 ·exact k (.inl rfl)
 ·exact k (.inr rfl)
 ·exact trivial
theorem zSh {T:TypeId}(e:bB P T=true):P.underlying T=some .bool:=by
 unfold bB at e;split at e
 ·assumption
 ·cases e
theorem yIv {T:TypeId}(e:eZ P T=true):∃E,P.underlying T=some (.pointer E):=by
 unfold eZ at e;split at e
 ·exact⟨_,by assumption⟩
 ·cases e
theorem zEp {T:TypeId}(e:gQ P T=true):∃E,P.underlying T=some (.slice E):=by
 unfold gQ at e;split at e
 ·exact⟨_,by assumption⟩
 ·cases e
theorem zCe {v u:Value}{fp:List Nat}(e:v=u)(k:yF P o f h (.val u fp)):yF P o f h (.val v fp):=by rw[e];exact k
theorem yGd {op:BinOp}{T U:TypeId}{x y:Operand}{k:IntKind}{m n:Int}(ho:o.op=.binOp op T x y U)(hx:∀a',Ag o (yI f) a'->ev a' x=some (.int k m))(hy:∀a',Ag o (yI f) a'->ev a' y=some (.int k n)) :
  ∀v,zCk op k m n=some v->yF P o f h (.val v []):=by
 intro v hv;unfold zCk at hv;split at hv
 ·cases hv;exact zY λ_ _ _ hag _=>zQf T U x y ho (hx _ hag) (hy _ hag) rfl
 ·cases hv;exact zY λ_ _ _ hag _=>zJj T U x y ho (hx _ hag) (hy _ hag) rfl
 ·cases hv;exact zY λ_ _ _ hag _=>zHr T U x y ho (hx _ hag) (hy _ hag) rfl
 ·rw[rS]at hv
  by_cases hn:n=0
  ·rw[decide_eq_true hn]at hv;cases hv
  ·rw[decide_eq_false hn]at hv;cases hv;exact zY λ_ _ _ hag _=>zQv T U x y ho (hx _ hag) (hy _ hag) hn rfl
 ·rw[rS]at hv
  by_cases hn:n=0
  ·rw[decide_eq_true hn]at hv;cases hv
  ·rw[decide_eq_false hn]at hv;cases hv;exact zY λ_ _ _ hag _=>zTi T U x y ho (hx _ hag) (hy _ hag) hn rfl
 ·cases hv;exact zY λ_ _ _ hag _=>zKy T U x y ho (hx _ hag) (hy _ hag) rfl
 ·cases hv;exact zY λ_ _ _ hag _=>a_or T U x y ho (hx _ hag) (hy _ hag) rfl
 ·cases hv;exact zY λ_ _ _ hag _=>zPn T U x y ho (hx _ hag) (hy _ hag) rfl
 ·cases hv;rw[cG];exact zY λ_ _ _ hag _=>zHu T U x y ho (hx _ hag) (hy _ hag)
 ·cases hv;rw[cG];exact zY λ_ _ _ hag _=>zMg T U x y ho (hx _ hag) (hy _ hag)
 ·cases hv
  rw[cG,show(!decide (n<m))=decide (m<=n)by rw[<-decide_not,decide_eq_decide];exact Int.not_lt];exact zY λ_ _ _ hag _=>zOi T U x y ho (hx _ hag) (hy _ hag)
 ·cases hv
  rw[cG,show(!decide (m<n))=decide (n<=m)by rw[<-decide_not,decide_eq_decide];exact Int.not_lt];exact zY λ_ _ _ hag _=>zIf T U x y ho (hx _ hag) (hy _ hag)
 ·cases hv;rw[rS];exact zY λ_ _ _ hag _=>zTh T U x y ho (hx _ hag) (hy _ hag)
 ·cases hv;rw[rS,show(!decide (m=n))=decide (m≠n)by rw[<-decide_not]];exact zY λ_ _ _ hag _=>zUt T U x y ho (hx _ hag) (hy _ hag)
 ·cases hv
theorem zMe {op:BinOp}{T U:TypeId}{x y:Operand}{k k':IntKind}{m n:Int}(ho:o.op=.binOp op T x y U)(hx:∀a',Ag o (yI f) a'->ev a' x=some (.int k m))(hy:∀a',Ag o (yI f) a'->ev a' y=some (.int k' n)) :
  ∀v,zDi op k m n=some v->yF P o f h (.val v []):=by
 intro v hv;unfold zDi at hv;split at hv
 ·rename_i n
  split at hv
  ·cases hv;exact zY λ_ _ _ hag _=>zMr (n:=(n:Int)) T U x y ho (hx _ hag) (hy _ hag) (by omega) rfl
  ·cases hv;exact zY λ_ _ _ hag _=>zOy (n:=(n:Int)) T U x y ho (hx _ hag) (hy _ hag) (by omega) rfl
  ·cases hv
 ·cases hv
theorem zAl (xs:List Value):∀ys,yW xs ys=true->ys.length=xs.length:=by
 induction xs with
 |nil=>intro ys h;cases ys <;> simp_all [yW]
 |cons v xs ih =>
  intro ys h;cases ys with
  |nil=>cases v <;> simp[yW]at h
  |cons u ys =>
   have:yW xs ys=true:=by cases v <;> cases u <;> simp_all [yW]
   simp[ih ys this]
theorem yIy {op:BinOp}{T U:TypeId}{x y:Operand}{u v:Value}(ho:o.op=.binOp op T x y U)(hx:∀a',Ag o (yI f) a'->ev a' x=some u)(hy:∀a',Ag o (yI f) a'->ev a' y=some v) :
  ∀r,zAr P op T u v=some r->yF P o f h (.val r []):=by
 intro r hr;unfold zAr at hr;split at hr
 ·rename_i k m k' n
  split at hr
  ·exact zMe ho hx hy r hr
  ·exact zMe ho hx hy r hr
  ·cases hk:oI k k' with
   |false=>rw[hk]at hr;cases hr
   |true=>rw[hk]at hr;cases iW hk;exact yGd ho hx hy r hr
 ·rename_i b c
  have hx':∀a',Ag o (yI f) a'->ev a' x=some (S (yQ b)):=λa' hag=>by rw[hx a' hag,vX]
  have hy':∀a',Ag o (yI f) a'->ev a' y=some (S (yQ c)):=λa' hag=>by rw[hy a' hag,vX]
  split at hr
  ·cases hb:Nat.ble ((yQ b).length+(yQ c).length) lim with
   |false=>rw[hb]at hr;cases hr
   |true =>
    rw[hb]at hr;cases hr;have:=xU.1 hb;have:=oJ;exact zY λ_ _ _ hag _=>zSo T U x y ho (hx' _ hag) (hy' _ hag) (by omega)
  ·cases hr;rw[uX];exact zY λ_ _ _ hag _=>zMs T U x y ho (hx' _ hag) (hy' _ hag)
  ·cases hr;rw[uX,show(!decide (yQ b=yQ c))=decide (yQ b≠yQ c)by rw[<-decide_not]];exact zY λ_ _ _ hag _=>zTx T U x y ho (hx' _ hag) (hy' _ hag)
  ·cases hr;exact zY λ_ _ _ hag _=>zPk T U x y ho (hx' _ hag) (hy' _ hag)
  ·cases hr
   rw[uX,show decide (yQ b=yQ c)=(yQ b == yQ c)by rw[Bool.eq_iff_iff];simp];exact zY λ_ _ _ hag _=>zTz T U x y ho (hx' _ hag) (hy' _ hag)
  ·cases hr
 ·rename_i b c
  cases hT:bB P T with
  |false=>rw[hT]at hr;cases hr
  |true =>
   rw[hT]at hr;simp only[cond_true]at hr;split at hr
   ·cases hr;rw[zCi];exact zY λ_ _ _ hag _=>zOd T U x y ho (hx _ hag) (hy _ hag) (zSh hT)
   ·cases hr;rw[bneq];exact zY λ_ _ _ hag _=>zLg T U x y ho (hx _ hag) (hy _ hag) (zSh hT)
   ·cases hr
 ·rename_i ad
  cases hT:eZ P T with
  |false=>rw[hT]at hr;cases hr
  |true =>
   rw[hT]at hr;obtain⟨E,hE⟩:=yIv hT;simp only[cond_true]at hr;split at hr
   ·cases hr;exact zY λ_ _ _ hag _=>zLr T U x y ho (hx _ hag) (hy _ hag) hE
   ·cases hr;exact zY λ_ _ _ hag _=>zLx T U x y ho (hx _ hag) (hy _ hag) hE
   ·cases hr
 ·rename_i ad n fl
  cases hT:gQ P T with
  |false=>rw[hT]at hr;cases hr
  |true =>
   rw[hT]at hr;obtain⟨E,hE⟩:=zEp hT;simp only[cond_true]at hr;split at hr
   ·cases hr;exact zY λ_ _ _ hag _=>zUn T U x y ho (hx _ hag) (hy _ hag) hE
   ·cases hr;exact zY λ_ _ _ hag _=>zZs T U x y ho (hx _ hag) (hy _ hag) hE
   ·cases hr
 ·rename_i b c
  cases hc:sW P T b.toList.length && yW b.toList c.toList && uY P T b.toList with
  |false=>rw[hc]at hr;cases hr
  |true =>
   rw[hc]at hr;simp only[Bool.and_eq_true]at hc;obtain⟨⟨c1,c2⟩,c3⟩:=hc;have hx':∀a',Ag o (yI f) a'->ev a' x=some (.agg b.toList.toArray):=λa' hag=>by rw[hx a' hag,rE]
   have hy':∀a',Ag o (yI f) a'->ev a' y=some (.agg c.toList.toArray):=λa' hag=>by rw[hy a' hag,rE]
   simp only[cond_true]at hr;split at hr
   ·cases hr
    exact zCe (by congr 1;simp) (zY λ_ _ _ hag _=>yHu T U x y ho (hx' _ hag) (hy' _ hag) c1 rfl (zAl _ _ c2) c2 c3)
   ·cases hr
    exact zCe (by congr 1;simp) (zY λ_ _ _ hag _=>zKv T U x y ho (hx' _ hag) (hy' _ hag) c1 rfl (zAl _ _ c2) c2 c3)
   ·cases hr
 ·cases hr
theorem yAc {op:BinOp}{T U:TypeId}{x y:Operand}(ho:o.op=.binOp op T x y U):yF P o f h (zBw P f h op T x y):=by
 unfold zBw;split
 ·rename_i A off n A' off' n' hx hy
  unfold zVa;split
  ·rename_i E hT
   split
   ·rename_i z g hI hg
    refine yN λhc=>?_;simp only[Bool.and_eq_true,yP]at hc;obtain⟨⟨rfl,rfl⟩,rfl⟩:=hc;obtain⟨h1,h2⟩:=qZ hg;exact zQu λhop=>zY λ_ _ _ hag hfp=>yBx op T U x y hop ho (yR hx hag (by rw[ho];simp[Op.operands])) (yR hy hag (by rw[ho];simp[Op.operands])) hT hI (hfp A (by simp) g h1) h2
   ·exact trivial
  ·exact trivial
 ·rename_i hx hy
  unfold zMw;split
  ·rename_i ms hT
   exact yN λhc=>zQu λhop=>zY λ_ _ _ hag _=>yAn op T U x y hop ho (yR hx hag (by rw[ho];simp[Op.operands])) (yR hy hag (by rw[ho];simp[Op.operands])) hT hc
  ·exact trivial
 ·rename_i u v _ _ hx hy
  exact oR (yIy ho (λa' hag=>yR hx hag (by rw[ho];simp[Op.operands])) λa' hag=>yR hy hag (by rw[ho];simp[Op.operands]))
 ·exact trivial
end
end
end Go.Gh
end
section
set_option maxRecDepth 4000
namespace Go.Gh
open Go.RowKit
noncomputable section
theorem zXw {P:Program}{fits:TypeId->Bool}{n:Nat}:∀{d e c c' off:Nat},c<=c'->rowAt P fits d e c off n=true->rowAt P fits d e c' off n=true
 |0,_,_,_,_,_,h=>by cases h
 |d+1,e,c,c',off,hc,h=>by
  unfold rowAt at h ⊢;simp only at h ⊢;split
  ·rename_i hs;rw[if_pos hs]at h;cases h
  ·rename_i hs
   rw[if_neg hs]at h;simp only[Bool.or_eq_true,Bool.and_eq_true,decide_eq_true_eq]at h ⊢;rcases h with⟨⟨h1,h2⟩,h3⟩|⟨h1,h2⟩
   ·exact .inl ⟨⟨h1,by omega⟩,h3⟩
   ·exact .inr ⟨by omega,h2⟩
theorem zKh {P:Program}:∀{d e c c' off u n:Nat},c<=c'->liesAt P d e c off u n=true->liesAt P d e c' off u n=true
 |0,_,_,_,_,_,_,_,h=>by cases h
 |d+1,e,c,c',off,u,n,hc,h=>by
  unfold liesAt at h ⊢;simp only[Bool.or_eq_true]at h ⊢;rcases h with h|h
  ·exact .inl (zXw hc h)
  ·right
   split at h
   ·exact zKh hc h
   ·cases h
section
variable {P:Program} {N:Fr} {o:Oper} {a:AF} {H:zI}
theorem zKx {B0:Nat}{w0:World}{φ:Fi}{w w1:World}(r:Rel B0 w0 φ H w){A:Nat}{g:Blk}(hA:H[A]?=some (some g))(hmp:(φ A).mp=false)(hb:Below w.heap.size w w1) :
  ∃T k,w1.shape? (φ A).b=some (T,k)/\(φ A).base+g.cells.length<=k/\∀t,g.ro.ty=some t->T=t:=by
 obtain⟨c,T,fz,k1,_,k3,_,_,k6⟩:=(r.blk A g hA).exT hmp;refine⟨T,c.size,?_,k3,k6⟩;unfold World.shape?;rw[hb.block _ (r.lt hA),k1]
theorem yPg (T U:TypeId)(x:Operand){A off n t s b:Nat}{z:Option Value}{g:Blk}(ho:o.op=.convert T U x)(hx:ev a x=some (zG A off n))
  (hT:P.underlying T=some (.pointer t)) (hU:P.underlying U=some .unsafePointer) (hI:yC P t=some (z,s,b)) (hs:0<s) (hA:H[A]?=some (some g)) (hn:g.cells.length=n) (hoff:off<g.cells.length):zR P N o a H (zG A off n):=by
 refine⟨λB0 w0 φ w ac r hf=>?_⟩;have hv:=zN hf hx;obtain⟨hu,hmp⟩:=uP r hA hn hv;refine⟨_,hv,λw1 hb=>?_⟩;obtain⟨E,k,h1,h2,_⟩:=zKx r hA hmp hb;obtain⟨i,hi,_,hsz,_⟩:=qN hI;have hc:=Lib.run_to_unsafe (P:=P) w1 ⟨(φ A).b,(φ A).base+off,none⟩ hT hU hi (by omega) h1 (by show(φ A).base+off<k;omega);unfold execOp;simp only[ho,hu,Sem.run_bind,hc,Result.andThen_ok,Sem.run_pure]
theorem yEt (T U:TypeId)(x:Operand){A off n u e:Nat}{z:Option Value × Nat × Nat}{g:Blk}(ho:o.op=.convert T U x)(hx:ev a x=some (zG A off n))
  (hT:P.underlying T=some .unsafePointer) (hU:P.underlying U=some (.pointer u)) (hI:yC P u=some z) (hA:H[A]?=some (some g)) (hn:g.cells.length=n) (hro:g.ro.b=false) (hty:g.ro.ty=some e)
  (hl:liesAt P P.depth e (g.cells.length/P.cellsOf e) off u 1=true):zR P N o a H (zG A off n):=by
 refine⟨λB0 w0 φ w ac r hf=>?_⟩;have hv:=zN hf hx;obtain⟨hu,hmp⟩:=uP r hA hn hv;refine⟨_,hv,λw1 hb=>?_⟩;obtain⟨E,k,h1,h2,h3⟩:=zKx r hA hmp hb;obtain⟨_,hb0⟩:=r.own A g hA hro;rw[h3 e hty]at h1;obtain⟨z,s,b⟩:=z;obtain⟨i,hi,_⟩:=qN hI;have hle:g.cells.length/P.cellsOf e<=k/P.cellsOf e:=Nat.div_le_div_right (by omega);have hc:=Lib.run_from_unsafe (P:=P) w1 ⟨(φ A).b,(φ A).base+off,none⟩ hT hU hi h1 (by show liesAt P P.depth e (k/P.cellsOf e) ((φ A).base+off) u 1=true;rw[hb0,Nat.zero_add];exact zKh hle hl);unfold execOp;simp only[ho,hu,Sem.run_bind,hc,Result.andThen_ok,Sem.run_pure]
end
section
variable {P:Program} {o:Oper} {f:Fm} {h:Hp}
theorem zDx {T:TypeId}(e:zAa P T=true):P.underlying T=some (.int .u8):=by
 unfold zAa at e;split at e
 ·assumption
 ·cases e
theorem zMv :∀{l:List Value} {bs:List UInt8},eS l=some bs->l=zS bs:=by
 intro l
 induction l with
 |nil=>intro bs e;cases e;rfl
 |cons v l ih =>
  intro bs e;unfold eS at e;split at e
  ·rename_i heq;cases heq
  ·rename_i n r heq
   cases heq;cases hb:Nat.blt n 256 with
   |false=>rw[hb]at e;cases e
   |true =>
    rw[hb]at e;simp only[cond_true]at e;have hn:=xS.1 hb;split at e
    ·rename_i l' hl
     cases e;rw[ih hl];show _=lF (UInt8.ofNat n)::zS l'
     congr 2
     show(Int.ofNat n)=((UInt8.ofNat n).toNat:Int);have h8:(UInt8.ofNat n).toNat=n:=by rw[UInt8.toNat_ofNat'];exact Nat.mod_eq_of_lt (by omega)
     rw[h8];rfl
    ·cases e
  ·cases e
theorem yHa {T U:TypeId}{x:Operand}(ho:o.op=.convert T U x):yF P o f h (zAn P f h T U x):=by
 unfold zAn;split
 ·rename_i k n hx
  unfold zVg;split
  ·rename_i d k' hT hU
   exact zY λ_ _ _ hag _=>zJo T U x ho (yR hx hag (by rw[ho];simp[Op.operands])) hT hU rfl
  ·exact trivial
 ·rename_i b hx
  refine yN λhT=>?_;have hx':∀a',Ag o (yI f) a'->ev a' x=some (S (yQ b)):=λa' hag=>yR (hx.trans (congrArg some (vX b))) hag (by rw[ho];simp[Op.operands]);unfold zOs;split
  ·rename_i hU
   exact zCe (vX b) (zY λ_ _ _ hag _=>yNi T U x ho (hx' _ hag) (sS hT) hU)
  ·rename_i E hU
   refine yN λhc=>mX λ_ _ _ _ _ hag hpl=>?_;simp only[Bool.and_eq_true,xU]at hc;have:=oJ;exact zNh T U x ho (hx' _ hag) (sS hT) hU (zDx hc.1) (by unfold maxLen;omega) hpl
  ·exact trivial
 ·rename_i ad len fl hx
  refine yN λhU=>?_;have hx':∀a',Ag o (yI f) a'->ev a' x=some (.slice ad len fl):=λa' hag=>yR hx hag (by rw[ho];simp[Op.operands]);unfold zKr;split
  ·rename_i E hE
   refine yN λhE8=>?_;split
   ·refine yN λhl=>zY λ_ _ _ hag _=>?_
    simp only[Bool.and_eq_true,yP]at hl;obtain⟨rfl,rfl⟩:=hl;exact yQf T U x ho (hx' _ hag) (nR hE) (zDx hE8) (sS hU)
   ·rename_i A off n
    unfold zIr;split
    ·rename_i g hg
     obtain⟨h1,h2⟩:=qZ hg;unfold zLd;split
     ·rename_i l hl
      split
      ·rename_i bs hbs
       have:=zMv hbs;subst this;exact zY λ_ _ _ hag hfp=>zSk T U x ho (hx' _ hag) (nR hE) (zDx hE8) (sS hU) (hfp A (by simp) g h1) h2 (by have:=(lR hl).2;simpa using this) (zGn hl)
      ·exact trivial
     ·exact trivial
    ·exact trivial
   ·exact trivial
  ·exact trivial
 ·rename_i ad hx
  unfold zRl;split
  ·rename_i A off n t hT hU
   have hx':∀a',Ag o (yI f) a'->ev a' x=some (zG A off n):=λa' hag=>yR hx hag (by rw[ho];simp[Op.operands]);unfold zMc;split
   ·rename_i z s b g hI hg
    obtain⟨h1,h2⟩:=qZ hg;refine yN λhc=>?_;simp only[Bool.and_eq_true,xS]at hc;split
    ·exact zY λ_ _ _ hag hfp=>yPg T U x ho (hx' _ hag) hT hU hI hc.1.1 (hfp A (by simp) g h1) h2 hc.1.2
    ·exact trivial
   ·exact trivial
  ·rename_i A off n u hT hU
   have hx':∀a',Ag o (yI f) a'->ev a' x=some (zG A off n):=λa' hag=>yR hx hag (by rw[ho];simp[Op.operands]);unfold zMa;split
   ·rename_i z g hI hg
    obtain⟨h1,h2⟩:=qZ hg;split
    ·rename_i e he
     refine yN λhc=>?_;simp only[Bool.and_eq_true,Bool.not_eq_true']at hc;exact zY λ_ _ _ hag hfp=>yEt T U x ho (hx' _ hag) hT hU hI (hfp A (by simp) g h1) h2 hc.2 he hc.1
    ·exact trivial
   ·exact trivial
  ·exact trivial
 ·exact trivial
end
end
end Go.Gh
end
section
set_option maxRecDepth 4000
namespace Go.Gh
open Go.RowKit
noncomputable section
section
variable {P:Program} {N:Fr} {o:Oper} {a:AF} {H:zI}
theorem yPs (T:TypeId)(x lo hi:Operand){A off n len fl E s b:Nat}{z:Option Value}{j k:IntKind}{i h:Int}(ho:o.op=.slice T x (some lo) (some hi) none)(hx:ev a x=some (gsl A off n len fl))
  (hlo:ev a lo=some (.int j i)) (hhi:ev a hi=some (.int k h)) (hT:P.underlying T=some (.slice E)) (hI:yC P E=some (z,s,b)) (h1:0<=i/\i=h/\h<=len):zR P N o a H iL:=by
 refine⟨λB0 w0 φ w ac r hf=>?_⟩;have hu:=zN hf hx;have e2:=(zN hf hlo).scalar rfl;have e3:=(zN hf hhi).scalar rfl;generalize hv:ac.eval x=u at hu;cases hu with
 |slc _ _ _ m _ _ cap c hL hle hc hm hh =>
  refine⟨.slice (some (if cap=i.toNat then c else c.add (i.toNat*s))) 0 (cap-i.toNat),.sdead _ _ (by omega),λw _=>?_⟩;unfold execOp;simp only[ho,hv,e2,e3,Instr.sliceAt,Instr.slice,Option.map_some,Option.map_none,Sem.run_bind,run_underlying hT,Result.andThen_ok,Instr.sliceBounds,Instr.sliceBound,asIntOf,Sem.run_pure,
   Sem.run_ite,if_pos (show 0<=h/\h<=(cap:Int)from⟨by omega,by omega⟩),if_pos (show 0<=i/\i<=(h.toNat:Int)from⟨h1.1,by omega⟩),wV hI]
  congr 3
  ·split <;> rfl
  ·omega
theorem yKu (T:TypeId)(x hi:Operand){A n len fl E s b:Nat}{z:Option Value}{k:IntKind}{h:Int}(ho:o.op=.slice T x none (some hi) none)(hx:ev a x=some (gsl A 0 n len fl))
  (hhi:ev a hi=some (.int k h)) (hT:P.underlying T=some (.slice E)) (hI:yC P E=some (z,s,b)) (h1:0<=h/\h<=len):zR P N o a H (gsl A 0 n h.toNat fl):=by
 refine⟨λB0 w0 φ w ac r hf=>?_⟩;have hu:=zN hf hx;have e3:=(zN hf hhi).scalar rfl;generalize hv:ac.eval x=u at hu;cases hu with
 |slc _ _ _ m _ _ cap c hL hle hc hm hh =>
  refine⟨.slice (some c) h.toNat cap,.slc _ _ _ m _ _ _ _ hL hle (by omega) (by omega) hh,λw _=>?_⟩;unfold execOp;simp only[ho,hv,e3,Instr.sliceAt,Instr.slice,Option.map_some,Option.map_none,Sem.run_bind,run_underlying hT,Result.andThen_ok,Instr.sliceBounds,Instr.sliceBound,asIntOf,Sem.run_pure,
   Sem.run_ite,if_pos (show 0<=h/\h<=(cap:Int)from⟨by omega,by omega⟩),wV hI,Nat.zero_mul]
  simp[Addr.add]
theorem yBa (T:TypeId)(x:Operand){A off n len E s b:Nat}{z:Option Value}(ho:o.op=.slice T x none none none)(hx:ev a x=some (zG A off n))
  (hT:P.underlying T=some (.array len E)) (hI:yC P E=some (z,s,b)) (hm:len<=maxLen):zR P N o a H (.slice (some ⟨A,off,none⟩) len (n+1)):=by
 refine⟨λB0 w0 φ w ac r hf=>?_⟩;have hu:=zN hf hx;generalize hv:ac.eval x=u at hu;cases hu with
 |ptr _ _ _ q c hL hle hh =>
  refine⟨.slice (some c) len len,.full _ _ _ q _ _ hL hle hm (λe=>⟨(hh e).1,(hh e).2⟩),λw _=>?_⟩;unfold execOp;simp only[ho,hv,Instr.sliceAt,Option.map_none,Sem.run_bind,run_underlying hT,Result.andThen_ok,Instr.sureAddr,Instr.sliceBounds,Sem.run_pure,wV hI,Nat.zero_mul];simp[Addr.add]
end
section
variable {P:Program} {o:Oper} {f:Fm} {h:Hp}
inductive Bd (f:Fm):Option Operand->Option Nat->Prop
 |no:Bd f none none
 |yes {x k n} (h:xB f x=some (.int k (.ofNat n))):Bd f (some x) (some n)
theorem zDq {x:Option Operand}{r:Option Nat}(e:eR f x=some r):Bd f x r:=by
 cases x with
 |none=>cases e;exact .no
 |some x =>
  unfold eR at e;simp only at e;split at e
  ·rename_i k n hx;cases e;exact .yes hx
  ·cases e
theorem yJp {T:TypeId}{x:Operand}{lo hi mx:Option Operand}(ho:o.op=.slice T x lo hi mx):yF P o f h (zDs P f T x lo hi mx):=by
 unfold zDs;split
 ·rename_i v lo' hi' mx' hx hlo hhi hmx
  have hx':∀a',Ag o (yI f) a'->ev a' x=some v:=λa' hag=>yR hx hag (by rw[ho];simp[Op.operands]);have hlo':=zDq hlo;have hhi':=zDq hhi;have hmx':=zDq hmx;clear hlo hhi hmx hx;have h2:∀{y k n a'},(lo=some y\/hi=some y\/mx=some y)->xB f y=some (.int k (.ofNat n))->Ag o (yI f) a'->ev a' y=some (.int k (n:Int)):=by
   intro y k n a' hy e hag;refine yR e hag ?_;rw[ho];rcases hy with rfl|rfl|rfl <;> simp[Op.operands]
  have hlim:=oJ;unfold zQh;split
  ·rename_i b
   refine yN λhT=>?_;have hs:∀a',Ag o (yI f) a'->ev a' x=some (S (yQ b)):=λa' hag=>by rw[hx' a' hag,vX]
   unfold zMd;split
   ·rename_i i n
    cases hlo' with
    |yes e1 =>
     cases hhi' with
     |yes e2 =>
      cases hmx';refine yN λhc=>zY λ_ _ _ hag _=>?_;simp only[Bool.and_eq_true,xU]at hc;exact zUv (i:=(i:Int)) (n:=(n:Int)) T x _ _ ho (hs _ hag) (h2 (.inl rfl) e1 hag) (h2 (.inr (.inl rfl)) e2 hag) (sS hT) ⟨by omega,by omega,by omega⟩
   ·rename_i i
    cases hlo' with
    |yes e1 =>
     cases hhi';cases hmx';refine yN λhc=>zY λ_ _ _ hag _=>?_;have:=xU.1 hc;exact zRf (i:=(i:Int)) T x _ ho (hs _ hag) (h2 (.inl rfl) e1 hag) (sS hT) ⟨by omega,by omega⟩
   ·rename_i n
    cases hlo';cases hhi' with
    |yes e2 =>
     cases hmx';refine yN λhc=>zY λ_ _ _ hag _=>?_;have:=xU.1 hc;exact zTf (n:=(n:Int)) T x _ ho (hs _ hag) (h2 (.inr (.inl rfl)) e2 hag) (sS hT) ⟨by omega,by omega⟩
   ·exact trivial
  ·rename_i ad len fl
   unfold zTb;split
   ·rename_i E hE
    have hT:=nR hE;split
    ·rename_i z s b hI
     unfold zQr;split
     ·rename_i A off n
      unfold zOx;split
      ·rename_i i m
       cases hlo' with
       |yes e1 =>
        cases hhi' with
        |yes e2 =>
         cases hmx';refine yN λhc=>?_;simp only[Bool.and_eq_true,xU]at hc;refine mJ (λhc2=>zY λ_ _ _ hag _=>?_) λhc2=>zY λ_ _ _ hag _=>?_
         ·simp only[Bool.or_eq_true,xS,yP]at hc2
          have:=zKo (N:=‹Fr›) (H:=‹zI›) (i:=(i:Int)) (h:=(m:Int)) T x _ _ ho (hx' _ hag) (h2 (.inl rfl) e1 hag) (h2 (.inr (.inl rfl)) e2 hag) hT hI ⟨by omega,by omega,by omega⟩ (by omega);rw[show((m:Int)-(i:Int)).toNat=m-i by omega]at this;exact this
         ·have h3:¬(i<m):=λhlt=>by rw[xS.2 hlt]at hc2;cases hc2
          exact yPs (i:=(i:Int)) (h:=(m:Int)) T x _ _ ho (hx' _ hag) (h2 (.inl rfl) e1 hag) (h2 (.inr (.inl rfl)) e2 hag) hT hI ⟨by omega,by omega,by omega⟩
      ·rename_i i
       cases hlo' with
       |yes e1 =>
        cases hhi';cases hmx';refine mJ (λhc=>zY λ_ _ _ hag _=>?_) λhc=>yN λhc2=>zY λ_ _ _ hag _=>?_
        ·have:=yP.1 hc
         exact zMy (i:=(i:Int)) T x _ ho (hx' _ hag) (h2 (.inl rfl) e1 hag) hT hI (by omega)
        ·have h3:=xU.1 hc2
         have h4:i≠len:=λe=>by rw[yP.2 e]at hc;cases hc
         have:=zLo (N:=‹Fr›) (H:=‹zI›) (i:=(i:Int)) T x _ ho (hx' _ hag) (h2 (.inl rfl) e1 hag) hT hI ⟨by omega,by omega⟩ (by omega);exact this
      ·rename_i m
       cases hlo';cases hhi' with
       |yes e2 =>
        cases hmx';refine yN λhc=>?_;have h3:=xU.1 hc;cases hk:Nat.beq (m*s) n && Nat.beq off 0 with
        |true =>
         simp only[Bool.and_eq_true,yP]at hk;obtain⟨_,rfl⟩:=hk;exact zY λ_ _ _ hag _=>yKu (h:=(m:Int)) T x _ ho (hx' _ hag) (h2 (.inr (.inl rfl)) e2 hag) hT hI ⟨by omega,by omega⟩
        |false=>exact zY λ_ _ _ hag _=>zLy (h:=(m:Int)) T x _ ho (hx' _ hag) (h2 (.inr (.inl rfl)) e2 hag) hT hI ⟨by omega,by omega⟩
      ·rename_i m m'
       cases hlo';cases hhi' with
       |yes e2 =>
        cases hmx' with
        |yes e3 =>
         refine yN λhc=>zY λ_ _ _ hag _=>?_;simp only[Bool.and_eq_true,xU,yP]at hc;obtain⟨rfl,h3⟩:=hc;exact yDj (h:=(m:Int)) T x _ _ ho (hx' _ hag) (h2 (.inr (.inl rfl)) e2 hag) (h2 (.inr (.inr rfl)) e3 hag) hT hI ⟨by omega,by omega⟩
      ·exact trivial
     ·refine yN λhc=>?_
      simp only[Bool.and_eq_true,yP]at hc;obtain⟨rfl,rfl⟩:=hc;unfold zVl;split
      ·cases hlo'
       cases hhi' with
       |yes e2 =>
        cases hmx' with
        |yes e3=>exact zY λ_ _ _ hag _=>zLv T x _ _ ho (hx' _ hag) (h2 (.inr (.inl rfl)) e2 hag) (h2 (.inr (.inr rfl)) e3 hag) hT hI
      ·cases hlo' with
       |yes e1 =>
        cases hhi';cases hmx';exact zY λ_ _ _ hag _=>zSx T x _ ho (hx' _ hag) (h2 (.inl rfl) e1 hag) hT hI rfl
      ·cases hlo'
       cases hhi' with
       |yes e2 =>
        cases hmx';exact zY λ_ _ _ hag _=>yLl T x _ ho (hx' _ hag) (h2 (.inr (.inl rfl)) e2 hag) hT hI rfl
      ·exact trivial
     ·exact trivial
    ·exact trivial
   ·exact trivial
  ·rename_i ad
   unfold zSt;split
   ·rename_i A off n len E hT
    unfold zLh;split
    ·cases hlo'
     cases hhi';cases hmx';refine yN λhc=>?_;simp only[Bool.and_eq_true,xU]at hc;cases hI:yC P E with
     |none=>rw[hI]at hc;cases hc.1
     |some z =>
      obtain⟨z,s,b⟩:=z;exact zY λ_ _ _ hag _=>yBa T x ho (hx' _ hag) hT hI (by unfold maxLen;omega)
    ·exact trivial
   ·exact trivial
  ·exact trivial
 ·exact trivial
end
end
end Go.Gh
end
