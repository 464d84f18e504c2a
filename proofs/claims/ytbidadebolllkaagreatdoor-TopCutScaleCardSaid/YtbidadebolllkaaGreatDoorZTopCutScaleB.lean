/- Part 2 of the proof of the law TopCutScale: texts merged. No condition. -/
import Derived.Test.YtbidadebolllkaaGreatDoorZTopCutScaleA
import Derived.RangeFuncLeaves
import Derived.RangeFuncRecord
import Derived.OrdersIn
set_option linter.unusedSimpArgs false
set_option linter.unusedVariables false
section
set_option maxRecDepth 4000
namespace Go.Gh
open Go.RowKit

theorem yCi {P:Program}(w:World)(t ty e:TypeId)(i:TypeInfo)(ht:P.underlying t=some (.slice e))(hi:P.info? e=some i)
  (b sLen sCap:Nat) {c:Array Value} {T:TypeId} {fz:Nat × Nat} (hg:w.heap[b]?=some (.cells c T fz)) (hfz:∀i,i<c.size->¬(fz.1<=i/\i<fz.2))
  (a:Addr) (m k:Nat) (news:List Value) (hl:news.length=m*i.size) (hnews:∀j u,news[j]?=some u->w.cell? (a.add j)=some u) (h1:∀u∈news,u.oneCell'=true)
  (hroom:sLen+m<=sCap) (hfit:sLen*i.size+news.length<=c.size) :
  (Builtin.append_ #[t,t] ty #[.slice (some ⟨b,0,none⟩) sLen sCap,.slice (some a) m k]).run P w =
   .ok (.slice (some ⟨b,0,none⟩) (sLen+m) sCap) (w.setCells b (sLen*i.size) news):=by
 have hf:=run_firstCells_some (P:=P) w i.size m a m k news hl hnews;have hst:=zFy (P:=P) hg hfit hfz h1;simp[Builtin.append_,run_underlying ht,sizeOf,typeInfo,hi,Builtin.lenOf,hroom,hf,Addr.add_lit,hst]

section
variable {P:Program} {N:Fr} {ops:Array Oper} {Q:xR} {rest:List Oper} {o:Oper} {a:AF} {H:zI}

theorem tB {ρ:Operand->Value}{t u:TypeId}{x y:Operand}{v:Value}{w w':World}(ho:o.op=.call { callee:=.builtin .append,args:=#[x,y],argTypes:=#[t,u] })
  (hr:(Builtin.append_ #[t,u] o.type #[ρ x,ρ y]).run P w=.ok v w'):(execOp ρ o).run P w=.ok (.value v) w':=by
 unfold execOp;simp only[ho,resolve,invoke,builtin,Sem.run_bind,Sem.run_pure,Result.andThen_ok,List.map_toArray,List.map_cons,List.map_nil,hr]

theorem uV {B0:Nat}{w0:World}{φ:Fi}{w:World}(_r:Rel B0 w0 φ H w){A off n len fl:Nat}{g:Blk}(hA:H[A]?=some (some g))(hn:g.cells.length=n)
  {u:Value} (hu:Val φ (lens H) (gsl A off n len fl) u) :
  ∃cap,u=.slice (some ⟨(φ A).b,(φ A).base+off,none⟩) len cap/\len<=cap/\cap<=maxLen/\(fl≠0->(φ A).base+off+cap*fl<=(φ A).size)/\(φ A).mp=false:=by
 cases hu with
 |slc _ _ _ m _ _ cap c hL hv hc hm h =>
  rw[wH hA]at hL;simp only[Option.some.injEq]at hL;obtain⟨h1,h2⟩:=h (by omega);exact⟨cap,by rw[h1],hc,hm,h2⟩

theorem cH {φ:Fi}{L:zP}{vs us:List Value}(h:yM φ L vs us.toArray)(h1:vs.all one=true):∀u∈us,u.oneCell'=true:=by
 intro u hu;obtain⟨i,hi,rfl⟩:=List.getElem_of_mem hu;have hvl:i<vs.length:=by have:=h.size;simp at this;omega
 obtain⟨v',k1,k2⟩:=h.get i vs[i] (by simp[hvl]);have:=(oN k2 ((List.all_eq_true.1 h1) vs[i] (List.getElem_mem hvl))).1;rw[show v'=us[i] from by simp[hi]at k1;exact k1.symm]at this;exact this

theorem zUb (T:TypeId)(x y:Operand){A n len A2 off2 n2 m fl2 E s b:Nat}{z:Value}{cells news:List Value}{g2:Blk}
  (ho:o.op=.call { callee:=.builtin .append,args:=#[x,y],argTypes:=#[T,T] }) (hx:ev a x=some (gsl A 0 n len s)) (hy:ev a y=some (gsl A2 off2 n2 m fl2))
  (hT:P.underlying T=some (.slice E)) (hI:yC P E=some (some z,s,b)) (hzs:z.cells.size=s) (hs:0<s)
  (hA:H[A]?=some (some ⟨cells,false⟩)) (hn:cells.length=n) (hfull:len*s=n) (hA2:H[A2]?=some (some g2)) (hn2:g2.cells.length=n2)
  (hl:news.length=m*s) (hc:∀(i:Nat) v,news[i]?=some v->g2.cells[off2+i]?=some v) (h1:news.all one=true)
  (hb:(len+m)*b<=140737488355328) (h63:len+m<=maxLen)
  : xG P N o a H (gsl A 0 (n+m*s) (len+m) s) (H.set A (some ⟨cells++news,false⟩)):=by
 refine qI (λB0 w0 φ w ac r hf=>?_);obtain⟨cap,hu,hlc,hcm,hsz,hmp⟩:=uV r hA hn (zN hf hx);obtain⟨cap2,hu2,_,_,_,hmp2⟩:=uV r hA2 hn2 (zN hf hy);obtain⟨us,hus,hucell⟩:=rI r hA2 hmp2 off2 hc;obtain⟨olds,hold,hocell⟩:=rI r hA hmp 0 (vs:=cells) (λi v h=>by simpa using h);obtain⟨c,T',fz,k1,k2,k3,k4,k5⟩:=(r.blk A _ hA).ex hmp;obtain⟨_,hbase⟩:=r.own A _ hA rfl;obtain⟨i,hi,e1,e2,e3⟩:=qN hI;subst e2 e3;simp only at k3 k5;rw[hbase]at hu k3 hocell;simp only[Nat.add_zero]at hu hocell;have hsz':=hsz (by omega);rw[hbase]at hsz';simp only[Nat.zero_add]at hsz';have hul:us.length=m*i.size:=by have:=hus.size;simp at this;omega
 have hol:olds.length=len*i.size:=by have:=hold.size;simp at this;omega
 have hone:=cH hus h1;have hAlt:=(List.getElem?_eq_some_iff.1 hA).1;by_cases hroom:len+m<=cap
 ·have hfit:len*i.size+us.length<=c.size:=by
   rw[hul,k2,<-Nat.add_mul];exact Nat.le_trans (Nat.mul_le_mul_right _ hroom) hsz'
  have hrun:=yCi (P:=P) w T o.type E i hT hi (φ A).b len cap k1 (k4 rfl) _ m cap2 us hul hucell hone hroom hfit;have hw:=cV us w (φ A).b (len*i.size) c T' fz k1;have key:=dU (w':=w.setCells (φ A).b (len*i.size) us) (g':=⟨cells++news,false⟩) (l':=φ A) r hA rfl hw.os hw.tape hw.output (by rw[hw.size];exact Nat.le_refl _) (λk _ hk=>hw.oth k hk) (.inl rfl) hbase hmp hmp hw.block (by rw[tK];exact k2)
   (by rw[tK];simp only[List.length_append];omega) (by rw[tK];exact k4 rfl) (by
    by_cases hm0:m=0
    ·subst hm0;exact .inl ⟨by simp at hl;simp[hl],rfl⟩
    ·refine .inr ?_
     simp only[List.length_append];have:0<m*i.size:=Nat.mul_pos (by omega) hs;omega) (λq v hq=>?_)
  ·refine⟨_,.slice (some ⟨(φ A).b,0,none⟩) (len+m) cap,_,key.1,key.2,?_,tB ho (by rw[hu,hu2];exact hrun)⟩
   refine .slc _ _ _ (n+m*i.size) _ _ _ _ ?_ (Nat.le_refl _) hroom hcm (λ_=>⟨by rw[yU,hbase],λ_=>by rw[yU,hbase];omega,by rw[yU];exact hmp⟩);rw[tU hAlt];simp[hn,hl]
  ·have hext:Ext φ (lens H) (upd φ A (φ A)) (lens (H.set A (some ⟨cells++news,false⟩))):=by
    refine⟨λA' n' hn'=>?_,λ_ h=>h⟩;by_cases e:A'=A
    ·subst e
     rw[wH hA]at hn';simp only[Option.some.injEq]at hn';refine⟨_,tU hAlt,?_⟩;simp only[List.length_append];by_cases hz0:news.length=0
     ·exact .inl ⟨by omega,by rw[yU]⟩
     ·exact .inr ⟨by omega,λh=>by rw[hmp]at h;cases h⟩
    ·exact⟨n',by rw[oQ e];exact hn',.inl ⟨rfl,wX e⟩⟩
   rw[kS _ _ _ _ hfit];simp only at hq;by_cases hql:q<cells.length
   ·rw[List.getElem?_append_left hql]at hq
    rw[if_neg (by omega)];obtain⟨v',g3,g4⟩:=k5 q v hq;rw[hbase,Nat.zero_add]at g3;exact⟨v',g3,g4.mono hext⟩
   ·rw[List.getElem?_append_right (by omega)]at hq
    obtain⟨v',g3,g4⟩:=hus.get _ v hq;have hlt:=(Array.getElem?_eq_some_iff.1 g3).1;simp only[List.size_toArray]at hlt;refine⟨v',?_,g4.mono hext⟩;rw[if_pos (by omega),hfull,<-hn];simpa using g3
 ·have hrun:=run_append_grow (P:=P) w T o.type E i z hT hi e1 ⟨(φ A).b,0,none⟩ len cap olds hol (λj v h=>hocell j v h) _ m cap2 us hul hucell (by omega)
   (by unfold maxLen at h63;omega) (growslice_fits (by omega) hb)
  have hge:len+m<=grownCap w (len+m) cap E:=grownCap_ge w _ _ _;have hcs:(olds.toArray++us.toArray++Builtin.zeroCells z.cells (grownCap w (len+m) cap E-(len+m))).size=grownCap w (len+m) cap E*i.size:=by
   simp only[Array.size_append,List.size_toArray,size_zeroCells,hzs,hol,hul,<-Nat.add_mul]
   congr 1;omega
  have hle:cells.length+news.length<=grownCap w (len+m) cap E*i.size:=by
   rw[hl,hn,<-hfull,<-Nat.add_mul];exact Nat.mul_le_mul_right _ hge
  have key:=dU (w':=w.drew.alloc (.cells (olds.toArray++us.toArray++Builtin.zeroCells z.cells (grownCap w (len+m) cap E-(len+m))) E)) (g':=⟨cells++news,false⟩)
   (l':=⟨w.heap.size,0,grownCap w (len+m) cap E*i.size,false⟩) (T:=E) (fz:=(0,0)) r hA rfl rfl rfl rfl (by simp) (λk hk _=>by exact heap_alloc_old w.drew (.cells (olds.toArray++us.toArray++Builtin.zeroCells z.cells (grownCap w (len+m) cap E-(len+m))) E) hk) (.inr (Nat.le_refl _)) rfl rfl hmp
   (heap_alloc_new w.drew _) hcs (by simp only[List.length_append];rw[hcs];exact hle) (λi _ h=>by simp at h) (by
    refine .inr ?_;simp only[List.length_append];have:0<m*i.size:=Nat.mul_pos (by omega) hs;omega) (λq v hq=>?_)
  ·refine⟨_,.slice (some ⟨w.heap.size,0,none⟩) (len+m) (grownCap w (len+m) cap E),_,key.1,key.2,?_,tB ho (by rw[hu,hu2];exact hrun)⟩
   refine .slc _ _ _ (n+m*i.size) _ _ _ _ ?_ (Nat.le_refl _) hge (grownCap_le_maxLen w _ _ _ h63) (λ_=>⟨by rw[yU],λ_=>by rw[yU];simp,by rw[yU]⟩);rw[tU hAlt];simp[hn,hl]
  ·have hext:Ext φ (lens H) (upd φ A ⟨w.heap.size,0,grownCap w (len+m) cap E*i.size,false⟩) (lens (H.set A (some ⟨cells++news,false⟩))):=by
    refine⟨λA' n' hn'=>?_,λ_ h=>h⟩;by_cases e:A'=A
    ·subst e
     rw[wH hA]at hn';simp only[Option.some.injEq]at hn';refine⟨_,tU hAlt,.inr ⟨?_,λh=>by rw[hmp]at h;cases h⟩⟩;simp only[List.length_append];have:0<m*i.size:=Nat.mul_pos (by omega) hs;omega
    ·exact⟨n',by rw[oQ e];exact hn',.inl ⟨rfl,wX e⟩⟩
   simp only at hq;have hql:q<cells.length+news.length:=by have:=(List.getElem?_eq_some_iff.1 hq).1;simpa using this
   rw[Array.getElem?_append_left (by simp;omega)];rcases Nat.lt_or_ge q cells.length with h'|h'
   ·rw[List.getElem?_append_left h']at hq
    obtain⟨v',g3,g4⟩:=hold.get q v hq;refine⟨v',?_,g4.mono hext⟩;rw[Array.getElem?_append_left (by have:=hold.size;omega)];exact g3
   ·rw[List.getElem?_append_right h']at hq
    obtain⟨v',g3,g4⟩:=hus.get _ v hq;refine⟨v',?_,g4.mono hext⟩;rw[Array.getElem?_append_right (by have:=hold.size;omega)];have:=hold.size;rw[this];exact g3

theorem zLe (T:TypeId)(x y:Operand){A2 off2 n2 m fl2 E s b:Nat}{z:Value}{news:List Value}{g2:Blk}
  (ho:o.op=.call { callee:=.builtin .append,args:=#[x,y],argTypes:=#[T,T] }) (hx:ev a x=some (.slice none 0 0)) (hy:ev a y=some (gsl A2 off2 n2 m fl2))
  (hT:P.underlying T=some (.slice E)) (hI:yC P E=some (some z,s,b)) (hzs:z.cells.size=s) (hs:0<s) (hA2:H[A2]?=some (some g2)) (hn2:g2.cells.length=n2)
  (hl:news.length=m*s) (hc:∀(i:Nat) v,news[i]?=some v->g2.cells[off2+i]?=some v)
  (hm:0<m) (hb:m*b<=281474976710656) (h63:m<=maxLen)
  {A0:Nat} {H':zI} (hpl:Place H A0 H' ⟨news,false⟩):xG P N o a H (gsl A0 0 (m*s) m s) H':=by
 refine qI (λB0 w0 φ w ac r hf=>?_);obtain⟨cap2,hu2,_,_,_,hmp2⟩:=uV r hA2 hn2 (zN hf hy);have hu:ac.eval x=.slice none 0 0:=Val.det rfl (zN hf hx);obtain⟨us,hus,hucell⟩:=rI r hA2 hmp2 off2 hc;obtain⟨i,hi,e1,e2,e3⟩:=qN hI;subst e2 e3;have hul:us.length=m*i.size:=by have:=hus.size;simp at this;omega
 have hrun:=run_append_nil (P:=P) w T o.type E i z hT hi e1 _ m cap2 us hul hucell hm (by unfold maxLen at h63;omega) hb;have hge:m<=grownCap w m 0 E:=grownCap_ge w _ _ _;have hcs:(us.toArray++Builtin.zeroCells z.cells (grownCap w m 0 E-m)).size=grownCap w m 0 E*i.size:=by
  simp only[Array.size_append,List.size_toArray,size_zeroCells,hzs,hul,<-Nat.add_mul]
  congr 1;omega
 obtain⟨g1,g2⟩:=pY (w':=w.drew.alloc (.cells (us.toArray++Builtin.zeroCells z.cells (grownCap w m 0 E-m)) E)) r (ro:=false) (fz:=(0,0)) hpl hus rfl rfl rfl rfl
  (by rw[hcs,List.size_toArray,hul];exact Nat.mul_le_mul_right _ hge) (λq hq=>by rw[Array.getElem?_append_left hq]) (λi _ h=>by simp at h)
 refine⟨_,.slice (some ⟨w.heap.size,0,none⟩) m (grownCap w m 0 E),_,g1,g2,?_,tB ho (by rw[hu,hu2];exact hrun)⟩;refine .slc _ _ _ (m*i.size) _ _ _ _ ?_ (Nat.le_refl _) hge (grownCap_le_maxLen w _ _ _ h63) (λ_=>⟨by rw[yU],λ_=>by rw[yU];simp[hcs],by rw[yU]⟩);rw[hpl.lens];simp[hl]

theorem zKo (T:TypeId)(x lo hi:Operand){A off n len fl E s b:Nat}{z:Option Value}{j k:IntKind}{i h:Int}(ho:o.op=.slice T x (some lo) (some hi) none)(hx:ev a x=some (gsl A off n len fl))
  (hlo:ev a lo=some (.int j i)) (hhi:ev a hi=some (.int k h)) (hT:P.underlying T=some (.slice E)) (hI:yC P E=some (z,s,b)) (h1:0<=i/\i<=h/\h<=len) (h2:i<h\/i=0):zR P N o a H (gsl A (off+i.toNat*s) n (h-i).toNat 0):=by
 refine⟨λB0 w0 φ w ac r hf=>?_⟩;have hu:=zN hf hx;have e2:=(zN hf hlo).scalar rfl;have e3:=(zN hf hhi).scalar rfl;generalize hv:ac.eval x=u at hu;cases hu with
 |slc _ _ _ m _ _ cap c hL hle hc hm hh =>
  refine⟨.slice (some (c.add (i.toNat*s))) (h.toNat-i.toNat) (cap-i.toNat),?_,λw _=>?_⟩
  ·rw[show h.toNat-i.toNat=(h-i).toNat from by omega]
   exact .slc _ _ _ m _ _ _ _ hL hle (by omega) (by omega) (λe=>⟨by rw[(hh e).1,tV,Nat.add_assoc],λq=>absurd rfl q,(hh e).2.2⟩)
  ·unfold execOp
   simp only[ho,hv,e2,e3,Instr.sliceAt,Instr.slice,Option.map_some,Option.map_none,Sem.run_bind,run_underlying hT,Result.andThen_ok,Instr.sliceBounds,Instr.sliceBound,asIntOf,Sem.run_pure,
    Sem.run_ite,if_pos (show 0<=h/\h<=(cap:Int)from⟨by omega,by omega⟩),if_pos (show 0<=i/\i<=(h.toNat:Int)from⟨h1.1,by omega⟩),wV hI]
   congr 3
   split
   ·rename_i he
    have hi0:i.toNat=0:=by omega
    rw[hi0,Nat.zero_mul];simp[Addr.add]
   ·rfl

theorem zLo (T:TypeId)(x lo:Operand){A off n len fl E s b:Nat}{z:Option Value}{j:IntKind}{i:Int}(ho:o.op=.slice T x (some lo) none none)(hx:ev a x=some (gsl A off n len fl))
  (hlo:ev a lo=some (.int j i)) (hT:P.underlying T=some (.slice E)) (hI:yC P E=some (z,s,b)) (h1:0<=i/\i<=len) (h2:i<len\/i=0):zR P N o a H (gsl A (off+i.toNat*s) n (len-i.toNat) 0):=by
 refine⟨λB0 w0 φ w ac r hf=>?_⟩;have hu:=zN hf hx;have e2:=(zN hf hlo).scalar rfl;generalize hv:ac.eval x=u at hu;cases hu with
 |slc _ _ _ m _ _ cap c hL hle hc hm hh =>
  refine⟨.slice (some (c.add (i.toNat*s))) (len-i.toNat) (cap-i.toNat),?_,λw _=>?_⟩
  ·exact .slc _ _ _ m _ _ _ _ hL hle (by omega) (by omega) (λe=>⟨by rw[(hh e).1,tV,Nat.add_assoc],λq=>absurd rfl q,(hh e).2.2⟩)
  ·unfold execOp
   simp only[ho,hv,e2,Instr.sliceAt,Instr.slice,Option.map_some,Option.map_none,Sem.run_bind,run_underlying hT,Result.andThen_ok,Instr.sliceBounds,Instr.sliceBound,asIntOf,Sem.run_pure,
    Sem.run_ite,if_pos (show 0<=i/\i<=(len:Int)from⟨h1.1,by omega⟩),wV hI]
   congr 3
   split
   ·rename_i he
    have hi0:i.toNat=0:=by omega
    rw[hi0,Nat.zero_mul];simp[Addr.add]
   ·rfl

theorem zLy (T:TypeId)(x hi:Operand){A off n len fl E s b:Nat}{z:Option Value}{k:IntKind}{h:Int}(ho:o.op=.slice T x none (some hi) none)(hx:ev a x=some (gsl A off n len fl))
  (hhi:ev a hi=some (.int k h)) (hT:P.underlying T=some (.slice E)) (hI:yC P E=some (z,s,b)) (h1:0<=h/\h<=len):zR P N o a H (gsl A off n h.toNat 0):=by
 refine⟨λB0 w0 φ w ac r hf=>?_⟩;have hu:=zN hf hx;have e3:=(zN hf hhi).scalar rfl;generalize hv:ac.eval x=u at hu;cases hu with
 |slc _ _ _ m _ _ cap c hL hle hc hm hh =>
  refine⟨.slice (some c) h.toNat cap,.slc _ _ _ m _ _ _ _ hL hle (by omega) (by omega) (λe=>⟨(hh e).1,λq=>absurd rfl q,(hh e).2.2⟩),λw _=>?_⟩;unfold execOp;simp only[ho,hv,e3,Instr.sliceAt,Instr.slice,Option.map_some,Option.map_none,Sem.run_bind,run_underlying hT,Result.andThen_ok,Instr.sliceBounds,Instr.sliceBound,asIntOf,Sem.run_pure,
   Sem.run_ite,if_pos (show 0<=h/\h<=(cap:Int)from⟨by omega,by omega⟩),wV hI,Nat.zero_mul]
  simp[Addr.add]

theorem zMy (T:TypeId)(x lo:Operand){A off n len fl E s b:Nat}{z:Option Value}{j:IntKind}{i:Int}(ho:o.op=.slice T x (some lo) none none)(hx:ev a x=some (gsl A off n len fl))
  (hlo:ev a lo=some (.int j i)) (hT:P.underlying T=some (.slice E)) (hI:yC P E=some (z,s,b)) (h1:i=len):zR P N o a H iL:=by
 refine⟨λB0 w0 φ w ac r hf=>?_⟩;have hu:=zN hf hx;have e2:=(zN hf hlo).scalar rfl;generalize hv:ac.eval x=u at hu;cases hu with
 |slc _ _ _ m _ _ cap c hL hle hc hm hh =>
  refine⟨.slice (some (if cap=i.toNat then c else c.add (i.toNat*s))) 0 (cap-i.toNat),.sdead _ _ (by omega),λw _=>?_⟩;unfold execOp;simp only[ho,hv,e2,Instr.sliceAt,Instr.slice,Option.map_some,Option.map_none,Sem.run_bind,run_underlying hT,Result.andThen_ok,Instr.sliceBounds,Instr.sliceBound,asIntOf,Sem.run_pure,
   Sem.run_ite,if_pos (show 0<=i/\i<=(len:Int)from⟨by omega,by omega⟩),wV hI]
  congr 3
  ·split <;> rfl
  ·omega

theorem yFx (T:TypeId)(x:Operand){A off n len E s b:Nat}{z:Option Value}(ho:o.op=.slice T x none none none)(hx:ev a x=some (zG A off n))
  (hT:P.underlying T=some (.array len E)) (hI:yC P E=some (z,s,b)) (hm:len<=maxLen):zR P N o a H (gsl A off n len 0):=by
 refine⟨λB0 w0 φ w ac r hf=>?_⟩;have hu:=zN hf hx;generalize hv:ac.eval x=u at hu;cases hu with
 |ptr _ _ _ q c hL hle hh =>
  refine⟨.slice (some c) len len,.slc _ _ _ q _ _ _ _ hL hle (Nat.le_refl _) hm (λe=>⟨(hh e).1,λq=>absurd rfl q,(hh e).2⟩),λw _=>?_⟩;unfold execOp;simp only[ho,hv,Instr.sliceAt,Option.map_none,Sem.run_bind,run_underlying hT,Result.andThen_ok,Instr.sureAddr,Instr.sliceBounds,Sem.run_pure,wV hI,Nat.zero_mul];simp[Addr.add]

theorem yDm (T:TypeId)(x y:Operand){A off n len E s b:Nat}{z:Option Value}{k:IntKind}{h:Int}(ho:o.op=.slice T x none (some y) none)(hx:ev a x=some (zG A off n))(hy:ev a y=some (.int k h))
  (hT:P.underlying T=some (.array len E)) (hI:yC P E=some (z,s,b)) (h1:0<=h/\h<=len) (hm:len<=maxLen):zR P N o a H (gsl A off n h.toNat 0):=by
 refine⟨λB0 w0 φ w ac r hf=>?_⟩;have hu:=zN hf hx;have e3:=(zN hf hy).scalar rfl;generalize hv:ac.eval x=u at hu;cases hu with
 |ptr _ _ _ q c hL hle hh =>
  refine⟨.slice (some c) h.toNat len,.slc _ _ _ q _ _ _ _ hL hle (by omega) hm (λe=>⟨(hh e).1,λq=>absurd rfl q,(hh e).2⟩),λw _=>?_⟩;unfold execOp;simp only[ho,hv,e3,Instr.sliceAt,Option.map_none,Option.map_some,Sem.run_bind,run_underlying hT,Result.andThen_ok,Instr.sureAddr,Instr.sliceBounds,Instr.sliceBound,asIntOf,Sem.run_pure,
   Sem.run_ite,if_pos h1,wV hI,Nat.zero_mul]
  simp[Addr.add]

abbrev lF (b:UInt8):Value:=.int .u8 b.toNat
abbrev zS (l:List UInt8):List Value:=l.map lF

theorem yIo (l:List UInt8)(r:ByteArray):(l.map λb=>(b.toNat:Int)).foldl (λr n=>r.push (UInt8.ofNat n.toNat)) r=⟨⟨r.data.toList++l⟩⟩:=by
 induction l generalizing r with
 |nil=>cases r;simp
 |cons b l ih =>
  simp only[List.map_cons,List.foldl_cons];rw[ih]
  congr 2
  show(r.data.push _).toList++l=_;simp

theorem zSk (T U:TypeId)(x:Operand){A off n len fl E:Nat}{g:Blk}{l:List UInt8}(ho:o.op=.convert T U x)(hx:ev a x=some (gsl A off n len fl))
  (hT:P.underlying T=some (.slice E)) (hE:P.underlying E=some (.int .u8)) (hU:P.underlying U=some .string) (hA:H[A]?=some (some g)) (hn:g.cells.length=n)
  (hl:l.length=len) (hc:∀(i:Nat) v,(zS l)[i]?=some v->g.cells[off+i]?=some v):zR P N o a H (S l):=by
 refine⟨λB0 w0 φ w ac r hf=>?_⟩;obtain⟨cap,hu,hlc,hcm,hsz,hmp⟩:=uV r hA hn (zN hf hx);obtain⟨us,hus,hucell⟩:=rI r hA hmp off hc;have hus':us=zS l:=by
  apply List.ext_getElem?;intro i;cases hb:(zS l)[i]? with
  |none=>have:=hus.size;simp at this hb;simp;omega
  |some v =>
   obtain⟨v',g1,g2⟩:=hus.get i v hb;have hv:scalar v=true:=by
    have:=(List.getElem?_eq_some_iff.1 hb).2;simp at this;rw[<-this];rfl
   rw[g2.scalar hv]at g1;simpa using g1
 subst hus';refine⟨S l,.str _,λw1 hb=>?_⟩;have hload:=run_loadCells_list (P:=P) w1 _ _ (zDa r hA _ hb hucell);rw[List.length_map,hl]at hload;have hrun:=run_bytesToString (P:=P) w1 _ len cap (l.map λb=>(b.toNat:Int)) (by rw[hload,List.map_map];rfl);rw[yIo]at hrun;unfold execOp;simp only[ho,hu,convert,Sem.run_bind,run_underlying hT,run_underlying hU,run_underlying hE,Result.andThen_ok,hrun,Sem.run_pure];rfl

theorem yQf (T U:TypeId)(x:Operand){E:Nat}(ho:o.op=.convert T U x)(hx:ev a x=some (.slice none 0 0))
  (hT:P.underlying T=some (.slice E)) (hE:P.underlying E=some (.int .u8)) (hU:P.underlying U=some .string):zR P N o a H (S []):=by
 refine⟨λB0 w0 φ w ac r hf=>?_⟩;have hu:ac.eval x=.slice none 0 0:=Val.det rfl (zN hf hx);refine⟨S [],.str _,λw _=>?_⟩;unfold execOp;simp only[ho,hu,convert,Sem.run_bind,run_underlying hT,run_underlying hU,run_underlying hE,Result.andThen_ok,Conv.bytesToString,Sem.run_pure];rfl

theorem zNh (T U:TypeId)(x:Operand){E:Nat}{l:List UInt8}(ho:o.op=.convert T U x)(hx:ev a x=some (S l))
  (hT:P.underlying T=some .string) (hU:P.underlying U=some (.slice E)) (hE:P.underlying E=some (.int .u8)) (h63:l.length<=maxLen)
  {A0:Nat} {H':zI} (hpl:Place H A0 H' ⟨zS l,false⟩):xG P N o a H (gsl A0 0 l.length l.length 1) H':=by
 refine qI (λB0 w0 φ w ac r hf=>?_);have hu:=(zN hf hx).scalar rfl;have hrun:=run_bytes_of_string (P:=P) w T U E ⟨⟨l⟩⟩ hT hU hE;have hs:(⟨⟨l⟩⟩:ByteArray).size=l.length:=rfl;rw[hs]at hrun;have hge:l.length<=grownCap w l.length 0 E:=grownCap_ge w _ _ _;have hrow:bytesRow ⟨⟨l⟩⟩ (grownCap w l.length 0 E)=(zS l).toArray++Array.replicate (grownCap w l.length 0 E-l.length) (.int .u8 0):=by
  unfold bytesRow;rw[hs]
  congr 1
  simp
 have hsz:(bytesRow ⟨⟨l⟩⟩ (grownCap w l.length 0 E)).size=grownCap w l.length 0 E:=by rw[hrow];simp;omega
 have hv:yM φ (lens H) (zS l) (zS l).toArray:=⟨by simp,λi v hi=>⟨v,by simpa using hi,by
  have:=(List.getElem?_eq_some_iff.1 hi).2;simp at this;rw[<-this];exact .int _ _⟩⟩
 obtain⟨g1,g2⟩:=pY (w':=w.drew.alloc (.cells (bytesRow ⟨⟨l⟩⟩ (grownCap w l.length 0 E)) E ((bytesRow ⟨⟨l⟩⟩ (grownCap w l.length 0 E)).size,(bytesRow ⟨⟨l⟩⟩ (grownCap w l.length 0 E)).size+1))) r (ro:=false) hpl hv rfl rfl rfl rfl
  (by rw[hsz];simpa using hge) (λq hq=>by rw[hrow,Array.getElem?_append_left hq]) (λq hq h=>by simp only at h;omega)
 refine⟨_,.slice (some ⟨w.heap.size,0,none⟩) l.length (grownCap w l.length 0 E),_,g1,g2,?_,?_⟩
 ·refine .slc _ _ _ l.length _ _ _ _ ?_ (Nat.le_refl _) hge (grownCap_le_maxLen w _ _ _ h63) (λ_=>⟨by rw[yU],λ_=>by rw[yU];simp[hsz],by rw[yU]⟩)
  rw[hpl.lens];simp
 ·unfold execOp
  simp only[ho,hu,Sem.run_bind,hrun,Result.andThen_ok,Sem.run_pure]

end

theorem Rel.later {B0:Nat}{w0:World}{φ:Fi}{H:zI}{w w1:World}(r:Rel B0 w0 φ H w)(hb:Below w.heap.size w w1):Rel B0 w0 φ H w1:=by
 refine⟨r.below.trans (hb.mono (Nat.le_trans r.b0 r.below.size)),r.b0,λA g hA=>?_,r.own,r.inj,r.gw,λD hD=>⟨(hb.block D (Array.getElem?_eq_some_iff.1 (r.mks D hD).1).1).trans (r.mks D hD).1,(r.mks D hD).2⟩⟩;obtain⟨o,c,h1,h2⟩:=(r.blk A g hA).any;exact⟨o,c,by rw[hb.block _ (r.lt hA)];exact h1,h2⟩

def Fi.bare (φ:Fi):Fi:=⟨φ.f,[]⟩
theorem zIm {φ:Fi}{L:zP}:uK φ L φ.bare L:=λ_ n h=>⟨n,h,.inl ⟨rfl,rfl⟩⟩
theorem bC {φ:Fi}{m:List Nat}{L:zP}:uK φ L ⟨φ.f,m⟩ L:=λ_ n h=>⟨n,h,.inl ⟨rfl,rfl⟩⟩
theorem yM.bare {φ:Fi}{L:zP}{as0:List Value}{vs:Array Value}(h:yM φ L as0 vs):yM φ.bare L as0 vs:=⟨h.size,λi v hi=>let ⟨v',h1,h2⟩:=h.get i v hi;⟨v',h1,h2.monoF zIm⟩⟩
def Blk.lock (g:Blk):Blk:=⟨g.cells,true⟩
def lock (H:zI):zI:=H.map (Option.map Blk.lock)
theorem kC (H:zI):lens (lock H)=lens H:=by
 funext A
 simp only[lens,lock,List.getElem?_map];cases H[A]? with
 |none=>rfl
 |some x=>cases x <;> rfl
theorem zYx {H:zI}{A:Nat}{g:Blk}(h:H[A]?=some (some g)):(lock H)[A]?=some (some g.lock):=by simp[lock,h]

theorem Rel.locked {B0:Nat}{w0:World}{φ:Fi}{H:zI}{w:World}(r:Rel B0 w0 φ H w):Rel w.heap.size w φ.bare (lock H) w:=by
 have key:∀(A:Nat) (g:Blk),(lock H)[A]?=some (some g)->g.ro=true/\∃g',H[A]?=some (some g')/\g.cells=g'.cells:=by
  intro A g hA;simp only[lock,List.getElem?_map]at hA;cases h:H[A]? with
  |none=>rw[h]at hA;cases hA
  |some x =>
   cases x with
   |none=>rw[h]at hA;cases hA
   |some g' =>
    rw[h]at hA;simp only[Option.map_some,Option.some.injEq]at hA;subst hA;exact⟨rfl,g',rfl,rfl⟩
 refine⟨Below.refl _ _,Nat.le_refl _,λA g hA=>?_,λA g hA hro=>?_,λA A' g _ hA hro=>?_,r.gw.on r.below (Nat.le_trans r.b0 r.below.size),λD hD=>by cases hD⟩
 ·obtain⟨hro,g',h1,h2⟩:=key A g hA
  obtain⟨o,c,k1,k2,k3,k5⟩:=(r.blk A g' h1).any;refine⟨o,c,k1,?_,by rw[h2];exact k3,by rw[h2,kC];exact λi v hi=>let ⟨v',m1,m2⟩:=k5 i v hi;⟨v',m1,m2.monoF zIm⟩⟩;cases k2 with
  |cells hm hs hf ht=>exact .cells hm hs (λh=>by rw[hro]at h;cases h) λt h=>by rw[hro]at h;cases h
  |map hm hb hl hz hn=>exact .map hm hb (by rw[h2];exact hl) hz hn
  |loop hm hb hz hd ht=>exact .loop hm hb hz hd ht
  |siter hm hb hz=>exact .siter hm hb hz
  |miter hm hb hz=>exact .miter hm hb hz
  |bag hm hb hz hl hp hd hk=>exact .bag hm hb hz (by rw[h2];exact hl) hp hd hk
 ·rw[(key A g hA).1]at hro;cases hro
 ·rw[(key A g hA).1]at hro;cases hro

section
variable {P:Program} {N:Fr} {ops:Array Oper} {rest:List Oper} {o:Oper} {a:AF} {H:zI}

end

def xI :List Value->List Value->Bool
 |.int _ a::r,.int _ b::s=>decide (a=b) && xI r s
 |.bool a::r,.bool b::s=>decide (a=b) && xI r s
 |.string a::r,.string b::s=>decide (a.data.toList=b.data.toList) && xI r s
 |_,_=>true
def yW :List Value->List Value->Bool
 |[],[]=>true
 |.int k _::r,.int k' _::s=>decide (k=k') && yW r s
 |.bool _::r,.bool _::s=>yW r s
 |.string _::r,.string _::s=>yW r s
 |_,_=>false

def sW (P:Program)(T:TypeId)(n:Nat):Bool :=
 (match P.underlying T with|some (.struct _)=>true|_=>false) && decide ((P.fieldsOf T).toList.length=n) && !P.stoodInHeld T && !P.eqGuardType P.depth T &&
 (P.fieldsOf T).toList.zipIdx.all λ(f,i)=>f.name != "_" && f.offset == i &&
  (match P.underlying f.type with|some .bool|some (.int _)|some .string=>true|_=>false)

theorem zKl {P:Program}{w:World}(d:Nat)(xs ys:Array Value):∀(fs:List Field) (k:Nat),
  (fs.zipIdx k).all (λ(f,i)=>f.name != "_" && f.offset == i && (match P.underlying f.type with|some .bool|some (.int _)|some .string=>true|_=>false))=true ->
  xs.size=k+fs.length->ys.size=k+fs.length->yW (xs.toList.drop k) (ys.toList.drop k)=true ->
  (∀(i:Nat) (f:Field),fs[i]?=some f->∀u v,xs[k+i]?=some u->ys[k+i]?=some v->(match P.underlying f.type,u with|some .bool,.bool _=>true|some (.int _),.int _ _=>true|some .string,.string _=>true|_,_=>false)=true) ->
  (Op.eqFields (d+1) xs ys fs).run P w=.ok (xI (xs.toList.drop k) (ys.toList.drop k)) w
 |[],k,_,hx,hy,_,_=>by
  rw[List.drop_of_length_le (by simp;simp at hx;omega)];rfl
 |f::fs,k,hall,hx,hy,hlike,hty=>by
  simp only[List.length_cons]at hx hy;have hkx:k<xs.toList.length:=by simp;omega
  have hky:k<ys.toList.length:=by simp;omega
  have ex:xs.toList.drop k=xs[k]'(by simpa using hkx)::xs.toList.drop (k+1):=by rw[List.drop_eq_getElem_cons hkx];simp
  have ey:ys.toList.drop k=ys[k]'(by simpa using hky)::ys.toList.drop (k+1):=by rw[List.drop_eq_getElem_cons hky];simp
  simp only[List.zipIdx_cons,List.all_cons,Bool.and_eq_true,bne_iff_ne,ne_eq,beq_iff_eq]at hall;obtain⟨⟨⟨hname,hoff⟩,hT⟩,hrest⟩:=hall;have ih:=zKl (P:=P) (w:=w) d xs ys fs (k+1) hrest (by omega) (by omega);have gx:xs[k]?=some (xs[k]'(by simpa using hkx)):=by simp
  have gy:ys[k]?=some (ys[k]'(by simpa using hky)):=by simp
  have hty0:=hty 0 f rfl _ _ (by rw[Nat.add_zero];exact gx) (by rw[Nat.add_zero];exact gy);have hag:vM P f.type=some false:=by
   unfold vM
   revert hT
   cases P.underlying f.type with
   |none=>simp
   |some q=>cases q <;> simp
  unfold Op.eqFields;rw[if_pos hname];simp only[Sem.run_bind,part,pW hag,Result.andThen_ok,Bool.false_eq_true,if_false,hoff,gx,gy,Sem.run_pure];rw[ex,ey]at hlike ⊢;generalize xs[k]'(by simpa using hkx)=u at *;generalize ys[k]'(by simpa using hky)=v at *;have hty':∀(i:Nat) (f:Field),fs[i]?=some f->∀u v,xs[k+1+i]?=some u->ys[k+1+i]?=some v->(match P.underlying f.type,u with|some .bool,.bool _=>true|some (.int _),.int _ _=>true|some .string,.string _=>true|_,_=>false)=true :=
   λi f hf u v h1 h2=>hty (i+1) f (by simpa using hf) u v (by rw[show k+(i+1)=k+1+i from by omega];exact h1) (by rw[show k+(i+1)=k+1+i from by omega];exact h2)
  have fin:∀b:Bool,(Op.equalIn (d+1) f.type u v).run P w=.ok b w->yW (xs.toList.drop (k+1)) (ys.toList.drop (k+1))=true ->
    ((Op.equalIn (d+1) f.type u v).run P w).andThen (λr w=>(if(!r)=true then pure false else Op.eqFields (d+1) xs ys fs:Sem Bool).run P w)=.ok (b && xI (xs.toList.drop (k+1)) (ys.toList.drop (k+1))) w:=by
   intro b hb hl;rw[hb];cases b with
   |false=>simp
   |true=>simpa using ih hl hty'
  cases hu:P.underlying f.type with
  |none=>rw[hu]at hT;simp at hT
  |some q =>
   rw[hu]at hty0;cases u <;> cases v <;> (first|(simp[yW]at hlike;done)|skip) <;> cases q <;> (first|(simp at hty0;done)|skip)
   ·simp only[yW]at hlike
    simp only[xI];refine fin _ ?_ hlike;simp only[Op.equalIn,Sem.run_bind,run_underlying hu,Result.andThen_ok,Sem.run_pure,zCi]
   ·simp only[yW,Bool.and_eq_true,decide_eq_true_eq]at hlike
    simp only[xI];refine fin _ ?_ hlike.2;simp only[Op.equalIn,Sem.run_bind,run_underlying hu,Result.andThen_ok,if_pos hlike.1,Sem.run_pure];rfl
   ·simp only[yW]at hlike
    simp only[xI];refine fin _ ?_ hlike;simp only[Op.equalIn,Sem.run_bind,run_underlying hu,Result.andThen_ok,Sem.run_pure];rw[beq_toListBytes,ByteArray.toList_eq,ByteArray.toList_eq]
    congr 1
    rw[Bool.eq_iff_iff];simp

theorem zDp {P:Program}{T:TypeId}{xs ys:Array Value}{n:Nat}{w:World}(hT:sW P T n=true)(hx:xs.size=n)(hy:ys.size=n)(hl:yW xs.toList ys.toList=true)
  (hk:∀(i:Nat) (f:Field),(P.fieldsOf T).toList[i]?=some f->∀u v,xs[i]?=some u->ys[i]?=some v->(match P.underlying f.type,u with|some .bool,.bool _=>true|some (.int _),.int _ _=>true|some .string,.string _=>true|_,_=>false)=true) :
  (Op.equal T (.agg xs) (.agg ys)).run P w=.ok (xI xs.toList ys.toList) w:=by
 unfold sW at hT;simp only[Bool.and_eq_true,decide_eq_true_eq,Bool.not_eq_true']at hT;obtain⟨⟨⟨⟨h1,h2⟩,h3⟩,h4⟩,h5⟩:=hT;have hst:P.underlying T=some (.struct (P.fieldsOf T)):=by
  unfold Program.fieldsOf;cases hu:P.underlying T with
  |none=>rw[hu]at h1;simp at h1
  |some d=>rw[hu]at h1;cases d <;> first|rfl|(simp at h1)
 show(Op.equalIn (9999+1) T _ _).run P w=_;rw[run_equalIn_struct w 9999 T xs ys hst h3];have:=zKl (P:=P) (w:=w) 9998 xs ys (P.fieldsOf T).toList 0 h5 (by omega) (by omega) (by simpa using hl) (λi f hf u v hu hv=>hk i f hf u v (by simpa using hu) (by simpa using hv));simpa using this

section
variable {P:Program} {N:Fr} {o:Oper} {a:AF} {H:zI}

def uY (P:Program)(T:TypeId)(xs:List Value):Bool :=
 (P.fieldsOf T).toList.zipIdx.all λ(f,i)=>match P.underlying f.type,xs[i]? with
  |some .bool,some (.bool _)=>true|some (.int _),some (.int _ _)=>true|some .string,some (.string _)=>true|_,_=>false

theorem zRk {φ:Fi}{L:zP}:∀{xs ys:List Value},yW xs ys=true->∀{us:Array Value},yM φ L xs us->us=xs.toArray:=by
 intro xs
 induction xs with
 |nil=>intro ys _ us h;have:=h.size;simp at this;simpa using this
 |cons x r ih =>
  intro ys hl us h;obtain⟨u,g1,g2⟩:=h.get 0 x rfl;have hx:scalar x=true/\∃s,yW r s=true:=by
   cases ys with
   |nil=>cases x <;> simp[yW]at hl
   |cons y s =>
    cases x <;> cases y <;> (first|(simp[yW]at hl;done)|skip)
    ·exact⟨rfl,s,by simpa[yW]using hl⟩
    ·refine⟨rfl,s,?_⟩
     simp only[yW,Bool.and_eq_true]at hl;exact hl.2
    ·exact⟨rfl,s,by simpa[yW]using hl⟩
  obtain⟨hs,s,hr⟩:=hx;have hu:=g2.scalar hs;subst hu;have ht:us.toList.tail.toArray=r.toArray:=ih hr ⟨by have:=h.size;simp at this ⊢;omega,λi v hi=>by
   obtain⟨v',k1,k2⟩:=h.get (i+1) v (by simpa using hi);exact⟨v',by simpa using k1,k2⟩⟩
  apply Array.ext';have hne:us.toList≠[]:=by intro e;have:=h.size;simp[<-Array.length_toList,e]at this
  obtain⟨z,zs,hz⟩:=List.exists_cons_of_ne_nil hne;have e1:us[0]?=some z:=by rw[<-Array.getElem?_toList,hz];rfl
  rw[e1]at g1;rw[hz]at ht ⊢;simp at ht g1;simp[ht,g1]

theorem fJ {φ:Fi}{ac:Act}(hf:xA φ (lens H) N a ac){x:Operand}{xs ys:List Value}(hx:ev a x=some (.agg xs.toArray))(hl:yW xs ys=true):ac.eval x=.agg xs.toArray:=by
 obtain⟨us,h1,h2⟩:=oC (zN hf hx);rw[h1,zRk hl h2]

theorem zDv :∀{xs ys:List Value},yW xs ys=true->yW ys xs=true:=by
 intro xs
 induction xs with
 |nil=>intro ys h;cases ys with
  |nil=>rfl
  |cons y s=>simp[yW]at h
 |cons x r ih =>
  intro ys h;cases ys with
  |nil=>cases x <;> simp[yW]at h
  |cons y s =>
   cases x <;> cases y <;> (first|(simp[yW]at h;done)|skip)
   ·simp only[yW]at h ⊢;exact ih h
   ·simp only[yW,Bool.and_eq_true,decide_eq_true_eq]at h ⊢;exact⟨h.1.symm,ih h.2⟩
   ·simp only[yW]at h ⊢;exact ih h

theorem zIk {T:TypeId}{x y:Operand}{xs ys:Array Value}{n:Nat}{op:BinOp}{w:World}(hT:sW P T n=true):(eqGuard op T x y (.agg xs) (.agg ys)).run P w=.ok () w:=by
 unfold sW at hT;simp only[Bool.and_eq_true,Bool.not_eq_true']at hT;unfold eqGuard;cases op <;> simp[hT.1.2]

theorem zDz {T:TypeId}{xs:List Value}(hk:uY P T xs=true):∀(i:Nat) (f:Field),(P.fieldsOf T).toList[i]?=some f->∀u v:Value,xs.toArray[i]?=some u->(ys:Array Value)->ys[i]?=some v ->
  (match P.underlying f.type,u with|some .bool,.bool _=>true|some (.int _),.int _ _=>true|some .string,.string _=>true|_,_=>false)=true:=by
 intro i f hf u v hu ys hv;unfold uY at hk;have:=(List.all_eq_true.1 hk) (f,i) (by rw[List.mem_zipIdx_iff_getElem?];simpa using hf);simp only at this;have hu':xs[i]?=some u:=by simpa using hu
 rw[hu']at this;cases hq:P.underlying f.type with
 |none=>rw[hq]at this;simp at this
 |some q=>rw[hq]at this;cases q <;> cases u <;> simp at this ⊢

theorem yHu (T U:TypeId)(x y:Operand){n:Nat}{xs ys:List Value}(ho:o.op=.binOp .eql T x y U)(hx:ev a x=some (.agg xs.toArray))(hy:ev a y=some (.agg ys.toArray))
  (hT:sW P T n=true) (hn:xs.length=n) (hm:ys.length=n) (hl:yW xs ys=true) (hk:uY P T xs=true):zR P N o a H (.bool (decide (xI xs ys=true))):=by
 refine⟨λ_ _ φ w ac _ hf=>⟨_,.bool _,λw _=>?_⟩⟩;have e1:=fJ hf hx hl;have e2:=fJ hf hy (zDv hl);refine pZ ho (by rw[e1,e2];exact zIk hT) ?_;rw[e1,e2];have key:=zDp (P:=P) (xs:=xs.toArray) (ys:=ys.toArray) (w:=w) hT (by simpa using hn) (by simpa using hm) (by simpa using hl) (λi f hf u v hu hv=>zDz hk i f hf u v hu _ hv);simp only[binOp,Sem.run_bind,key,Result.andThen_ok,Sem.run_pure,Bool.decide_eq_true]
theorem zKv (T U:TypeId)(x y:Operand){n:Nat}{xs ys:List Value}(ho:o.op=.binOp .neq T x y U)(hx:ev a x=some (.agg xs.toArray))(hy:ev a y=some (.agg ys.toArray))
  (hT:sW P T n=true) (hn:xs.length=n) (hm:ys.length=n) (hl:yW xs ys=true) (hk:uY P T xs=true):zR P N o a H (.bool (decide (¬xI xs ys=true))):=by
 refine⟨λ_ _ φ w ac _ hf=>⟨_,.bool _,λw _=>?_⟩⟩;have e1:=fJ hf hx hl;have e2:=fJ hf hy (zDv hl);refine pZ ho (by rw[e1,e2];exact zIk hT) ?_;rw[e1,e2];have key:=zDp (P:=P) (xs:=xs.toArray) (ys:=ys.toArray) (w:=w) hT (by simpa using hn) (by simpa using hm) (by simpa using hl) (λi f hf u v hu hv=>zDz hk i f hf u v hu _ hv);simp only[binOp,Sem.run_bind,key,Result.andThen_ok,Sem.run_pure];simp
end

section
variable {P:Program} {N:Fr} {a:AF} {H:zI}

def vY (k:Nat):List Value->AF
 |[]=>[]
 |v::r=>(k,v)::vY (k+1) r

theorem yPj :∀(as0:List Value) (k t:Nat) (v:Value),get (vY k as0) t=some v->k<=t/\as0[t-k]?=some v:=by
 intro as0
 induction as0 with
 |nil=>intro k t v h;cases h
 |cons u r ih =>
  intro k t v h;rcases mF h with⟨rfl,rfl⟩|⟨hne,h⟩
  ·exact⟨Nat.le_refl _,by simp⟩
  ·obtain⟨h1,h2⟩:=ih (k+1) t v h
   refine⟨by omega,?_⟩;rw[show t-k=(t-(k+1))+1 from by omega];simpa using h2

theorem zTv {φ:Fi}{L:zP}{as0:List Value}{vs:Array Value}(h:yM φ L as0 vs){n:Nat}{m:N0}(hN:as0.length<=n) :
  xA φ L ⟨n,m⟩ (vY 0 as0) { tmps:=vs++Array.replicate (n-vs.size) undef,defers:=[] }:=by
 refine⟨by simp[h.size];omega,λt v ht=>?_⟩;obtain⟨_,h2⟩:=yPj as0 0 t v ht;obtain⟨v',h3,h4⟩:=h.get t v h2;refine⟨v',?_,h4⟩;rw[Array.getElem?_append_left]
 ·exact h3
 ·exact(Array.getElem?_eq_some_iff.1 h3).1


def tF :List Value->Value
 |[v]=>v
 |vs=>.tuple vs.toArray


def eH (tmps:Array Value):ResultVar->Sem Value
 |.tmp t=>pure (tmps.getD t undef)
 |.cell a t=>do loadVar t (<-asAddr (tmps.getD a undef))

theorem yJo (fn:Func)(tmps:Array Value):results fn tmps=(do let vs <-fn.results.mapM (eH tmps);pure (if h:vs.size=1 then vs[0] else .tuple vs)):=by
 unfold results
 congr 1


theorem yNs {φ:Fi}{L:zP}{vs us:List Value}(h:yM φ L vs us.toArray) :
  Val φ L (tF vs) (if h:us.toArray.size=1 then us.toArray[0] else .tuple us.toArray):=by
 have hs:=h.size;simp at hs;by_cases h1:us.length=1
 ·rw[dif_pos (by simpa using h1)]
  obtain⟨u,rfl⟩:=List.length_eq_one_iff.1 h1;obtain⟨v,rfl⟩:=List.length_eq_one_iff.1 (hs.symm.trans h1);obtain⟨v',g1,g2⟩:=h.get 0 v rfl;simp at g1;subst g1;exact g2
 ·rw[dif_neg (by simpa using h1)]
  have hv:tF vs=.tuple vs.toArray:=by
   match vs,hs,h1 with
   |[],_,_=>rfl
   |[_],hs,h1=>simp at hs;omega
   |_::_::_,_,_=>rfl
  rw[hv];refine .tuple _ _ (by simp[hs]) λi hi hi'=>?_;obtain⟨v',g1,g2⟩:=h.get i (vs.toArray[i]) (by simp);simp at g1;have:us.toArray[i]=v':=by
   simp;have:=(List.getElem?_eq_some_iff.1 g1).2;exact this
  rw[this];exact g2

def oD (P:Program)(a:AF)(H:zI):List ResultVar->List Value->Prop
 |[],[]=>True
 |.tmp t::r,v::vs=>get a t=some v/\oD P a H r vs
 |.cell b T::r,v::vs=>(∃A off n g,get a b=some (zG A off n)/\H[A]?=some (some g)/\g.cells.length=n /\
   ((∃z s by',vM P T=some true/\yC P T=some (z,s,by')/\off+s<=g.cells.length/\v=.agg ((g.cells.drop off).take s).toArray) \/
    (vM P T=some false/\g.cells[off]?=some v)))/\oD P a H r vs
 |_,_=>False

theorem yMb {B0:Nat}{w0:World}{φ:Fi}{w:World}{ac:Act}(r:Rel B0 w0 φ H w)(hf:xA φ (lens H) N a ac):∀{l:List ResultVar} {vs:List Value},oD P a H l vs ->
  ∃us:List Value,Sem.run P (l.mapM (eH ac.tmps)) w=.ok us w/\yM φ (lens H) vs us.toArray:=by
 intro l;have cons:∀{v u:Value} {vs us:List Value},Val φ (lens H) v u->yM φ (lens H) vs us.toArray->yM φ (lens H) (v::vs) (u::us).toArray:=by
  intro v u vs us h1 h2;refine⟨by have:=h2.size;simp at this ⊢;exact this,λi x hi=>?_⟩;cases i with
  |zero=>simp only[List.getElem?_cons_zero,Option.some.injEq]at hi;subst hi;exact⟨u,by simp,h1⟩
  |succ i =>
   obtain⟨v',g1,g2⟩:=h2.get i x (by simpa using hi);exact⟨v',by simpa using g1,g2⟩
 induction l with
 |nil =>
  intro vs h;cases vs with
  |nil=>exact⟨[],by simp,rfl,λi v hi=>by simp at hi⟩
  |cons v vs=>exact h.elim
 |cons x l ih =>
  intro vs h;cases vs with
  |nil=>cases x <;> exact h.elim
  |cons v vs =>
   cases x with
   |tmp t =>
    obtain⟨h1,h2⟩:=h;obtain⟨us,h3,h4⟩:=ih h2;obtain⟨u,h5,h6⟩:=hf.slot t v h1;refine⟨u::us,?_,cons h6 h4⟩;rw[List.mapM_cons];simp only[eH,Sem.run_bind,Sem.run_pure,Result.andThen_ok,h3,Array.getD_eq_getD_getElem?,h5,Option.getD_some]
   |cell b T =>
    obtain⟨⟨A,off,n,g,h1,hA,hn,hv⟩,h2⟩:=h;obtain⟨us,h3,h4⟩:=ih h2;obtain⟨p,h5,h6⟩:=hf.slot b _ h1;obtain⟨hp,hmp⟩:=uP r hA hn h6;subst hp;rcases hv with⟨z,s,by',e1,e2,e3,rfl⟩|⟨e1,e2⟩
    ·obtain⟨cs,g1,g2⟩:=rI r hA hmp off (vs:=(g.cells.drop off).take s) (λi v hi=>by
      rw[List.getElem?_take]at hi;split at hi
      ·rw[List.getElem?_drop]at hi;exact hi
      ·cases hi)
     have hl:cs.length=s:=by have:=g1.size;simp at this;omega
     have hload:=run_loadCells_list (P:=P) w _ cs g2;rw[hl]at hload;refine⟨.agg cs.toArray::us,?_,cons (cK g1) h4⟩;rw[List.mapM_cons];simp only[eH,Sem.run_bind,Sem.run_pure,Result.andThen_ok,h3,Array.getD_eq_getD_getElem?,h5,Option.getD_some,asAddr,loadVar,pW e1,if_true,wV e2,hload]
    ·obtain⟨cs,g1,g2⟩:=rI r hA hmp off (vs:=[v]) (λi u hi=>by
      cases i with
      |zero=>simp at hi;subst hi;simpa using e2
      |succ i=>simp at hi)
     obtain⟨v',g3,g4⟩:=g1.get 0 v rfl;have g5:=g2 0 v' (by simpa using g3);rw[tV,Nat.add_zero]at g5;refine⟨v'::us,?_,cons g4 h4⟩;rw[List.mapM_cons];simp only[eH,Sem.run_bind,Sem.run_pure,Result.andThen_ok,h3,Array.getD_eq_getD_getElem?,h5,Option.getD_some,asAddr,loadVar,pW e1,Bool.false_eq_true,if_false,run_load,g5]

def bT (P:Program)(N:Fr)(fn:Func)(R:Value->zI->Prop):xR
 |.normal,a,H|.ret,a,H=>∃vs,oD P a H fn.results.toList vs/\∃vs2 H2,oX ⟨vs.length,N.n0⟩ (vY 0 vs) H (vY 0 vs2) H2/\vs2.length=vs.length/\R (tF vs2) H2
 |_,_,_=>False

theorem yHx {φ:Fi}{L:zP}{vs:List Value}{us:Array Value}{n:Nat}{m:N0}(h:xA φ L ⟨n,m⟩ (vY 0 vs) ⟨us,[]⟩)(hs:us.size=vs.length):yM φ L vs us:=by
 refine⟨hs,λi v hi=>h.slot i v ?_⟩;have key:∀(vs:List Value) (k i:Nat) (v:Value),vs[i]?=some v->get (vY k vs) (k+i)=some v:=by
  intro vs
  induction vs with
  |nil=>intro k i v h;simp at h
  |cons u r ih =>
   intro k i v h;cases i with
   |zero=>simp only[List.getElem?_cons_zero,Option.some.injEq]at h;subst h;simp[vY,get]
   |succ i =>
    have:=ih (k+1) i v (by simpa using h);simp only[vY,get];rw[show Nat.beq k (k+(i+1))=false from by
     cases hq:Nat.beq k (k+(i+1))with
     |true=>have:=Nat.eq_of_beq_eq_true hq;omega
     |false=>rfl]
    rw[show k+(i+1)=k+1+i from by omega];exact this
 have:=key vs 0 i v hi;simpa using this

theorem yHl {B0:Nat}{w0:World}{φ:Fi}{w:World}(r:Rel B0 w0 φ H w){D:Nat}(hD:D∈φ.mks) :
  Rel B0 w0 ⟨φ.f,φ.mks.filter (λE=>decide (E≠D))⟩ H (w.putObj D (.deferred none)):=by
 have hB:=(r.mks D hD).2;have hlt:=(Array.getElem?_eq_some_iff.1 (r.mks D hD).1).1;have oth:∀k,k≠D->(w.putObj D (.deferred none)).heap[k]?=w.heap[k]?:=λk hk=>World.putObj_heap_other hk;refine⟨r.below.trans ⟨rfl,rfl,rfl,by simp[World.putObj],λk hk=>oth k (by omega)⟩,r.b0,λA g hA=>?_,r.own,r.inj,r.gw,λE hE=>?_⟩
 ·obtain⟨o,c,h1,h2,h3,h4⟩:=(r.blk A g hA).any
  refine⟨o,c,?_,h2,h3,λi v hi=>?_⟩
  ·show(w.putObj D (.deferred none)).heap[(φ A).b]?=some o
   rw[oth _ (r.mkne hD hA)];exact h1
  ·obtain⟨v',g1,g2⟩:=h4 i v hi
   exact⟨v',g1,g2.monoF bC⟩
 ·obtain⟨h1,h2⟩:=List.mem_filter.1 hE
  have h2:E≠D:=of_decide_eq_true h2;exact⟨(oth E h2).trans (r.mks E h1).1,(r.mks E h1).2⟩
theorem yKp {B0:Nat}{w0:World}{φs:Fi}{Ls:zP}{fn:Func}{ac:Act}{R:Ending->World->Prop}
  (fin:∀φ w,Ext φs Ls φ (lens H)->Rel B0 w0 φ H w->xA φ (lens H) N a ac->∃v,(results fn ac.tmps).run P w=.ok v w/\R (.returned v) w) :
  ∀(M:List Nat) (φ:Fi) (w:World),Ext φs Ls φ (lens H)->Rel B0 w0 φ H w->xA φ (lens H) N a ac->M.Nodup->(∀D∈M,D∈φ.mks/\D ∉ φs.mks) ->
   LeavesInM Fence.wide 0 P fn ac.tmps R (M.map λD=>{ target:=.collected D,args:=#[] }) .returning w:=by
 intro M
 induction M with
 |nil=>intro φ w he hr hf _ _;exact fin φ w he hr hf
 |cons D M ih =>
  intro φ w he hr hf hnd hM;obtain⟨hD,hDs⟩:=hM D List.mem_cons_self;obtain⟨n1,n2⟩:=List.nodup_cons.1 hnd;refine⟨by simp,.inl ⟨D,_,rfl,run_takeDeferred (hr.mks D hD).1,ih ⟨φ.f,φ.mks.filter (λE=>decide (E≠D))⟩ _ ⟨he.at_,λE hE=>?_⟩ (yHl hr hD) ⟨hf.size,λt v hv=>?_⟩ n2 λE hE=>?_⟩⟩
  ·exact List.mem_filter.2 ⟨he.mks E hE,decide_eq_true λe=>hDs (e▸hE)⟩
  ·obtain⟨v',h1,h2⟩:=hf.slot t v hv
   exact⟨v',h1,h2.monoF bC⟩
  ·obtain⟨h1,h2⟩:=hM E (List.mem_cons_of_mem _ hE)
   exact⟨List.mem_filter.2 ⟨h1,decide_eq_true λe=>n1 (e▸hE)⟩,h2⟩
theorem eL {f:FuncId}{fn:Func}{c:Code}{as0:List Value}{R:Value->zI->Prop}(hf:P.funcs[f]?=some fn)(hb:fn.body=some c)
  (hN:Nat.ble as0.length fn.ntmps=true) (h:CloH H->AWp P ⟨fn.ntmps,⟨H.length,none⟩⟩ c (bT P ⟨fn.ntmps,⟨H.length,none⟩⟩ fn R) (vY 0 as0) H):Run P f as0 H R:=by
 unfold Run;unfold AWp at h;intro B0 w0 φs Ls φ w vs he hr hv;have hdm:Dom Ls H.length:=λA m hA=>let ⟨_,h1,_⟩:=he.at_ A m hA;dM h1
 refine(callsIn_wide (n:=0)).1 (callsIn_of_wp_marks hf hb trivial (wpIn_mono (h hr.clo B0 w0 φs Ls φ w { tmps:=vs++Array.replicate (fn.ntmps-vs.size) undef,defers:=[] } hdm (EA.start he) hr (zTv hv (Nat.le_of_ble_eq_true hN))) ?_) rfl);rintro e ac w' ⟨φ',a',H',h1,h2,h3,h4⟩;have fin:bT P ⟨fn.ntmps,⟨H.length,none⟩⟩ fn R .ret a' H'->LeavesInM Fence.wide 0 P fn ac.tmps (RC B0 w0 φs Ls R) ac.defers .returning w':=by
  rintro⟨vs,g1,vs2,H2,hk,hl2,g2⟩;obtain⟨hext,M,hM1,hM2,hM3⟩:=h1;rw[hM1];refine yKp (N:=⟨fn.ntmps,⟨H.length,none⟩⟩) (a:=a') (λφ1 w1 q1 q2 q3=>?_) M φ' w' hext h2 h3 hM2 hM3;obtain⟨us,g3,g4⟩:=yMb (P:=P) q2 q3 g1;have hsz:=g4.size;have hfr:xA φ1 (lens H') ⟨vs.length,⟨H.length,none⟩⟩ (vY 0 vs) ⟨us.toArray,[]⟩:=by
   have:=zTv (n:=vs.length) (m:=⟨H.length,none⟩) g4 (Nat.le_refl _);rw[hsz,Nat.sub_self]at this;simpa using this
  obtain⟨φ2,k1,k2,k3,k4⟩:=hk.go B0 w0 φ1 w1 ⟨us.toArray,[]⟩ q2 hfr;refine⟨_,?_,φ2,_,H2,_,zJd hdm q1 k3 k4,k1,rfl,yNs (yHx k2 (by rw[hl2,hsz])),g2⟩;rw[yJo,Array.mapM_eq_mapM_toList];simp only[Sem.run_bind,Sem.run_map,Sem.run_pure,g3,Result.andThen_ok]
 cases e with
 |normal=>exact fin h4
 |ret=>exact fin h4
 |_=>exact h4.elim
end

def fV (e:Edge):Bool:=match e.ground with
 |.textOnly _|.gcOnly _=>false
 |_=>true
theorem zBl (e:Edge):Region.binds .any e=fV e:=by
 unfold Region.binds fV;cases e.ground <;> rfl
def vC (ops:Array Oper)(i j:Nat):Bool:=match ops.toList[i]? with
 |some o=>o.after.toList.any λe=>fV e && Nat.beq e.on j
 |none=>false
theorem zMq {ops:Array Oper}{i j:Nat}(h:vC ops i j=true):∃o,ops[i]?=some o/\∃e∈o.after,Region.binds .any e=true/\e.on=j:=by
 unfold vC at h;split at h
 ·rename_i o ho
  obtain⟨e,he,hb⟩:=List.any_eq_true.1 h;simp only[Bool.and_eq_true]at hb;exact⟨o,by simpa using ho,e,by simpa using he,by rw[zBl];exact hb.1,Nat.eq_of_beq_eq_true hb.2⟩
 ·cases h

def oTm :Operand->List Nat
 |.tmp t=>[t]
 |_=>[]
def oK (o:Oper):List Nat:=o.op.operands.toList.flatMap oTm
def zRo (o:Oper)(t:Nat):Bool:=match o.dst with
 |some d=>Nat.beq d t
 |none=>false
theorem zHb {o:Oper}{t:Nat}:zRo o t=true↔o.dst=some t:=by
 unfold zRo;cases o.dst with
 |none=>simp
 |some d=>simp only[Option.some.injEq];exact⟨Nat.eq_of_beq_eq_true,λh=>by rw[h];exact Nat.beq_refl t⟩
def uH (ops:Array Oper)(i:Nat)(o:Oper):Bool :=
 (match o.op with|.select ..=>false|_=>true) &&
 (o.after.toList.all λe=>!fV e || Nat.blt e.on i) &&
 ((oK o).all λt=>(List.range ops.size).all λj=>match ops.toList[j]? with
  |some p=>!zRo p t || (Nat.blt j i && vC ops i j) || (Nat.blt i j && vC ops j i)
  |none=>true) &&
 (match o.guard with|none=>true|some (j,_)=>Nat.blt j i && vC ops i j) &&
 ((List.range ops.size).all λj=>match ops.toList[j]?,o.dst with
  |some p,some t=>!zRo p t || Nat.beq j i
  |_,_=>true)
def tH (ops:Array Oper):Bool:=(List.range ops.size).all λi=>match ops.toList[i]? with
 |some o=>uH ops i o
 |none=>true

def Ag (o:Oper)(a a':AF):Prop:=∀t∈oK o,get a' t=get a t
theorem Ag.ev {o:Oper}{a a':AF}(h:Ag o a a'){x:Operand}(hx:x∈o.op.operands):ev a' x=ev a x:=by
 cases x with
 |tmp t=>exact h t (List.mem_flatMap.2 ⟨.tmp t,by simpa using hx,by simp[oTm]⟩)
 |_=>rfl
theorem Ag.refl (o:Oper)(a:AF):Ag o a a:=λ_ _=>rfl

structure pP (P:Program)(N:Fr)(o:Oper)(a:AF)(H:zI)(v:Value):Prop where
 go:∀B0 w0 φ w ac,Rel B0 w0 φ H w->xA φ (lens H) N a ac ->
  ∃v',Val φ (lens H) v v'/\((execOp ac.eval o).run P w=.ok (.value v') w\/∃f args,(execOp ac.eval o).run P w=.ok (.enter f args) w/\Calls P f args w λe w2=>e=.returned v'/\Below w.heap.size w w2)
theorem zR.pcall {P:Program}{N:Fr}{o:Oper}{a:AF}{H:zI}{v:Value}(h:zR P N o a H v):pP P N o a H v :=
 ⟨λB0 w0 φ w ac hr hf=>let ⟨v',h1,h2⟩:=h.go B0 w0 φ w ac hr hf;⟨v',h1,.inl (h2 w (Below.refl _ _))⟩⟩

structure vH (P:Program)(N:Fr)(o:Oper)(a:AF)(H:zI)(v:Value)(H':zI):Prop where
 go:∀B0 w0 φ w ac,Rel B0 w0 φ H w->xA φ (lens H) N a ac ->
  (∃φ' v' w',Ext φ (lens H) φ' (lens H')/\Rel B0 w0 φ' H' w'/\Val φ' (lens H') v v'/\((execOp ac.eval o).run P w=.ok (.value v') w'\/(v'=undef/\(execOp ac.eval o).run P w=.ok .skip w'))) \/
  (∃f args,(execOp ac.eval o).run P w=.ok (.enter f args) w/\Calls P f args w λe w'=>∃φ' v',Ext φ (lens H) φ' (lens H')/\Rel B0 w0 φ' H' w'/\e=.returned v'/\Val φ' (lens H') v v') \/
  ∃l f tmps as0 bd,(execOp ac.eval o).run P w=.ok (.round l f tmps as0 bd) w/\RoundIn Fence.wide 0 P l f tmps as0 bd w λe w'=>∃φ' v',Ext φ (lens H) φ' (lens H')/\Rel B0 w0 φ' H' w'/\e=.returned v'/\Val φ' (lens H') v v'
theorem xG.ceff {P:Program}{N:Fr}{o:Oper}{a:AF}{H:zI}{v:Value}{H':zI}(h:xG P N o a H v H'):vH P N o a H v H' :=
 ⟨λB0 w0 φ w ac hr hf=>.inl (h.go B0 w0 φ w ac hr hf)⟩

def rR (ops:Array Oper)(o:Oper)(a:AF):Prop:=match o.guard with
 |none=>True
 |some (j,want)=>∃d,(ops[j]?).bind (·.dst)=some d/\get a d=some (.bool want)
def eC (ops:Array Oper)(o:Oper)(a:AF):Prop:=match o.guard with
 |none=>False
 |some (j,want)=>∃d,(ops[j]?).bind (·.dst)=some d/\(get a d=some (.bool (!want))\/get a d=some undef)

inductive Kd |fin|skip|pure (C:zI->Prop)|ind|eff|new
structure St where
 a:AF
 H:zI
 v:Value
 k:Kd
abbrev Cl :=List (Nat × (zI->Prop))

abbrev rG :=List (Bool × Nat × zI × zI)

def wt (ops:Array Oper)(i j:Nat):Bool:=vC ops i j || (List.range i).any λk=>vC ops i k && (vC ops k j || (List.range k).any λx=>vC ops k x && vC ops x j)
theorem zTa {ops:Array Oper}{listed:Array Bool}(hc:∀j k,listed.getD j false=true->vC ops j k=true->listed.getD k false=true){i:Nat}(hr:∀k,vC ops i k=true->listed.getD k false=true){j:Nat}(h:wt ops i j=true):listed.getD j false=true:=by
 unfold wt at h;simp only[Bool.or_eq_true,List.any_eq_true,Bool.and_eq_true]at h;rcases h with h|⟨k,_,h1,h2|⟨x,_,h2,h3⟩⟩
 ·exact hr j h
 ·exact hc k j (hr k h1) h2
 ·exact hc x j (hc k x (hr k h1) h2) h3
theorem zKw {ops:Array Oper}{listed:Array Bool}(hc:∀j k,listed.getD j false=true->vC ops j k=true->listed.getD k false=true){i j:Nat}(hi:listed.getD i false=true)(h:wt ops i j=true):listed.getD j false=true :=
 zTa hc (λk hk=>hc i k hi hk) h
def Wit (C:zI->Prop)(b:Blk)(p:Nat)(K:zI):Prop:=∀X:zI,K.length<=p->X[p-K.length]?=some (some b)->C (K++X)
def rL (ops:Array Oper)(i:Nat)(C:zI->Prop)(E:zI->Prop):rG->Prop
 |[]=>True
 |(true,j,H,_)::r=>wt ops i j=true\/(C H/\rL ops i C E r)
 |(false,j,H,H1)::r=>(wt ops i j=true\/C H\/E H)/\rL ops i C (λK=>E K\/(wt ops i j=true/\∃b,H1=H++[some b]/\Wit C b H.length K)) r
theorem rL.mono {ops:Array Oper}{i:Nat}{C:zI->Prop}:∀{l:rG} {E E':zI->Prop},(∀K,E K->E' K)->rL ops i C E l->rL ops i C E' l
 |[],_,_,_,_=>trivial
 |(true,_,_,_)::_,_,_,he,h=>h.imp id λh=>⟨h.1,rL.mono he h.2⟩
 |(false,_,_,_)::_,_,_,he,h=>⟨h.1.imp id λh=>h.imp id (he _),rL.mono (λK h=>h.imp (he K) id) h.2⟩
def oG (ops:Array Oper)(i:Nat):rG->Prop
 |[]=>True
 |(true,j,_)::_=>wt ops i j=true
 |(false,j,_)::r=>wt ops i j=true/\oG ops i r
def gZ (k:Nat)(X:zI):Prop:=∀p,p<k->X[p]?=some none
theorem cP {l:Array Bool}{i:Nat}(h:l.getD i true=false):l.getD i false=false:=by
 rw[Array.getD_eq_getD_getElem?]at h ⊢;cases hi:l[i]? with
 |none=>rw[hi]at h;cases h
 |some b=>rw[hi]at h;exact h
def qX (Y:zI):Prop:=∀(p:Nat) b,Y[p]?≠some (some b)
def zOp (ops:Array Oper)(i:Nat)(tr:List St):Prop:=∀(n:Nat) (s:St),tr[n]?=some s->(match s.k with|.new=>True|_=>False)->wt ops (i+1+n) i=true
inductive GD (P:Program)(N:Fr)(ops:Array Oper)(Q:AF->zI->Prop):List Oper->Nat->AF->zI->rG->Cl->List St->Prop
 |nil {i a H last cl} (h:Q a H):GD P N ops Q [] i a H last cl [⟨a,H,undef,.fin⟩]
 |again {l i a H last cl tr d u} (hb:get a d=some u) (k:GD P N ops Q l i ((d,u)::a) H last cl tr):GD P N ops Q l i a H last cl tr
 |skip {o rest i a H last cl tr} (hN:wK o N=true) (hw:eC ops o a) (k:GD P N ops Q rest (i+1) (put a o.dst undef) H last cl tr):GD P N ops Q (o::rest) i a H last cl (⟨a,H,undef,.skip⟩::tr)
 |ind {o rest i a H last cl tr v} (hN:wK o N=true) (hw:rR ops o a) (hv:∀H' a',Ag o a a'->pP P N o a' H' v)
   (k:GD P N ops Q rest (i+1) (put a o.dst v) H last cl tr):GD P N ops Q (o::rest) i a H last cl (⟨a,H,v,.ind⟩::tr)
 |pure {o rest i a H last cl tr v} (C:zI->Prop) (hN:wK o N=true) (hw:rR ops o a) (hc:C H) (hm:∀H X,C H->C (H++X)) (hv:∀H' a',C H'->Ag o a a'->pP P N o a' H' v) (hl:rL ops i C (λ_=>False) last)
   (k:GD P N ops Q rest (i+1) (put a o.dst v) H last ((i,C)::cl) tr):GD P N ops Q (o::rest) i a H last cl (⟨a,H,v,.pure C⟩::tr)
 |eff {o rest i a H H' last cl tr v} (kk:Nat) (hN:wK o N=true) (hw:rR ops o a) (hlen:H'.length=H.length+kk) (hv:∀X a',Ag o a a'->gZ kk X->(zOp ops i tr->qX X)->vH P N o a' (H++X) v (H'++X.drop kk)) (hl:oG ops i last)
   (hc:∀x∈cl,wt ops i x.1=true\/x.2 H') (k:GD P N ops Q rest (i+1) (put a o.dst v) H' ((true,i,H,H')::last) cl tr):GD P N ops Q (o::rest) i a H last cl (⟨a,H,v,.eff⟩::tr)
 |new {o rest i a H last cl tr v b} (hN:wK o N=true) (hw:rR ops o a) (hv:∀H1 H1' a',Ag o a a'->Place H1 H.length H1' b->vH P N o a' H1 v H1')
   (k:GD P N ops Q rest (i+1) (put a o.dst v) (H++[some b]) ((false,i,H,H++[some b])::last) cl tr):GD P N ops Q (o::rest) i a H last cl (⟨a,H,v,.new⟩::tr)

section
variable {P:Program} {N:Fr} {ops:Array Oper} {Q:AF->zI->Prop}

theorem sC {a:AF}{dst:Option Tmp}{v:Value}(t:Nat):get (put a dst v) t=if dst=some t then some v else get a t:=by
 cases dst with
 |none=>simp[put]
 |some d =>
  simp only[put,Option.some.injEq];by_cases h:d=t
  ·subst h;rw[if_pos rfl];unfold get;rw[show Nat.beq d d=true from Nat.beq_refl d];rfl
  ·rw[if_neg h]
   show get ((d,v)::a) t=_
   conv=>lhs;unfold get
   rw[show Nat.beq d t=false from by
    cases hb:Nat.beq d t with
    |true=>exact absurd (Nat.eq_of_beq_eq_true hb) h
    |false=>rfl]
   rfl

theorem GD.len {l:List Oper}{i:Nat}{a:AF}{H:zI}{last:rG}{cl:Cl}{tr:List St}(g:GD P N ops Q l i a H last cl tr):tr.length=l.length+1:=by
 induction g with
 |nil=>rfl
 |again _ _ ih=>exact ih
 |skip _ _ _ ih=>simp[ih]
 |ind _ _ _ _ ih=>simp[ih]
 |pure _ _ _ _ _ _ _ _ ih=>simp[ih]
 |eff _ _ _ _ _ _ _ _ ih=>simp[ih]
 |new _ _ _ _ ih=>simp[ih]

def Kd.isE :Kd->Bool
 |.eff=>true
 |_=>false
def Kd.isN :Kd->Bool
 |.new=>true
 |_=>false
def Kd.past (k:Kd)(i:Nat)(H H1:zI)(last:rG):rG:=match k with
 |.eff=>(true,i,H,H1)::last
 |.new=>(false,i,H,H1)::last
 |_=>last
structure Ok (P:Program)(N:Fr)(ops:Array Oper)(o:Oper)(i:Nat)(s s':St)(L:List St):Prop where
 dst:wK o N=true
 next:∀t,get s'.a t=if o.dst=some t then some s.v else get s.a t
 same:s.k.isE=false->s.k.isN=false->s'.H=s.H
 kind:match s.k with
  |.fin=>False
  |.skip=>eC ops o s.a/\s.v=undef
  |.ind=>rR ops o s.a/\∀H' a',Ag o s.a a'->pP P N o a' H' s.v
  |.pure C=>rR ops o s.a/\C s.H/\(∀H X,C H->C (H++X))/\∀H' a',C H'->Ag o s.a a'->pP P N o a' H' s.v
  |.eff=>rR ops o s.a/\∃kk,s'.H.length=s.H.length+kk/\∀X a',Ag o s.a a'->gZ kk X->(zOp ops i L->qX X)->vH P N o a' (s.H++X) s.v (s'.H++X.drop kk)
  |.new=>rR ops o s.a/\∃b,s'.H=s.H++[some b]/\∀H1 H1' a',Ag o s.a a'->Place H1 s.H.length H1' b->vH P N o a' H1 s.v H1'

def mY (ops:Array Oper)(tr:List St)(i k lo:Nat)(C:zI->Prop)(K:zI):Prop :=
 ∃(n:Nat) (s3 s4:St) (b:Blk),lo<=n/\n<k/\tr[n]?=some s3/\s3.k.isN=true/\wt ops (i+k) (i+n)=true/\tr[n+1]?=some s4/\s4.H=s3.H++[some b]/\Wit C b s3.H.length K
theorem mY.cons {ops:Array Oper}{tr:List St}{i k lo:Nat}{C:zI->Prop}{K:zI}{s:St}(h:mY ops tr (i+1) k lo C K):mY ops (s::tr) i (k+1) (lo+1) C K:=by
 obtain⟨n,s3,s4,b,h1,h2,h3,h4,h5,h6,h7,h8⟩:=h;exact⟨n+1,s3,s4,b,by omega,by omega,by simpa using h3,h4,by rwa [show i+1+k=i+(k+1)by omega,show i+1+n=i+(n+1)by omega]at h5,by simpa using h6,h7,h8⟩
theorem mY.lo {ops:Array Oper}{tr:List St}{i k lo lo':Nat}{C:zI->Prop}{K:zI}(h:mY ops tr i k lo C K)(hl:lo'<=lo):mY ops tr i k lo' C K:=by
 obtain⟨n,s3,s4,b,h1,h2⟩:=h;exact⟨n,s3,s4,b,by omega,h2⟩

structure Tr (P:Program)(N:Fr)(ops:Array Oper)(Q:AF->zI->Prop)(l:List Oper)(i:Nat)(a:AF)(H:zI)(last:rG)(cl:Cl)(tr:List St):Prop where
 len:tr.length=l.length+1
 ha:∀s,tr[0]?=some s->(∀t,get s.a t=get a t)/\s.H=H
 hfin:∀s,tr[l.length]?=some s->Q s.a s.H
 ok:∀(k:Nat) o s s',l[k]?=some o->tr[k]?=some s->tr[k+1]?=some s'->Ok P N ops o (i+k) s s' (tr.drop (k+1))
 chain:∀(k:Nat) s,tr[k]?=some s->s.k.isE=true->((∀(j:Nat) s2,j<k->tr[j]?=some s2->s2.k.isE=false)->oG ops (i+k) last) /\
  ∀(j:Nat) s2,j<k->tr[j]?=some s2->(s2.k.isE=true\/s2.k.isN=true)->(∀(m:Nat) s3,j<m->m<k->tr[m]?=some s3->s3.k.isE=false)->wt ops (i+k) (i+j)=true
 back:∀(k:Nat) s C,tr[k]?=some s->s.k=.pure C->(∀(j:Nat) s2,j<k->tr[j]?=some s2->(s2.k.isE=true\/s2.k.isN=true) ->
   (∃(x:Nat) (s3:St),j<=x/\x<k/\tr[x]?=some s3/\s3.k.isE=true/\wt ops (i+k) (i+x)=true)\/wt ops (i+k) (i+j)=true\/C s2.H\/(s2.k.isN=true/\mY ops tr i k (j+1) C s2.H)) /\
  ((∃(x:Nat) (s3:St),x<k/\tr[x]?=some s3/\s3.k.isE=true/\wt ops (i+k) (i+x)=true)\/rL ops (i+k) C (mY ops tr i k 0 C) last)
 keep:∀(k:Nat) s s',tr[k]?=some s->s.k.isE=true->tr[k+1]?=some s' ->
  (∀x∈cl,wt ops (i+k) x.1=true\/x.2 s'.H)/\∀(j:Nat) s2 C,j<k->tr[j]?=some s2->s2.k=.pure C->wt ops (i+k) (i+j)=true\/C s'.H

theorem Tr.cons {o:Oper}{rest:List Oper}{i:Nat}{a a1:AF}{H H1:zI}{last last1:rG}{cl cl1:Cl}{tr:List St}{s:St}(t:Tr P N ops Q rest (i+1) a1 H1 last1 cl1 tr)
  (hs:s.a=a/\s.H=H) (h1:∀s',(∀t,get s'.a t=get a1 t)->s'.H=H1->Ok P N ops o i s s' tr) (hm:s.k.isE=true->oG ops i last) (hb:∀C,s.k=.pure C->rL ops i C (λ_=>False) last)
  (hl:last1=s.k.past i H H1 last) (hcl:∀x∈cl,x∈cl1) (hcp:∀C,s.k=.pure C->(i,C)∈cl1) (hce:s.k.isE=true->∀x∈cl,wt ops i x.1=true\/x.2 H1) :
  Tr P N ops Q (o::rest) i a H last cl (s::tr):=by
 have kinds:(s.k.isE=true/\s.k.isN=false/\s.k.past i H H1 last=(true,i,H,H1)::last)\/(s.k.isE=false/\s.k.isN=true/\s.k.past i H H1 last=(false,i,H,H1)::last)\/(s.k.isE=false/\s.k.isN=false/\s.k.past i H H1 last=last):=by
  cases s.k <;> simp[Kd.isE,Kd.isN,Kd.past]
 refine⟨by simp[t.len],λs1 h=>?_,λs1 h=>t.hfin s1 (by simpa using h),λk o1 s1 s2 ho e1 e2=>?_,λk s1 e1 hk=>?_,λk s1 C e1 hk=>?_,λk s1 s2 e1 hk e2=>?_⟩
 ·simp only[List.getElem?_cons_zero,Option.some.injEq]at h
  subst h;exact⟨λt=>by rw[hs.1],hs.2⟩
 ·cases k with
  |zero =>
   simp only[List.getElem?_cons_zero,Option.some.injEq]at ho e1;subst ho e1;obtain⟨g1,g2⟩:=t.ha s2 (by simpa using e2);exact h1 s2 g1 g2
  |succ k =>
   have:=t.ok k o1 s1 s2 (by simpa using ho) (by simpa using e1) (by simpa using e2);rwa [show i+1+k=i+(k+1)by omega]at this
 ·cases k with
  |zero =>
   simp only[List.getElem?_cons_zero,Option.some.injEq]at e1;subst e1;exact⟨λ_=>hm hk,λj s2 hj=>by omega⟩
  |succ k =>
   obtain⟨g1,g2⟩:=t.chain k s1 (by simpa using e1) hk;rw[show i+1+k=i+(k+1)by omega]at g1 g2;refine⟨λhn=>?_,λj s2 hj hj2 hj3 hn=>?_⟩
   ·have h0:=hn 0 s (by omega) rfl
    have:=g1 λj s2 hj hj2=>hn (j+1) s2 (by omega) (by simpa using hj2);rw[hl]at this;rcases kinds with⟨q1,_⟩|⟨_,_,q3⟩|⟨_,_,q3⟩
    ·rw[h0]at q1;cases q1
    ·rw[q3]at this;exact this.2
    ·rw[q3]at this;exact this
   ·cases j with
    |zero =>
     simp only[List.getElem?_cons_zero,Option.some.injEq]at hj2;subst hj2;have:=g1 λj s2 hj hj2=>hn (j+1) s2 (by omega) (by omega) (by simpa using hj2);rw[hl]at this;rcases kinds with⟨_,_,q3⟩|⟨_,_,q3⟩|⟨q1,q2,_⟩
     ·rw[q3]at this;exact this
     ·rw[q3]at this;exact this.1
     ·rcases hj3 with h|h
      ·rw[q1]at h;cases h
      ·rw[q2]at h;cases h
    |succ j =>
     have:=g2 j s2 (by omega) (by simpa using hj2) hj3 λm s3 h3 h4 h5=>hn (m+1) s3 (by omega) (by omega) (by simpa using h5);rwa [show i+1+j=i+(j+1)by omega]at this
 ·cases k with
  |zero =>
   simp only[List.getElem?_cons_zero,Option.some.injEq]at e1;subst e1;exact⟨λj s2 hj=>by omega,.inr ((hb C hk).mono λ_ h=>h.elim)⟩
  |succ k =>
   obtain⟨g1,g2⟩:=t.back k s1 C (by simpa using e1) hk;have eik:i+1+k=i+(k+1):=by omega
   have ew:wt ops (i+1+k)=wt ops (i+(k+1)):=by rw[eik]
   have eb:∀E,rL ops (i+1+k) C E last1->rL ops (i+(k+1)) C E last1:=λE h=>by rwa [eik]at h
   simp only[ew]at g1 g2;replace g2:=g2.imp id (eb _);have sh:(∃(x:Nat) (s3:St),x<k/\tr[x]?=some s3/\s3.k.isE=true/\wt ops (i+(k+1)) (i+1+x)=true)->∃(x:Nat) (s3:St),1<=x/\x<k+1/\(s::tr)[x]?=some s3/\s3.k.isE=true/\wt ops (i+(k+1)) (i+x)=true:=by
    rintro⟨x,s3,q1,q2,q3,q4⟩;exact⟨x+1,s3,by omega,by omega,by simpa using q2,q3,by rwa [show i+1+x=i+(x+1)by omega]at q4⟩
   refine⟨λj s2 hj hj2 hj3=>?_,?_⟩
   ·cases j with
    |zero =>
     simp only[List.getElem?_cons_zero,Option.some.injEq]at hj2;subst hj2;rcases g2 with g2|g2
     ·obtain⟨x,s3,q1,q2,q3,q4,q5⟩:=sh g2
      exact .inl ⟨x,s3,by omega,q2,q3,q4,q5⟩
     ·rw[hl]at g2
      rcases kinds with⟨q1,_,q3⟩|⟨_,q2,q3⟩|⟨q1,q2,_⟩
      ·rw[q3]at g2
       rcases g2 with g2|g2
       ·exact .inl ⟨0,s,Nat.le_refl _,by omega,rfl,q1,g2⟩
       ·exact .inr (.inr (.inl (hs.2▸g2.1)))
      ·rw[q3]at g2
       refine .inr (g2.1.imp id λh=>h.imp (λh=>hs.2▸h) λh=>⟨q2,?_⟩);rw[hs.2];exact h.cons
      ·rcases hj3 with h|h
       ·rw[q1]at h;cases h
       ·rw[q2]at h;cases h
    |succ j =>
     rcases g1 j s2 (by omega) (by simpa using hj2) hj3 with⟨x,s3,q1,q2,q3,q4,q5⟩|h|h|⟨h,h'⟩
     ·exact .inl ⟨x+1,s3,by omega,by omega,by simpa using q3,q4,by rwa [show i+1+x=i+(x+1)by omega]at q5⟩
     ·exact .inr (.inl (by rwa [show i+1+j=i+(j+1)by omega]at h))
     ·exact .inr (.inr (.inl h))
     ·exact .inr (.inr (.inr ⟨h,h'.cons⟩))
   ·rcases g2 with g2|g2
    ·obtain⟨x,s3,q1,q2,q3,q4,q5⟩:=sh g2
     exact .inl ⟨x,s3,q2,q3,q4,q5⟩
    ·rw[hl]at g2
     rcases kinds with⟨q1,_,q3⟩|⟨_,_,q3⟩|⟨_,_,q3⟩
     ·rw[q3]at g2
      rcases g2 with g2|g2
      ·exact .inl ⟨0,s,by omega,rfl,q1,g2⟩
      ·exact .inr (g2.2.mono λK h=>(h.cons).lo (by omega))
     ·rw[q3]at g2
      obtain⟨s4,hs4⟩:∃s4,tr[0]?=some s4:=⟨tr[0]'(by rw[t.len];omega),List.getElem?_eq_getElem _⟩;refine .inr (g2.2.mono λK h=>?_);rcases h with h|⟨w1,b,w2,w3⟩
      ·exact(h.cons).lo (by omega)
      ·exact⟨0,s,s4,b,Nat.le_refl _,by omega,rfl,‹s.k.isN=true›,w1,by simpa using hs4,by rw[(t.ha s4 hs4).2,hs.2];exact w2,by rw[hs.2];exact w3⟩
     ·rw[q3]at g2;exact .inr (g2.mono λK h=>(h.cons).lo (by omega))
 ·cases k with
  |zero =>
   simp only[List.getElem?_cons_zero,Option.some.injEq]at e1;subst e1;have:=(t.ha s2 (by simpa using e2)).2;exact⟨λx hx=>by rw[this];exact hce hk x hx,λj s3 C hj=>by omega⟩
  |succ k =>
   obtain⟨g1,g2⟩:=t.keep k s1 s2 (by simpa using e1) hk (by simpa using e2);rw[show i+1+k=i+(k+1)by omega]at g1 g2;refine⟨λx hx=>g1 x (hcl x hx),λj s3 C hj hj2 hj3=>?_⟩;cases j with
   |zero =>
    simp only[List.getElem?_cons_zero,Option.some.injEq]at hj2;subst hj2;exact g1 _ (hcp C hj3)
   |succ j =>
    have:=g2 j s3 C (by omega) (by simpa using hj2) hj3;rwa [show i+1+j=i+(j+1)by omega]at this

theorem GD.tr {l:List Oper}{i:Nat}{a:AF}{H:zI}{last:rG}{cl:Cl}{tr:List St}(g:GD P N ops Q l i a H last cl tr):Tr P N ops Q l i a H last cl tr:=by
 induction g with
 |@nil i a H last cl h =>
  refine⟨rfl,λs h1=>?_,λs h1=>?_,λk o s s' h1=>by simp at h1,λk s h1 h2=>?_,λk s C h1 h2=>?_,λk s s' h1 h2=>?_⟩
  ·simp only[List.getElem?_cons_zero,Option.some.injEq]at h1;subst h1;exact⟨λ_=>rfl,rfl⟩
  ·simp only[List.length_nil,List.getElem?_cons_zero,Option.some.injEq]at h1;subst h1;exact h
  ·cases k with
   |zero=>simp only[List.getElem?_cons_zero,Option.some.injEq]at h1;subst h1;cases h2
   |succ k=>simp at h1
  ·cases k with
   |zero=>simp only[List.getElem?_cons_zero,Option.some.injEq]at h1;subst h1;cases h2
   |succ k=>simp at h1
  ·cases k with
   |zero=>simp only[List.getElem?_cons_zero,Option.some.injEq]at h1;subst h1;cases h2
   |succ k=>simp at h1
 |@again l i a H last cl tr d u hb _ ih =>
  refine⟨ih.len,λs h1=>?_,ih.hfin,ih.ok,ih.chain,ih.back,ih.keep⟩;obtain⟨g1,g2⟩:=ih.ha s h1;refine⟨λt=>(g1 t).trans ?_,g2⟩;have:=sC (a:=a) (dst:=some d) (v:=u) t;simp only[put,Option.some.injEq]at this;rw[this];split
  ·rename_i e;rw[<-e,hb]
  ·rfl
 |skip hN hw _ ih =>
  exact ih.cons ⟨rfl,rfl⟩ (λs' h1 h2=>⟨hN,λt=>(h1 t).trans (sC t),λ_ _=>h2,⟨hw,rfl⟩⟩) (λh=>by cases h) (λC h=>by cases h) rfl (λ_ h=>h) (λC h=>by cases h) (λh=>by cases h)
 |ind hN hw hv _ ih =>
  exact ih.cons ⟨rfl,rfl⟩ (λs' h1 h2=>⟨hN,λt=>(h1 t).trans (sC t),λ_ _=>h2,⟨hw,hv⟩⟩) (λh=>by cases h) (λC h=>by cases h) rfl (λ_ h=>h) (λC h=>by cases h) (λh=>by cases h)
 |pure C hN hw hc hm hv hl _ ih =>
  exact ih.cons ⟨rfl,rfl⟩ (λs' h1 h2=>⟨hN,λt=>(h1 t).trans (sC t),λ_ _=>h2,⟨hw,hc,hm,hv⟩⟩) (λh=>by cases h) (λC' h=>by cases h;exact hl) rfl (λ_ h=>List.mem_cons_of_mem _ h) (λC' h=>by cases h;exact List.mem_cons_self) (λh=>by cases h)
 |eff kk hN hw hlen hv hl hc _ ih =>
  exact ih.cons ⟨rfl,rfl⟩ (λs' h1 h2=>⟨hN,λt=>(h1 t).trans (sC t),λh=>(by cases h),⟨hw,kk,by rw[h2];exact hlen,λX a' hag hX hn=>by rw[h2];exact hv X a' hag hX hn⟩⟩) (λ_=>hl) (λC h=>by cases h) rfl (λ_ h=>h) (λC h=>by cases h) (λ_=>hc)
 |new hN hw hv _ ih =>
  exact ih.cons ⟨rfl,rfl⟩ (λs' h1 h2=>⟨hN,λt=>(h1 t).trans (sC t),λ_ h=>(by cases h),⟨hw,_,h2,hv⟩⟩) (λh=>by cases h) (λC h=>by cases h) rfl (λ_ h=>h) (λC h=>by cases h) (λh=>by cases h)

theorem Tr.slot {l:List Oper}{a:AF}{H:zI}{tr:List St}(t:Tr P N ops Q l 0 a H [] [] tr):∀(k:Nat) s,k<=l.length->tr[k]?=some s->∀u,
  ((∀(j:Nat) o,j<k->l[j]?=some o->o.dst≠some u)->get s.a u=get a u) /\
  ∀(j:Nat) o s2,j<k->l[j]?=some o->o.dst=some u->tr[j]?=some s2->(∀(m:Nat) p,m<k->l[m]?=some p->p.dst=some u->m=j)->get s.a u=some s2.v:=by
 intro k
 induction k with
 |zero=>intro s _ hs u;exact⟨λ_=>(t.ha s hs).1 u,λj o s2 h=>by omega⟩
 |succ k ih =>
  intro s hk hs u;have hlt:k<tr.length:=by rw[t.len];omega
  obtain⟨s0,hs0⟩:∃s0,tr[k]?=some s0:=⟨tr[k],List.getElem?_eq_getElem hlt⟩;obtain⟨o0,ho0⟩:∃o0,l[k]?=some o0:=⟨l[k],List.getElem?_eq_getElem (by omega)⟩;have hn:=(t.ok k o0 s0 s ho0 hs0 hs).next u;obtain⟨g1,g2⟩:=ih s0 (by omega) hs0 u;refine⟨λh=>?_,λj o s2 hj hl hd hj2 huq=>?_⟩
  ·rw[hn,if_neg (h k o0 (by omega) ho0)]
   exact g1 λj o hj hl=>h j o (by omega) hl
  ·by_cases e:j=k
   ·subst e
    rw[ho0]at hl;cases hl;rw[hs0]at hj2;cases hj2;rw[hn,if_pos hd]
   ·rw[hn,if_neg (λh=>e (huq k o0 (by omega) ho0 h).symm)]
    exact g2 j o s2 (by omega) hl hd hj2 λm p hm=>huq m p (by omega)
theorem Tr.grow {l:List Oper}{a:AF}{H:zI}{tr:List St}(t:Tr P N ops Q l 0 a H [] [] tr)(k:Nat)(s s':St)(hs:tr[k]?=some s)(hs':tr[k+1]?=some s'):s.H.length<=s'.H.length/\(s.k.isN=true->s'.H.length=s.H.length+1):=by
 have hlt:k+1<tr.length:=(List.getElem?_eq_some_iff.1 hs').1;have hll:=t.len;have ho:l[k]?=some (l[k]'(by omega)):=List.getElem?_eq_getElem _;have hok:=t.ok k _ s s' ho hs hs';have hk:=hok.kind;cases hc:s.k with
 |eff =>
  rw[hc]at hk;obtain⟨_,kk,h,_⟩:=hk;exact⟨by omega,λh=>by cases h⟩
 |new =>
  rw[hc]at hk;obtain⟨_,b,h,_⟩:=hk;exact⟨by rw[h];simp,λ_=>by rw[h];simp⟩
 |fin=>rw[hc]at hk;exact hk.elim
 |_=>exact⟨by rw[hok.same (by rw[hc];rfl) (by rw[hc];rfl)];exact Nat.le_refl _,λh=>by cases h⟩
theorem Tr.mono {l:List Oper}{a:AF}{H:zI}{tr:List St}(t:Tr P N ops Q l 0 a H [] [] tr)(k:Nat)(s:St)(hs:tr[k]?=some s):∀(d:Nat) s',tr[k+d]?=some s'->s.H.length<=s'.H.length:=by
 intro d
 induction d with
 |zero=>intro s' h;rw[Nat.add_zero,hs]at h;cases h;exact Nat.le_refl _
 |succ d ih =>
  intro s' h;have hlt:k+(d+1)<tr.length:=(List.getElem?_eq_some_iff.1 h).1;have hs0:tr[k+d]?=some (tr[k+d]'(by omega)):=List.getElem?_eq_getElem _;have:=ih _ hs0;have:=(t.grow (k+d) _ s' hs0 h).1;omega
theorem Tr.below {l:List Oper}{a:AF}{H:zI}{tr:List St}(t:Tr P N ops Q l 0 a H [] [] tr){e i:Nat}{s2 s':St}(he:tr[e]?=some s2)(hn:s2.k.isN=true)(hi:tr[i]?=some s')(hlt:e<i):s2.H.length<s'.H.length:=by
 have hltr:i<tr.length:=(List.getElem?_eq_some_iff.1 hi).1;have hs0:tr[e+1]?=some (tr[e+1]'(by omega)):=List.getElem?_eq_getElem _;have h1:=(t.grow e s2 _ he hs0).2 hn;have h2:=t.mono (e+1) _ hs0 (i-(e+1)) s' (by rw[show e+1+(i-(e+1))=i by omega];exact hi);omega
theorem Tr.claim {l:List Oper}{a:AF}{H:zI}{tr:List St}(t:Tr P N ops Q l 0 a H [] [] tr)(k:Nat)(s:St)(hs:tr[k]?=some s)(C:zI->Prop)(hC:s.k=.pure C)(hk:k<l.length):∀(d:Nat) s',tr[k+d]?=some s' ->
  (∀(e:Nat) s2,k<e->e<k+d->tr[e]?=some s2->s2.k.isE=true->wt ops e k=false)->C s'.H:=by
 intro d;have hkd:C s.H/\∀H X,C H->C (H++X):=by
  have hlt:k+1<tr.length:=by rw[t.len];omega
  have:=(t.ok k l[k] s tr[k+1] (List.getElem?_eq_getElem hk) hs (List.getElem?_eq_getElem hlt)).kind;rw[hC]at this;exact⟨this.2.1,this.2.2.1⟩
 induction d with
 |zero=>intro s' h _;rw[Nat.add_zero,hs]at h;cases h;exact hkd.1
 |succ d ih =>
  intro s' h hn;have hlt:k+(d+1)<tr.length:=(List.getElem?_eq_some_iff.1 h).1;have hll:=t.len;obtain⟨s0,hs0⟩:∃s0,tr[k+d]?=some s0:=⟨tr[k+d],List.getElem?_eq_getElem (by omega)⟩;obtain⟨o0,ho0⟩:∃o0,l[k+d]?=some o0:=⟨l[k+d],List.getElem?_eq_getElem (by omega)⟩;have ih:=ih s0 hs0 λe s2 h1 h2=>hn e s2 h1 (by omega);have hok:=t.ok (k+d) o0 s0 s' ho0 hs0 h;cases he:s0.k.isE with
  |false =>
   cases hN:s0.k.isN with
   |false=>rw[hok.same he hN];exact ih
   |true =>
    have hkk:=hok.kind;cases hc:s0.k with
    |new =>
     rw[hc]at hkk;obtain⟨_,b,e,_⟩:=hkk;rw[e];exact hkd.2 _ _ ih
    |_=>rw[hc]at hN;cases hN
  |true =>
   have hd:0<d:=by
    cases d with
    |zero =>
     rw[Nat.add_zero,hs]at hs0;cases hs0;rw[hC]at he;cases he
    |succ d=>omega
   have hw:=hn (k+d) s0 (by omega) (by omega) hs0 he;have:=((t.keep (k+d) s0 s' hs0 he h).2 k s C (by omega) hs hC);simp only[Nat.zero_add]at this;rcases this with h1|h1
   ·rw[hw]at h1;cases h1
   ·exact h1

theorem sM {H Y:zI}(h:qX Y){A:Nat}{g:Blk}:(H++Y)[A]?=some (some g)↔H[A]?=some (some g):=by
 rcases Nat.lt_or_ge A H.length with hl|hl
 ·rw[List.getElem?_append_left hl]
 ·rw[List.getElem?_append_right hl,List.getElem?_eq_none hl]
  exact⟨λk=>absurd k (h _ _),λk=>by cases k⟩
theorem uL {H Y:zI}(h:qX Y):lens (H++Y)=lens H:=by
 funext A
 cases hA:lens H A with
 |some n =>
  obtain⟨g,h1,h2⟩:=gT hA;rw[wH ((sM h).2 h1),h2]
 |none =>
  cases hB:lens (H++Y) A with
  |none=>rfl
  |some n =>
   obtain⟨g,h1,h2⟩:=gT hB;rw[wH ((sM h).1 h1)]at hA;cases hA
theorem gP {B0:Nat}{w0:World}{φ:Fi}{H Y:zI}{w:World}(h:qX Y)(r:Rel B0 w0 φ H w):Rel B0 w0 φ (H++Y) w :=
 ⟨r.below,r.b0,λA g hA=>by rw[uL h];exact r.blk A g ((sM h).1 hA),λA g hA=>r.own A g ((sM h).1 hA),λA A' g g' hA hro hA'=>r.inj A A' g g' ((sM h).1 hA) hro ((sM h).1 hA'),r.gw,r.mks⟩
theorem zMi {B0:Nat}{w0:World}{φ:Fi}{H Y:zI}{w:World}(h:qX Y)(r:Rel B0 w0 φ (H++Y) w):Rel B0 w0 φ H w :=
 ⟨r.below,r.b0,λA g hA=>by have:=r.blk A g ((sM h).2 hA);rwa [uL h]at this,λA g hA=>r.own A g ((sM h).2 hA),λA A' g g' hA hro hA'=>r.inj A A' g g' ((sM h).2 hA) hro ((sM h).2 hA'),r.gw,r.mks⟩
theorem lQ (n:Nat):qX (List.replicate n none):=by
 intro p b h;rw[List.getElem?_replicate]at h;split at h <;> cases h

structure J (N:Fr)(ops:Array Oper)(tr:List St)(a:AF)(B0:Nat)(w0:World)(φs:Fi)(Ls:zP)(listed:Array Bool)(m:Nat)(s:St)(X:zI)(φ:Fi)(ac:Act)(w:World):Prop where
 lsize:listed.size=ops.size
 closed:∀j k,listed.getD j false=true->vC ops j k=true->listed.getD k false=true
 pre:∀(e:Nat) s2,tr[e]?=some s2->s2.k.isE=true->(listed.getD e false=true↔e<m)
 preN:∀(e:Nat) s2,tr[e]?=some s2->s2.k.isN=true->e<m->listed.getD e false=true
 xin:∀(e:Nat) s2 s3,m<=e->tr[e]?=some s2->tr[e+1]?=some s3->s2.k.isN=true->listed.getD e false=true->∃b,X[s2.H.length-s.H.length]?=some (some b)/\s3.H=s2.H++[some b]
 xout:∀(p:Nat) b,X[p]?=some (some b)->∃(e:Nat) (s2:St),m<=e/\tr[e]?=some s2/\s2.k.isN=true/\listed.getD e false=true/\s2.H.length=s.H.length+p
 hm:m<=ops.size
 at':tr[m]?=some s
 ext:EA φs Ls φ (lens (s.H++X)) ac.defers
 rel:Rel B0 w0 φ (s.H++X) w
 size:ac.tmps.size=N.sz
 s1:∀t v,get a t=some v->(∀(j:Nat) o,ops.toList[j]?=some o->o.dst=some t->listed.getD j false=false)->∃v',ac.tmps[t]?=some v'/\Val φ (lens (s.H++X)) v v'
 s2:∀(j:Nat) o s3 t,listed.getD j false=true->ops.toList[j]?=some o->o.dst=some t->tr[j]?=some s3->∃v',ac.tmps[t]?=some v'/\Val φ (lens (s.H++X)) s3.v v'

theorem rB {listed:Array Bool}{i j:Nat}(hi:i<listed.size):(listed.setIfInBounds i true).getD j false=true↔(j=i\/listed.getD j false=true):=by
 by_cases h:i=j
 ·subst h;simp[hi]
 ·rw[getD_set_ne false h];constructor
  ·exact .inr
  ·rintro(e|e)
   ·exact absurd e.symm h
   ·exact e

theorem J.next {l:List Oper}{H0:zI}{tr:List St}{a:AF}{B0:Nat}{w0:World}{φs:Fi}{Ls:zP}{listed:Array Bool}{m:Nat}{s:St}{X:zI}{φ:Fi}{ac:Act}{w:World}(j:J N ops tr a B0 w0 φs Ls listed m s X φ ac w)
  {i:Nat} {o:Oper} {si s':St} {m':Nat} {X':zI} {φ':Fi} {v':Value} {w':World} (ho:ops.toList[i]?=some o) (hi:i<listed.size) (hready:∀k,vC ops i k=true->listed.getD k false=true)
  (huq:∀(k:Nat) p t,o.dst=some t->ops.toList[k]?=some p->p.dst=some t->k=i) (hsi:tr[i]?=some si) (hN:wK o N=true)
  (hpre:∀(e:Nat) s2,tr[e]?=some s2->s2.k.isE=true->((e=i\/listed.getD e false=true)↔e<m')) (hpreN:∀(e:Nat) s2,tr[e]?=some s2->s2.k.isN=true->e<m'->e=i\/listed.getD e false=true)
  (hxin:∀(e:Nat) s2 s3,m'<=e->tr[e]?=some s2->tr[e+1]?=some s3->s2.k.isN=true->(e=i\/listed.getD e false=true)->∃b,X'[s2.H.length-s'.H.length]?=some (some b)/\s3.H=s2.H++[some b])
  (hxout:∀(p:Nat) b,X'[p]?=some (some b)->∃(e:Nat) (s2:St),m'<=e/\tr[e]?=some s2/\s2.k.isN=true/\(e=i\/listed.getD e false=true)/\s2.H.length=s'.H.length+p)
  (hm':m'<=ops.size) (hs':tr[m']?=some s')
  (he:Ext φ (lens (s.H++X)) φ' (lens (s'.H++X'))) (hr:Rel B0 w0 φ' (s'.H++X') w') (hv:Val φ' (lens (s'.H++X')) si.v v') :
  J N ops tr a B0 w0 φs Ls (listed.setIfInBounds i true) m' s' X' φ' (ac.put o.dst v') w':=by
 have hput:∀t,o.dst≠some t->(ac.put o.dst v').tmps[t]?=ac.tmps[t]?:=by
  intro t ht;cases hd:o.dst with
  |none=>rfl
  |some d=>simp only[Act.put];rw[Array.getElem?_setIfInBounds_ne (λe=>ht (by rw[hd,e]))]
 have hself:∀t,o.dst=some t->(ac.put o.dst v').tmps[t]?=some v':=by
  intro t ht;have:=sZ hN t ht;simp[Act.put,ht,j.size,this]
 refine⟨by simp[j.lsize],λx k hx hw=>?_,λe s2 h1 h2=>?_,λe s2 h1 h2 h3=>?_,λe s2 s3 h0 h1 h2 h3 h4=>?_,λp b h=>?_,hm',hs',(j.ext.trans he).put,hr,by cases hd:o.dst <;> simp[Act.put,j.size],λt v ht hn=>?_,λx p s3 t hx hp hd h3=>?_⟩
 ·rw[rB hi]at hx ⊢
  rcases hx with rfl|hx
  ·exact .inr (hready k hw)
  ·exact .inr (j.closed x k hx hw)
 ·rw[rB hi];exact hpre e s2 h1 h2
 ·rw[rB hi];exact hpreN e s2 h1 h2 h3
 ·rw[rB hi]at h4;exact hxin e s2 s3 h0 h1 h2 h3 h4
 ·obtain⟨e,s2,q1,q2,q3,q4,q5⟩:=hxout p b h
  exact⟨e,s2,q1,q2,q3,by rw[rB hi];exact q4,q5⟩
 ·have hne:o.dst≠some t:=λe=>by
   have:=hn i o ho e;rw[(rB hi).2 (.inl rfl)]at this;cases this
  rw[hput t hne];obtain⟨v1,g1,g2⟩:=j.s1 t v ht λk p hp hpd=>by
   have:=hn k p hp hpd;cases hb:listed.getD k false with
   |false=>rfl
   |true=>rw[(rB hi).2 (.inr hb)]at this;cases this
  exact⟨v1,g1,g2.mono he⟩
 ·by_cases e:x=i
  ·subst e
   rw[ho]at hp;cases hp;rw[hsi]at h3;cases h3;exact⟨v',hself t hd,hv⟩
  ·have hx':listed.getD x false=true:=((rB hi).1 hx).resolve_left e
   rw[hput t (λe2=>e (huq x p t e2 hp hd))];obtain⟨v1,g1,g2⟩:=j.s2 x p s3 t hx' hp hd h3;exact⟨v1,g1,g2.mono he⟩

theorem J.seg {l:List Oper}{H0:zI}{tr:List St}{a:AF}{B0:Nat}{w0:World}{φs:Fi}{Ls:zP}{listed:Array Bool}{m:Nat}{s:St}{X:zI}{φ:Fi}{ac:Act}{w:World}(j:J N ops tr a B0 w0 φs Ls listed m s X φ ac w)
  (t:Tr P N ops Q l 0 a H0 [] [] tr):∀(d:Nat) (su:St),tr[m+d]?=some su->(∀(e:Nat) s2,m<=e->e<m+d->tr[e]?=some s2->s2.k.isE=false/\(s2.k.isN=true->listed.getD e false=true)) ->
  ∃c,su.H=s.H++X.take c/\c<=X.length:=by
 intro d
 induction d with
 |zero=>intro su h _;rw[Nat.add_zero,j.at']at h;cases h;exact⟨0,by simp,by omega⟩
 |succ d ih =>
  intro su h hn;have hlt:m+(d+1)<tr.length:=(List.getElem?_eq_some_iff.1 h).1;have hll:=t.len;obtain⟨s0,hs0⟩:∃s0,tr[m+d]?=some s0:=⟨tr[m+d],List.getElem?_eq_getElem (by omega)⟩;obtain⟨o0,ho0⟩:∃o0,l[m+d]?=some o0:=⟨l[m+d],List.getElem?_eq_getElem (by omega)⟩;obtain⟨c,h1,h2⟩:=ih s0 hs0 λe s2 q1 q2=>hn e s2 q1 (by omega);obtain⟨g1,g2⟩:=hn (m+d) s0 (by omega) (by omega) hs0;cases hN:s0.k.isN with
  |false=>exact⟨c,by rw[(t.ok (m+d) o0 s0 su ho0 hs0 h).same g1 hN];exact h1,h2⟩
  |true =>
   obtain⟨b,q1,q2⟩:=j.xin (m+d) s0 su (by omega) hs0 h hN (g2 hN);have hlen:s0.H.length-s.H.length=c:=by rw[h1];simp[Nat.min_eq_left h2]
   rw[hlen]at q1;have hcl:=(List.getElem?_eq_some_iff.1 q1).1;refine⟨c+1,?_,hcl⟩;rw[q2,h1,List.append_assoc,List.take_add_one,q1];rfl

theorem oF {i:Nat}{o:Oper}(h:tH ops=true)(ho:ops.toList[i]?=some o):uH ops i o=true:=by
 have hi:i<ops.size:=by have:=(List.getElem?_eq_some_iff.1 ho).1;simpa using this
 have:=(List.all_eq_true.1 h) i (List.mem_range.2 hi);rw[ho]at this;exact this
theorem zRg {i:Nat}{o:Oper}(h:uH ops i o=true){e:Edge}(he:e∈o.after)(hb:fV e=true):e.on<i:=by
 simp only[uH,Bool.and_eq_true]at h;have:=(List.all_eq_true.1 h.1.1.1.2) e (by simpa using he);rw[hb]at this;exact Nat.le_of_ble_eq_true this
theorem yGx {i:Nat}{o:Oper}(h:uH ops i o=true){t:Nat}(ht:t∈oK o){j:Nat}{p:Oper}(hp:ops.toList[j]?=some p)(hd:p.dst=some t):(j<i/\vC ops i j=true)\/(i<j/\vC ops j i=true):=by
 simp only[uH,Bool.and_eq_true]at h;have hj:j<ops.size:=by have:=(List.getElem?_eq_some_iff.1 hp).1;simpa using this
 have:=(List.all_eq_true.1 ((List.all_eq_true.1 h.1.1.2) t ht)) j (List.mem_range.2 hj);rw[hp]at this;simp only[zHb.2 hd,Bool.not_true,Bool.false_or,Bool.or_eq_true,Bool.and_eq_true]at this;rcases this with this|this
 ·exact .inl ⟨Nat.le_of_ble_eq_true this.1,this.2⟩
 ·exact .inr ⟨Nat.le_of_ble_eq_true this.1,this.2⟩
theorem zOa {i:Nat}{o:Oper}(h:uH ops i o=true){j:Nat}{want:Bool}(hg:o.guard=some (j,want)):j<i/\vC ops i j=true:=by
 simp only[uH,Bool.and_eq_true,hg]at h;exact⟨Nat.le_of_ble_eq_true h.1.2.1,h.1.2.2⟩
theorem eQ {i:Nat}{o:Oper}(h:uH ops i o=true){t:Nat}(ht:o.dst=some t){j:Nat}{p:Oper}(hp:ops.toList[j]?=some p)(hd:p.dst=some t):j=i:=by
 simp only[uH,Bool.and_eq_true]at h;have hj:j<ops.size:=by have:=(List.getElem?_eq_some_iff.1 hp).1;simpa using this
 have:=(List.all_eq_true.1 h.2) j (List.mem_range.2 hj);rw[hp,ht]at this;simp only[zHb.2 hd,Bool.not_true,Bool.false_or]at this;exact Nat.eq_of_beq_eq_true this

def dN (o:Oper)(a:AF):AF:=(oK o).filterMap λt=>(get a t).map λv=>(t,v)
theorem aK {a:AF}{v:Value}{t:Nat}:∀{l:List Nat},get (l.filterMap λt=>(get a t).map λv=>(t,v)) t=some v->t∈l/\get a t=some v
 |[],h=>by cases h
 |u::l,h=>by
  rw[List.filterMap_cons]at h;cases hu:get a u with
  |none=>rw[hu]at h;obtain⟨h1,h2⟩:=aK h;exact⟨List.mem_cons_of_mem _ h1,h2⟩
  |some x =>
   rw[hu]at h;rcases mF h with⟨rfl,rfl⟩|⟨_,h⟩
   ·exact⟨List.mem_cons_self,hu⟩
   ·obtain⟨h1,h2⟩:=aK h;exact⟨List.mem_cons_of_mem _ h1,h2⟩
theorem bX (o:Oper)(a:AF):Ag o a (dN o a):=by
 unfold dN Ag;generalize oK o=l
 induction l with
 |nil=>intro t h;cases h
 |cons u l ih =>
  intro t ht;rw[List.filterMap_cons];cases hu:get a u with
  |none =>
   simp only[Option.map_none];by_cases e:t=u
   ·subst e
    cases hg:get (l.filterMap λt=>(get a t).map λv=>(t,v)) t with
    |none=>exact hu.symm
    |some x=>rw[(aK hg).2]
   ·exact ih t (by simpa[e]using ht)
  |some x =>
   simp only[Option.map_some];have:=sC (a:=l.filterMap λt=>(get a t).map λv=>(t,v)) (dst:=some u) (v:=x) t;simp only[put,Option.some.injEq]at this;rw[this];split
   ·rename_i e;rw[<-e,hu]
   ·rename_i e;exact ih t (by simpa[Ne.symm e]using ht)

theorem J.slot {H0:zI}{tr:List St}{a:AF}{B0:Nat}{w0:World}{φs:Fi}{Ls:zP}{listed:Array Bool}{m:Nat}{s:St}{X:zI}{φ:Fi}{ac:Act}{w:World}(j:J N ops tr a B0 w0 φs Ls listed m s X φ ac w)
  (hchk:tH ops=true) (t:Tr P N ops Q ops.toList 0 a H0 [] [] tr) {i:Nat} {si:St} (hi:i<=ops.toList.length) (hsi:tr[i]?=some si) {u:Nat} {v:Value}
  (hw:∀(k:Nat) p,ops.toList[k]?=some p->p.dst=some u->(k<i/\listed.getD k false=true)\/(i<=k/\listed.getD k false=false)) (hv:get si.a u=some v):∃v',ac.tmps[u]?=some v'/\Val φ (lens (s.H++X)) v v':=by
 obtain⟨g1,g2⟩:=t.slot i si hi hsi u;by_cases h:∃(k:Nat) (p:Oper),ops.toList[k]?=some p/\p.dst=some u
 ·obtain⟨k,p,hp,hd⟩:=h
  have huq:∀(x:Nat) q,ops.toList[x]?=some q->q.dst=some u->x=k:=λx q hq hqd=>eQ (oF hchk hp) hd hq hqd;rcases hw k p hp hd with⟨h1,h2⟩|⟨h1,h2⟩
  ·have hlt:k<tr.length:=by rw[t.len];omega
   have:=g2 k p tr[k] h1 hp hd (List.getElem?_eq_getElem hlt) λx q _ hq hqd=>huq x q hq hqd;rw[hv]at this;simp only[Option.some.injEq]at this;subst this;exact j.s2 k p tr[k] u h2 hp hd (List.getElem?_eq_getElem hlt)
  ·rw[g1 λx q hx hq hqd=>by have:=huq x q hq hqd;omega]at hv
   exact j.s1 u v hv λx q hq hqd=>by rw[huq x q hq hqd];exact h2
 ·rw[g1 λk p _ hp hd=>h ⟨k,p,hp,hd⟩]at hv
  exact j.s1 u v hv λk p hp hd=>absurd ⟨k,p,hp,hd⟩ h

def cnt (n:Nat)(listed:Array Bool):Nat:=(List.range n).countP λi=>!listed.getD i false
theorem yMa {p q:Nat->Bool}:∀{l:List Nat} {x:Nat},(∀y,q y=true->p y=true)->x∈l->p x=true->q x=false->l.countP q<l.countP p:=by
 have le:∀{l:List Nat},(∀y,q y=true->p y=true)->l.countP q<=l.countP p:=by
  intro l h
  induction l with
  |nil=>exact Nat.le_refl _
  |cons y l ih =>
   rw[List.countP_cons,List.countP_cons];have:=h y;cases hq:q y <;> cases hp:p y <;> simp_all <;> omega
 intro l x h hx hp hq
 induction l with
 |nil=>cases hx
 |cons y l ih =>
  rw[List.countP_cons,List.countP_cons];rcases List.mem_cons.1 hx with rfl|hx
  ·rw[hp,hq]
   have:=le (l:=l) h;simp;omega
  ·have h1:=ih hx
   have h2:=h y;cases hq:q y <;> cases hp:p y <;> simp_all <;> omega
theorem cQ {n i:Nat}{listed:Array Bool}(hi:i<n)(hs:i<listed.size)(hu:listed.getD i false=false):cnt n (listed.setIfInBounds i true)<cnt n listed:=by
 refine yMa (x:=i) (λy hy=>?_) (List.mem_range.2 hi) (by simp only[hu];rfl) (by rw[(rB hs).2 (.inl rfl)];rfl);cases hl:listed.getD y false with
 |false=>rfl
 |true=>rw[(rB hs).2 (.inr hl)]at hy;cases hy

theorem J.all {tr:List St}{a:AF}{B0:Nat}{w0:World}{φs:Fi}{Ls:zP}{listed:Array Bool}{m:Nat}{s:St}{X:zI}{φ:Fi}{ac:Act}{w:World}(j:J N ops tr a B0 w0 φs Ls listed m s X φ ac w)
  (hchk:tH ops=true) (hr:Region.ready .any ops listed=[]):∀i,i<ops.size->listed.getD i false=true:=by
 intro i
 induction i using Nat.strongRecOn with
 |_ i ih =>
  intro hi;cases hl:listed.getD i false with
  |true=>rfl
  |false =>
   have ho:ops[i]?=some ops[i]:=Array.getElem?_eq_getElem hi;have:i∈Region.ready .any ops listed:=by
    rw[mem_ready];refine⟨?_,ops[i],ho,λe he hb=>?_⟩
    ·have hs:i<listed.size:=by rw[j.lsize];exact hi
     simp[hs]at hl ⊢;exact hl
    ·have:=zRg (oF hchk (show ops.toList[i]?=some ops[i] by rw[Array.getElem?_toList];exact ho)) he (by rw[<-zBl];exact hb)
     exact ih e.on this (by omega)
   rw[hr]at this;cases this

theorem J.fin {H0:zI}{tr:List St}{a:AF}{B0:Nat}{w0:World}{φs:Fi}{Ls:zP}{listed:Array Bool}{m:Nat}{s:St}{X:zI}{φ:Fi}{ac:Act}{w:World}{Qp:xR}(j:J N ops tr a B0 w0 φs Ls listed m s X φ ac w)
  (hchk:tH ops=true) (t:Tr P N ops Q ops.toList 0 a H0 [] [] tr) (hQ:∀a H,Q a H->Qp .normal a H) (hall:∀i,i<ops.size->listed.getD i false=true):QC B0 w0 N φs Ls Qp .normal ac w:=by
 have hlen:ops.toList.length=ops.size:=by simp
 have hlt:ops.toList.length<tr.length:=by rw[t.len];omega
 have hn:tr[ops.toList.length]?=some tr[ops.toList.length]:=List.getElem?_eq_getElem hlt;have hm:=j.hm;generalize tr[ops.toList.length]=sn at hn;obtain⟨c,h1,h2⟩:=j.seg t (ops.toList.length-m) sn (by rw[show m+(ops.toList.length-m)=ops.toList.length by omega];exact hn) λe s2 q1 q2 q3=>by
  refine⟨?_,λ_=>hall e (by omega)⟩;cases hb:s2.k.isE with
  |false=>rfl
  |true=>have:=(j.pre e s2 q3 hb).1 (hall e (by omega));omega
 have hX:s.H++X=sn.H++X.drop c:=by rw[h1,List.append_assoc,List.take_append_drop]
 have hdead:qX (X.drop c):=by
  intro p b hp;rw[List.getElem?_drop]at hp;obtain⟨e,s2,q1,q2,q3,q4,q5⟩:=j.xout _ b hp;have he:e<tr.length:=(List.getElem?_eq_some_iff.1 q2).1;have hte:=t.len;have hlen2:sn.H.length=s.H.length+c:=by rw[h1];simp[Nat.min_eq_left h2]
  rcases Nat.lt_or_ge e ops.toList.length with h|h
  ·have:=t.below q2 q3 hn h;omega
  ·obtain rfl:e=ops.toList.length:=by omega
   rw[hn]at q2;cases q2;have:=t.hfin sn hn
   
   have hk:sn.k.isN=false:=by
    cases hb:sn.k.isN with
    |false=>rfl
    |true =>
     have:=q4;have h5:=j.lsize;rw[Array.getD_eq_getD_getElem?,Array.getElem?_eq_none (by omega)]at this;cases this
   rw[hk]at q3;cases q3
 have hl:lens (s.H++X)=lens sn.H:=by rw[hX,uL hdead]
 refine⟨φ,sn.a,sn.H,by rw[<-hl];exact j.ext,by have:=j.rel;rw[hX]at this;exact zMi hdead this,⟨j.size,λu v hv=>?_⟩,hQ _ _ (t.hfin _ hn)⟩;rw[<-hl];exact j.slot hchk t (Nat.le_refl _) hn (λk p hp _=>by
  have hk:=(List.getElem?_eq_some_iff.1 hp).1;exact .inl ⟨hk,hall k (by omega)⟩) hv

theorem J.run {H0:zI}{tr:List St}{a:AF}{B0:Nat}{w0:World}{φs:Fi}{Ls:zP}{Qp:xR}(hchk:tH ops=true)(t:Tr P N ops Q ops.toList 0 a H0 [] [] tr)(hQ:∀a H,Q a H->Qp .normal a H) :
  ∀(fuel:Nat) (listed:Array Bool) (m:Nat) (s:St) (X:zI) (φ:Fi) (ac:Act) (w:World),J N ops tr a B0 w0 φs Ls listed m s X φ ac w->cnt ops.size listed<=fuel->wpAnyIn (fc N) 0 P .any ops (QC B0 w0 N φs Ls Qp) fuel listed ac w:=by
 have hlen:ops.toList.length=ops.size:=by simp
 intro fuel
 induction fuel with
 |zero =>
  intro listed m s X φ ac w j hc;have hall:∀i,i<ops.size->listed.getD i false=true:=by
   intro i hi;cases hl:listed.getD i false with
   |true=>rfl
   |false=>have:=cQ hi (by rw[j.lsize];exact hi) hl;omega
  refine⟨?_,j.fin hchk t hQ hall⟩;rw[List.eq_nil_iff_forall_not_mem];intro i hi;obtain⟨h0,o,ho,_⟩:=mem_ready.1 hi;have hi':=(Array.getElem?_eq_some_iff.1 ho).1;have:=hall i hi';rw[cP h0]at this;cases this
 |succ fuel ih =>
  intro listed m s X φ ac w j hc;refine⟨λhr=>j.fin hchk t hQ (j.all hchk hr),λi hi=>?_⟩;obtain⟨h0,o,ho,hedge⟩:=mem_ready.1 hi;have hio:=(Array.getElem?_eq_some_iff.1 ho).1;have hil:i<listed.size:=by rw[j.lsize];exact hio
  have hun:listed.getD i false=false:=cP h0;have hol:ops.toList[i]?=some o:=by simpa using ho
  have hco:=oF hchk hol;have hready:∀k,vC ops i k=true->listed.getD k false=true:=λk hk=>by
   obtain⟨o',ho',e,he,hb,rfl⟩:=zMq hk;rw[ho]at ho';cases ho';exact hedge e he hb
  have hready2:∀k,wt ops i k=true->listed.getD k false=true:=λk hk=>zTa j.closed hready hk;have hsi:tr[i]?=some (tr[i]'(by rw[t.len];omega)):=List.getElem?_eq_getElem _;generalize tr[i]'(by rw[t.len];omega)=si at hsi;have hsn:tr[i+1]?=some (tr[i+1]'(by rw[t.len];omega)):=List.getElem?_eq_getElem _;generalize tr[i+1]'(by rw[t.len];omega)=sn at hsn;have hok:=t.ok i o si sn hol hsi hsn;rw[Nat.zero_add]at hok;have hcnt:cnt ops.size (listed.setIfInBounds i true)<=fuel:=by have:=cQ hio hil hun;omega
  have huqo:∀(k:Nat) p u,o.dst=some u->ops.toList[k]?=some p->p.dst=some u->k=i:=λk p u h1 h2 h3=>eQ hco h1 h2 h3;have hsm:∀u v,(∀(k:Nat) p,ops.toList[k]?=some p->p.dst=some u->(k<i/\listed.getD k false=true)\/(i<=k/\listed.getD k false=false))->get si.a u=some v->∃v',ac.tmps[u]?=some v'/\Val φ (lens (s.H++X)) v v' :=
   λu v hw hv=>j.slot hchk t (by omega) hsi hw hv
  have hfr:xA φ (lens (s.H++X)) N (dN o si.a) ac:=⟨j.size,λu v hv=>by
   obtain⟨h1,h2⟩:=aK hv;refine hsm u v (λk p hp hd=>?_) h2;rcases yGx hco h1 hp hd with⟨g1,g2⟩|⟨g1,g2⟩
   ·exact .inl ⟨g1,hready k g2⟩
   ·refine .inr ⟨by omega,?_⟩
    cases hb:listed.getD k false with
    |false=>rfl
    |true=>have:=j.closed k i hb g2;rw[hun]at this;cases this⟩
  
  have step:si.k.isE=false->si.k.isN=false->∀v' w',Rel B0 w0 φ (s.H++X) w'->Val φ (lens (s.H++X)) si.v v'->wpAnyIn (fc N) 0 P .any ops (QC B0 w0 N φs Ls Qp) fuel (listed.setIfInBounds i true) (ac.put o.dst v') w':=by
   intro he hn' v' w' hr hv;refine ih _ m s X φ _ w' (j.next (tr:=tr) (l:=[]) (H0:=[]) hol hil hready huqo hsi hok.dst (λe s2 h1 h2=>?_) (λe s2 h1 h2 h3=>.inr (j.preN e s2 h1 h2 h3)) (λe s2 s3 g0 g1 g2 g3 g4=>?_) (λp b hp=>?_) j.hm j.at' (.refl _ _) hr hv) hcnt
   ·rw[<-j.pre e s2 h1 h2]
    constructor
    ·rintro(rfl|h)
     ·rw[hsi]at h1;cases h1;rw[he]at h2;cases h2
     ·exact h
    ·exact .inr
   ·rcases g4 with rfl|g4
    ·rw[hsi]at g1;cases g1;rw[hn']at g3;cases g3
    ·exact j.xin e s2 s3 g0 g1 g2 g3 g4
   ·obtain⟨e,s2,q1,q2,q3,q4,q5⟩:=j.xout p b hp
    exact⟨e,s2,q1,q2,q3,.inr q4,q5⟩
  have guard:rR ops o si.a->Region.wanted o (yielded ops ac.tmps)=true:=by
   intro hw;unfold rR at hw;cases hg:o.guard with
   |none=>simp[Region.wanted,hg]
   |some g =>
    obtain⟨k,want⟩:=g;rw[hg]at hw;obtain⟨d,h1,h2⟩:=hw;obtain⟨g1,g2⟩:=zOa hco hg;obtain⟨v',h3,h4⟩:=hsm d _ (λx p hp hd=>by
     cases hk:ops[k]? with
     |none=>rw[hk]at h1;cases h1
     |some q =>
      rw[hk]at h1;have:x=k:=eQ (oF hchk (by simpa using hk)) h1 hp hd;subst this;exact .inl ⟨g1,hready _ g2⟩) h2
    have:=h4.scalar rfl;subst this;simp[Region.wanted,hg,yielded,h1,h3]
  have pcall:si.k.isE=false->si.k.isN=false->rR ops o si.a->pP P N o (dN o si.a) (s.H++X) si.v->wpOpIn (fc N) 0 P ops (QC B0 w0 N φs Ls Qp) i (wpAnyIn (fc N) 0 P .any ops (QC B0 w0 N φs Ls Qp) fuel (listed.setIfInBounds i true)) ac w:=by
   intro he hn' hw hp;unfold wpOpIn;rw[ho];simp only;rw[if_pos (guard hw)];refine⟨λ_ _=>trivial,?_⟩;obtain⟨v',h1,h2⟩:=hp.go B0 w0 φ w ac j.rel hfr;rcases h2 with h2|⟨f,args,h2,h3⟩
   ·rw[vS h2 (λ_ h=>by cases h)];exact step he hn' v' w j.rel h1
   ·rw[vS h2 (λ_ h=>by cases h)]
    refine⟨(λh=>by cases h),(callsIn_wide (n:=0)).2 (h3.mono ?_)⟩;rintro e w2 ⟨rfl,hb⟩;exact step he hn' v' w2 (j.rel.later hb) h1
  have ceff:rR ops o si.a->∀(Hx Hx':zI),lens Hx=lens (s.H++X)->Rel B0 w0 φ Hx w->vH P N o (dN o si.a) Hx si.v Hx' ->
    (∀φ' v' w',Ext φ (lens (s.H++X)) φ' (lens Hx')->Rel B0 w0 φ' Hx' w'->Val φ' (lens Hx') si.v v'->wpAnyIn (fc N) 0 P .any ops (QC B0 w0 N φs Ls Qp) fuel (listed.setIfInBounds i true) (ac.put o.dst v') w') ->
    wpOpIn (fc N) 0 P ops (QC B0 w0 N φs Ls Qp) i (wpAnyIn (fc N) 0 P .any ops (QC B0 w0 N φs Ls Qp) fuel (listed.setIfInBounds i true)) ac w:=by
   intro hw Hx Hx' hlx hrx hce fin;unfold wpOpIn;rw[ho];simp only;rw[if_pos (guard hw)];refine⟨λ_ _=>trivial,?_⟩;have hgo:=hce.go B0 w0 φ w ac hrx (by rw[hlx];exact hfr);rw[hlx]at hgo;rcases hgo with⟨φ',v',w',q1,q2,q3,q4⟩|⟨f,args,q4,q5⟩|⟨l,f,tmps,as0,bd,q4,q5⟩
   ·rcases q4 with q4|⟨rfl,q4⟩
    ·rw[vS q4 (λ_ h=>by cases h)];exact fin φ' _ w' q1 q2 q3
    ·rw[vS q4 (λ_ h=>by cases h)];exact fin φ' _ w' q1 q2 q3
   ·rw[vS q4 (λ_ h=>by cases h)]
    refine⟨(λh=>by cases h),(callsIn_wide (n:=0)).2 (q5.mono ?_)⟩;rintro e w2 ⟨φ',v',q1,q2,rfl,q3⟩;exact fin φ' v' w2 q1 q2 q3
   ·rw[vS q4 (λ_ h=>by cases h)]
    refine⟨(λh=>by cases h),RoundIn.mono (F:=Fence.wide) q5 ?_⟩;rintro e w2 ⟨φ',v',q1,q2,rfl,q3⟩;exact fin φ' v' w2 q1 q2 q3
  have hkd:=hok.kind;cases hk:si.k with
  |fin=>rw[hk]at hkd;exact hkd.elim
  |skip =>
   rw[hk]at hkd;obtain⟨hw,hv⟩:=hkd;unfold wpOpIn;rw[ho];simp only;have hnw:Region.wanted o (yielded ops ac.tmps)=false:=by
    unfold eC at hw;cases hg:o.guard with
    |none=>rw[hg]at hw;exact hw.elim
    |some g =>
     obtain⟨k,want⟩:=g;rw[hg]at hw;obtain⟨d,h1,h2⟩:=hw;obtain⟨g1,g2⟩:=zOa hco hg;have hwr:∀(x:Nat) p,ops.toList[x]?=some p->p.dst=some d->(x<i/\listed.getD x false=true)\/(i<=x/\listed.getD x false=false):=λx p hp hd=>by
      cases hk:ops[k]? with
      |none=>rw[hk]at h1;cases h1
      |some q =>
       rw[hk]at h1;have:x=k:=eQ (oF hchk (by simpa using hk)) h1 hp hd;subst this;exact .inl ⟨g1,hready _ g2⟩
     rcases h2 with h2|h2
     ·obtain⟨v',h3,h4⟩:=hsm d _ hwr h2
      have:=h4.scalar rfl;subst this;simp[Region.wanted,hg,yielded,h1,h3]
     ·obtain⟨v',h3,h4⟩:=hsm d _ hwr h2
      have:=Val.det rfl h4;subst this;simp[Region.wanted,hg,yielded,h1,h3,undef]
   rw[hnw];refine⟨λ_ _=>trivial,?_⟩;exact step (by rw[hk];rfl) (by rw[hk];rfl) undef w j.rel (by rw[hv];exact aZ)
  |ind =>
   rw[hk]at hkd;exact pcall (by rw[hk];rfl) (by rw[hk];rfl) hkd.1 (hkd.2 _ _ (bX o si.a))
  |pure C =>
   rw[hk]at hkd;obtain⟨hw,hC,hmono,hv⟩:=hkd;refine pcall (by rw[hk];rfl) (by rw[hk];rfl) hw (hv _ _ ?_ (bX o si.a));rcases Nat.lt_or_ge i m with h|h
   ·refine hmono _ _ (t.claim i si hsi C hk (by omega) (m-i) s (by rw[show i+(m-i)=m by omega];exact j.at') λe s2 h1 h2 h3 h4=>?_)
    cases hb:wt ops e i with
    |false=>rfl
    |true =>
     have:=zKw j.closed ((j.pre e s2 h3 h4).2 (by omega)) hb;rw[hun]at this;cases this
   ·
    have key:∀(n d:Nat) (sd:St),d+n=i->m<=d->tr[d]?=some sd->(∀(e:Nat) s2,m<=e->e<d->tr[e]?=some s2->s2.k.isE=false/\(s2.k.isN=true->listed.getD e false=true)) ->
      C (s.H++X):=by
     intro n
     induction n with
     |zero =>
      intro d sd hd hmd hsd hb;obtain rfl:d=i:=by omega
      rw[hsi]at hsd;cases hsd;obtain⟨c,q1,q2⟩:=j.seg t (d-m) si (by rw[show m+(d-m)=d by omega];exact hsi) λe s2 g1 g2=>hb e s2 g1 (by omega);have hX:s.H++X=si.H++X.drop c:=by rw[q1,List.append_assoc,List.take_append_drop]
      rw[hX];exact hmono _ _ hC
     |succ n ihn =>
      intro d sd hd hmd hsd hb;by_cases hdone:sd.k.isE=false/\(sd.k.isN=true->listed.getD d false=true)
      ·have hlt:d+1<tr.length:=by rw[t.len];omega
       refine ihn (d+1) _ (by omega) (by omega) (List.getElem?_eq_getElem hlt) λe s2 g1 g2 g3=>?_;by_cases he:e=d
       ·subst he;rw[hsd]at g3;cases g3;exact hdone
       ·exact hb e s2 g1 (by omega) g3
      ·have hkind:sd.k.isE=true\/sd.k.isN=true:=by
        cases h1:sd.k.isE with
        |true=>exact .inl rfl
        |false =>
         cases h2:sd.k.isN with
         |true=>exact .inr rfl
         |false=>exact absurd ⟨h1,λh=>by rw[h2]at h;cases h⟩ hdone
       have hnl:listed.getD d false=false:=by
        cases hb2:listed.getD d false with
        |false=>rfl
        |true =>
         cases h1:sd.k.isE with
         |true=>have:=(j.pre d sd hsd h1).1 hb2;omega
         |false=>exact absurd ⟨h1,λ_=>hb2⟩ hdone
       obtain⟨c,q1,q2⟩:=j.seg t (d-m) sd (by rw[show m+(d-m)=d by omega];exact hsd) λe s2 g1 g2=>hb e s2 g1 (by omega);have hX:s.H++X=sd.H++X.drop c:=by rw[q1,List.append_assoc,List.take_append_drop]
       rcases(t.back i si C hsi hk).1 d sd (by omega) hsd hkind with⟨x,s3,y1,y2,y3,y4,y5⟩|y|hC2|⟨hdN,n2,s3,s4,b,y1,y2,y3,y4,y5,y6,y7,y8⟩
       ·rw[Nat.zero_add,Nat.zero_add]at y5
        have:=(j.pre x s3 y3 y4).1 (hready2 x y5);omega
       ·rw[Nat.zero_add,Nat.zero_add]at y
        have:=hready2 d y;rw[hnl]at this;cases this
       ·rw[hX];exact hmono _ _ hC2
       ·rw[Nat.zero_add,Nat.zero_add]at y5
        obtain⟨b',z1,z2⟩:=j.xin n2 s3 s4 (by omega) y3 y6 y4 (hready2 n2 y5);have hbb:b'=b:=by
         have:=y7.symm.trans z2;simpa using this.symm
        subst hbb;have hmo:=t.mono d sd hsd (n2-d) s3 (by rw[show d+(n2-d)=n2 by omega];exact y3);have hsl:sd.H.length=s.H.length+c:=by rw[q1,List.length_append,List.length_take];omega
        rw[hX];refine y8 _ hmo ?_;rw[List.getElem?_drop,show c+(s3.H.length-sd.H.length)=s3.H.length-s.H.length by omega];exact z1
    exact key (i-m) m s (by omega) (Nat.le_refl _) j.at' λe s2 g1 g2=>by omega
  |eff =>
   rw[hk]at hkd;obtain⟨hw,kk,hlk,hv⟩:=hkd;have hE:si.k.isE=true:=by rw[hk];rfl
   have hmi:m<=i:=by
    rcases Nat.lt_or_ge i m with h|h
    ·have:=(j.pre i si hsi hE).2 h
     rw[hun]at this;cases this
    ·exact h
   
   have early:∀(d e:Nat) s2,e+d=i->0<d->tr[e]?=some s2->(s2.k.isE=true\/s2.k.isN=true)->(s2.k.isE=true->e<m)/\(s2.k.isN=true->listed.getD e false=true):=by
    intro d
    induction d using Nat.strongRecOn with
    |_ d ihd =>
     intro e s2 hed hd h1 h2;by_cases hx:∃(e':Nat) (s3:St),e<e'/\e'<i/\tr[e']?=some s3/\s3.k.isE=true
     ·obtain⟨e',s3,q1,q2,q3,q4⟩:=hx
      have:=(ihd (i-e') (by omega) e' s3 (by omega) (by omega) q3 (.inl q4)).1 q4;exact⟨λ_=>by omega,λhN=>j.preN e s2 h1 hN (by omega)⟩
     ·have:=(t.chain i si hsi hE).2 e s2 (by omega) h1 h2 λx s3 q1 q2 q3=>by
       cases hb:s3.k.isE with
       |false=>rfl
       |true=>exact absurd ⟨x,s3,q1,q2,q3,hb⟩ hx
      rw[Nat.zero_add,Nat.zero_add]at this;exact⟨λh=>(j.pre e s2 h1 h).1 (hready2 e this),λ_=>hready2 e this⟩
   have hseg:∀(e:Nat) s2,m<=e->e<i->tr[e]?=some s2->s2.k.isE=false/\(s2.k.isN=true->listed.getD e false=true):=by
    intro e s2 g1 g2 g3;refine⟨?_,λhN=>(early (i-e) e s2 (by omega) (by omega) g3 (.inr hN)).2 hN⟩;cases hb:s2.k.isE with
    |false=>rfl
    |true=>have:=(early (i-e) e s2 (by omega) (by omega) g3 (.inl hb)).1 hb;omega
   obtain⟨c,hsH,hcX⟩:=j.seg t (i-m) si (by rw[show m+(i-m)=i by omega];exact hsi) λe s2 g1 g2=>hseg e s2 g1 (by omega);have hX:s.H++X=si.H++X.drop c:=by rw[hsH,List.append_assoc,List.take_append_drop]
   have hlc:si.H.length=s.H.length+c:=by rw[hsH];simp[Nat.min_eq_left hcX]
   have hXY:si.H++(X.drop c++List.replicate kk none)=(s.H++X)++List.replicate kk none:=by rw[hX,List.append_assoc]
   have hlt:i+1<=ops.size:=by omega
   
   have hlive:∀p b,(X.drop c++List.replicate kk none)[p]?=some (some b)->X[c+p]?=some (some b):=by
    intro p b hp;rcases Nat.lt_or_ge p (X.drop c).length with h|h
    ·rw[List.getElem?_append_left h,List.getElem?_drop]at hp;exact hp
    ·rw[List.getElem?_append_right h]at hp;exact absurd hp (lQ _ _ _)
   have hbehind:∀p b,X[c+p]?=some (some b)->∃(e:Nat) (s2:St),i<e/\tr[e]?=some s2/\s2.k.isN=true/\listed.getD e false=true/\s2.H.length=si.H.length+p/\kk<=p:=by
    intro p b hp;obtain⟨e,s2,q1,q2,q3,q4,q5⟩:=j.xout _ b hp;have hei:i<e:=by
     rcases Nat.lt_trichotomy e i with h|h|h
     ·have:=t.below q2 q3 hsi h;omega
     ·subst h;rw[hsi]at q2;cases q2;rw[hk]at q3;cases q3
     ·exact h
    have:=t.mono (i+1) sn hsn (e-(i+1)) s2 (by rw[show i+1+(e-(i+1))=e by omega];exact q2);exact⟨e,s2,hei,q2,q3,q4,by omega,by omega⟩
   have hfree:gZ kk (X.drop c++List.replicate kk none):=by
    intro p hp;have hl:p<(X.drop c++List.replicate kk none).length:=by simp;omega
    cases hq:(X.drop c++List.replicate kk none)[p]? with
    |none=>rw[List.getElem?_eq_getElem hl]at hq;cases hq
    |some x =>
     cases x with
     |none=>rfl
     |some b=>obtain⟨_,_,_,_,_,_,_,h⟩:=hbehind p b (hlive p b hq);omega
   refine ceff hw (si.H++(X.drop c++List.replicate kk none)) _ (by rw[hXY,uL (lQ _)]) (by rw[hXY];exact gP (lQ _) j.rel) (hv _ _ (bX o si.a) hfree λhno p b hp=>by
    obtain⟨e,s2,hei,q2,q3,q4,_⟩:=hbehind p b (hlive p b hp);have hm2:(tr.drop (i+1))[e-(i+1)]?=some s2:=by rw[List.getElem?_drop,show i+1+(e-(i+1))=e by omega];exact q2
    have hw2:=hno (e-(i+1)) s2 hm2 (by cases hk2:s2.k <;> rw[hk2]at q3 <;> first|trivial|cases q3);rw[show i+1+(e-(i+1))=e by omega]at hw2;have hl2:=zKw j.closed q4 hw2;rw[hun]at hl2;cases hl2) λφ' v' w' q1 q2 q3=>?_
   refine ih _ (i+1) sn _ φ' _ w' (j.next (tr:=tr) (l:=[]) (H0:=[]) hol hil hready huqo hsi hok.dst (λe s2 h1 h2=>?_) (λe s2 h1 h2 h3=>?_) (λe s2 s3 g0 g1 g2 g3 g4=>?_) (λp b hp=>?_) hlt hsn q1 q2 q3) hcnt
   ·constructor
    ·rintro(rfl|h)
     ·omega
     ·have:=(j.pre e s2 h1 h2).1 h;omega
    ·intro h
     by_cases he:e=i
     ·exact .inl he
     ·exact .inr ((j.pre e s2 h1 h2).2 ((early (i-e) e s2 (by omega) (by omega) h1 (.inl h2)).1 h2))
   ·by_cases he:e=i
    ·exact .inl he
    ·exact .inr ((early (i-e) e s2 (by omega) (by omega) h1 (.inr h2)).2 h2)
   ·rcases g4 with rfl|g4
    ·omega
    ·obtain⟨b,k1,k2⟩:=j.xin e s2 s3 (by omega) g1 g2 g3 g4
     refine⟨b,?_,k2⟩;have:=t.mono (i+1) sn hsn (e-(i+1)) s2 (by rw[show i+1+(e-(i+1))=e by omega];exact g1);have hin:=(List.getElem?_eq_some_iff.1 k1).1;rw[List.getElem?_drop,List.getElem?_append_left (by rw[List.length_drop];omega),List.getElem?_drop,show c+(kk+(s2.H.length-sn.H.length))=s2.H.length-s.H.length by omega];exact k1
   ·rw[List.getElem?_drop]at hp
    obtain⟨e,s2,k1,k2,k3,k4,k5,k6⟩:=hbehind _ b (hlive _ b hp);exact⟨e,s2,by omega,k2,k3,.inr k4,by omega⟩
  |new =>
   rw[hk]at hkd;obtain⟨hw,b,hsH,hv⟩:=hkd;have hNn:si.k.isN=true:=by rw[hk];rfl
   have hmi:m<=i:=by
    rcases Nat.lt_or_ge i m with h|h
    ·have:=j.preN i si hsi hNn h
     rw[hun]at this;cases this
    ·exact h
   have hge:=t.mono m s j.at' (i-m) si (by rw[show m+(i-m)=i by omega];exact hsi);obtain⟨p,hp⟩:∃p,si.H.length=s.H.length+p:=⟨si.H.length-s.H.length,by omega⟩;have hother:∀(e:Nat) (s2:St),tr[e]?=some s2->s2.k.isN=true->e≠i->s2.H.length≠si.H.length:=by
    intro e s2 h1 h2 h3 h4;rcases Nat.lt_or_ge e i with h|h
    ·have:=t.below h1 h2 hsi h;omega
    ·have:=t.below hsi hNn h1 (by omega);omega
   have hnl:∀b',X[p]?≠some (some b'):=by
    intro b' hx;obtain⟨e,s2,q1,q2,q3,q4,q5⟩:=j.xout p b' hx;refine hother e s2 q2 q3 (λh=>?_) (by omega);subst h;rw[hun]at q4;cases q4
   let Y:zI:=List.replicate (p+1) none
   have hlY:p<(X++Y).length:=by simp[Y];omega
   have hpY:(X++Y)[p]?=some none:=by
    cases hq:(X++Y)[p]? with
    |none=>rw[List.getElem?_eq_getElem hlY]at hq;cases hq
    |some x =>
     cases x with
     |none=>rfl
     |some b'=>exact absurd ((sM (lQ _)).1 hq) (hnl b')
   have hH1:(s.H++(X++Y))[si.H.length]?=some none:=by rw[List.getElem?_append_right (by omega),hp,Nat.add_sub_cancel_left];exact hpY
   have hset:(s.H++(X++Y)).set si.H.length (some b)=s.H++(X++Y).set p (some b):=by rw[List.set_append_right _ _ (by omega),hp,Nat.add_sub_cancel_left]
   have hpl:Place (s.H++(X++Y)) si.H.length (s.H++(X++Y).set p (some b)) b:=by rw[<-hset];exact Place.hole hH1 b
   have hdY:qX Y:=lQ _;refine ceff hw (s.H++(X++Y)) _ (by rw[<-List.append_assoc,uL hdY]) (by rw[<-List.append_assoc];exact gP hdY j.rel) (hv _ _ _ (bX o si.a) hpl) λφ' v' w' q1 q2 q3=>?_;refine ih _ m s ((X++Y).set p (some b)) φ' _ w' (j.next (tr:=tr) (l:=[]) (H0:=[]) hol hil hready huqo hsi hok.dst (λe s2 h1 h2=>?_) (λe s2 h1 h2 h3=>.inr (j.preN e s2 h1 h2 h3)) (λe s2 s3 g0 g1 g2 g3 g4=>?_) (λx b' hx=>?_) j.hm j.at' q1 q2 q3) hcnt
   ·rw[<-j.pre e s2 h1 h2]
    constructor
    ·rintro(rfl|h)
     ·rw[hsi]at h1;cases h1;rw[hk]at h2;cases h2
     ·exact h
    ·exact .inr
   ·by_cases he:e=i
    ·subst he
     rw[hsi]at g1;cases g1;rw[hsn]at g2;cases g2;refine⟨b,?_,hsH⟩;rw[hp,Nat.add_sub_cancel_left,List.getElem?_set_self hlY]
    ·rcases g4 with g4|g4
     ·exact absurd g4 he
     ·obtain⟨b',k1,k2⟩:=j.xin e s2 s3 g0 g1 g2 g3 g4
      have hge2:=t.mono m s j.at' (e-m) s2 (by rw[show m+(e-m)=e by omega];exact g1);have hne:=hother e s2 g1 g3 he;refine⟨b',?_,k2⟩;rw[List.getElem?_set_ne (by omega),List.getElem?_append_left (List.getElem?_eq_some_iff.1 k1).1];exact k1
   ·by_cases hxp:x=p
    ·subst hxp
     exact⟨i,si,hmi,hsi,hNn,.inl rfl,hp⟩
    ·rw[List.getElem?_set_ne (λh=>hxp h.symm)]at hx
     obtain⟨e,s2,k1,k2,k3,k4,k5⟩:=j.xout x b' ((sM hdY).1 hx);exact⟨e,s2,k1,k2,k3,.inr k4,k5⟩

theorem zTd {id:Nat}{Qp:xR}{a:AF}{H:zI}{tr:List St}(hm:P.follows .mixedOrders=true)(hchk:tH ops=true)(g:GD P N ops (λa' H'=>Qp .normal a' H') ops.toList 0 a H [] [] tr):AWp P N (.region id ops true) Qp a H:=by
 unfold AWp;intro B0 w0 φs Ls φ w ac hdm he hr hf;have t:=g.tr;have hlt:0<tr.length:=by rw[t.len];omega
 have h0:tr[0]?=some tr[0]:=List.getElem?_eq_getElem hlt;obtain⟨g1,g2⟩:=t.ha _ h0;refine wpIn_region_any hm ?_;have hrep:∀j,(Array.replicate ops.size false).getD j false=false:=λj=>by
  rcases Nat.lt_or_ge j ops.size with h|h <;> simp[h]
 refine J.run hchk t (λ_ _ h=>h) ops.size _ 0 tr[0] [] φ ac _ ⟨by simp,λj k h=>?_,λe s2 _ _=>?_,λe s2 _ _ h=>by omega,λe s2 s3 _ _ _ _ h=>?_,λp b h=>by simp at h,Nat.zero_le _,h0,by rw[g2,List.append_nil];exact he,by rw[g2,List.append_nil];exact hr.later (Below.refl _ _).drew,hf.size,λu v hv _=>?_,λj o s3 u h=>?_⟩ ?_
 ·rw[hrep]at h;cases h
 ·rw[hrep];simp
 ·rw[hrep]at h;cases h
 ·rw[g2,List.append_nil];exact hf.slot u v hv
 ·rw[hrep]at h;cases h
 ·unfold cnt
  exact Nat.le_trans List.countP_le_length (by simp)
end
end Go.Gh
end
