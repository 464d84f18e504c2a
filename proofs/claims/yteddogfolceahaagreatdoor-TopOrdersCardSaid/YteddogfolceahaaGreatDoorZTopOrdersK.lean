/- Part 11 of the proof of the law TopOrders: texts merged. No condition. -/
import Derived.Test.YteddogfolceahaaGreatDoorZTopOrdersJ
import Derived.Lib.ItoaNum
import Derived.Lib.AppendStr
import Derived.Laws.Append
import Derived.Lib.ItoaLen
set_option linter.unusedSimpArgs false
set_option linter.unusedVariables false
section
set_option maxRecDepth 4000
namespace Go.Proofs.YteddogfolceahaaGreatDoor
open Go.Gh Go.RowKit

theorem isNaN_any (x:Int)(h:SH):SRun Tryz.prog 98 [I x] h fun r q=>r=B false∧q=h:=by
 refine zR Tryz.func98 rfl rfl ?_
 repeat'(first|apply zF|apply zB|apply zE|refine jg ?_ ?_|apply zA|apply zN|exact jS|fail)
 exact jF (k:=by exact⟨congrArg Value.bool (decide_eq_false (fun g=>g rfl)),rfl⟩)
theorem cmpI_any (x y:Int)(h:SH):SRun Tryz.prog 51 [I x,I y] h fun r q=>r=I (sc3 x y)∧q=h:=by
 unfold sc3
 by_cases h1:x<y
 ·rw[if_pos h1]
  refine zY Tryz.func51 rfl rfl ?_
  repeat'(first|apply zF|apply zB|apply zE|refine jg ?_ ?_|refine jq ?_ (c:=by exact⟨_,isNaN_any _ _,jN⟩)|(apply zS;exact rfl)|refine jd ?_|apply zA|apply zP|apply zI|apply zN|exact jS|fail)
  all_goals first
   |exact jX
   |exact jG
 ·rw[if_neg h1]
  by_cases h2:y<x
  ·rw[if_pos h2]
   refine zY Tryz.func51 rfl rfl ?_
   repeat'(first|apply zF|apply zB|apply zE|refine jg ?_ ?_|refine jq ?_ (c:=by exact⟨_,isNaN_any _ _,jN⟩)|(apply zS;exact rfl)|refine jd ?_|refine jf ?_|apply zA|apply zP|apply zI|apply zN|exact jS|fail)
   all_goals first
    |exact jX
    |exact jG
  ·rw[if_neg h2]
   refine zY Tryz.func51 rfl rfl ?_
   repeat'(first|apply zF|apply zB|apply zE|refine jg ?_ ?_|refine jq ?_ (c:=by exact⟨_,isNaN_any _ _,jN⟩)|(apply zS;exact rfl)|refine jf ?_|apply zA|apply zI|apply zN|exact jS|fail)
   all_goals first
    |exact jX
    |exact jG
theorem itoa_any (n:Int)(h:SH)(hn:-9223372036854775808≤n∧n≤9223372036854775807):SRun Tryz.prog 50 [I n] h fun r q=>r=S (Lib.itoa n)∧q=h :=
 srun_libG rfl rfl fun w hg=>(Tryz.strconv_Itoa n hn.1 hn.2 w (Lib.TabBelow.here hg)).mono fun e w' ⟨h1,k,os,h2⟩=>⟨h1,by rw[h2];exact Lib.below_grow _ w (Nat.le_refl _) k os⟩
abbrev nmV (s:Bool)(v:Value)(e:Int):Value:=.agg ⟨[B s,v,I e]⟩
theorem first_any (s:Bool)(e:Int)(ad:Option Addr)(n fl:Nat)(h:SH)(hn:n≤1000000)(he:-4000000≤e∧e≤4000000):SRun Tryz.prog 46 [nmV s (.slice ad n fl) e] h fun r q=>r=I (e+n-1)∧q=h:=by
 refine zR Tryz.func46 rfl rfl ?_
 repeat'(first|apply zF|apply zB|apply zE|refine jg ?_ ?_|(apply o_ar zC;exact rfl;exact rfl)|(apply zM zC;(iterate 3 exact rfl);exact pk)|refine jx ?_|apply zA|apply zN|exact jS|exact jL|exact jW|exact jE|exact True.intro|intro A|exact rfl)
 all_goals first
  |exact jX
  |exact jG
theorem sign_any (s:Bool)(e:Int)(ad:Option Addr)(n fl:Nat)(h:SH):SRun Tryz.prog 52 [nmV s (.slice ad n fl) e] h fun r q=>r=I (if n=0 then 0 else if s=true then -1 else 1)∧q=h:=by
 by_cases hn:n=0
 ·rw[if_pos hn]
  refine zR Tryz.func52 rfl rfl ?_
  repeat'(first|apply zF|apply zB|apply zE|refine jg ?_ ?_|(apply zM zC;(iterate 3 exact rfl);exact pk)|refine jx ?_|refine jd ?_|apply zA|apply zP|apply yP|apply zN|apply zH|exact jS|exact jL|exact jE|exact True.intro|intro A|exact rfl)
  all_goals first
   |exact jX
   |exact jG
 ·rw[if_neg hn]
  cases s
  ·refine zR Tryz.func52 rfl rfl ?_
   repeat'(first|apply zF|apply zB|apply zE|refine jg ?_ ?_|(apply zM zC;(iterate 3 exact rfl);exact pk)|refine jx ?_|(apply zS;exact rfl)|refine jf ?_|apply zA|apply zG|apply zI|apply zN|apply zH|exact jS|exact jL|exact jE|exact True.intro|intro A|exact rfl)
   all_goals first
    |exact jX
    |exact jG
  ·refine zR Tryz.func52 rfl rfl ?_
   repeat'(first|apply zF|apply zB|apply zE|refine jg ?_ ?_|(apply zM zC;(iterate 3 exact rfl);exact pk)|refine jx ?_|(apply yB;exact rfl)|refine jf ?_|apply zA|apply zP|apply yP|apply zN|apply zH|exact jS|exact jL|exact jE|exact True.intro|intro A|exact rfl)
   all_goals first
    |exact jX
    |exact jG

theorem bq_255 (l:List UInt8)(i:Int):0≤bat l i∧bat l i≤255:=by
 unfold bat
 have:=(l.getD i.toNat 0).toNat_lt
 omega
theorem bq_lt {l:List UInt8}{i:Nat}(h:i<l.length):bat l (i:Int)=(l[i].toNat:Int):=by
 unfold bat
 rw[Int.toNat_natCast,List.getD_eq_getElem?_getD,List.getElem?_eq_getElem h];rfl

theorem one_yes (n5 n1:Nat)(set s:List UInt8)(p i0:Nat)(h h1:SH)[hpk:Pick h n1 ⟨[S s],false⟩ h1](hs:s.length≤1000)(hset:set.length≤10)(hp:p<s.length)(hi0:i0<set.length)(he:bat set (i0:Int)=bat s (p:Int)) :
  SRun Tryz.prog 91 [S set,gptr n5 0 1,gptr n1 0 1] ((n5,⟨[I p],false⟩)::h) fun r q=>r=B true∧q=(n5,⟨[I ((p:Int)+1)],false⟩)::h:=by
 refine w_body3 Tryz.func91 rfl rfl ?_
 repeat'(first|apply zF|apply zB|apply zE|refine jg ?_ ?_|apply zA|apply zH|exact jS|fail)
 all_goals try exact jX
 refine zZ (S:=Nat) (fun i=>[(0,S set),(1,gptr n5 0 1),(2,gptr n1 0 1),(7,I set.length),(8,I i)]) (fun _=>(n5,⟨[I p],false⟩)::h) (fun i=>i≤i0) (fun i=>i0+1-i) 0 (Nat.zero_le _) jB jK ?_
 intro i hi
 have hb1:=bq_255 s (p:Int)
 have hb2:=bq_255 set (i:Int)
 by_cases hc2:bat s (p:Int)=bat set (i:Int)
 ·repeat'(first|apply zF|apply zB|apply zE|refine jr ?_|refine jg ?_ ?_|(apply o_ar zC;exact rfl;exact rfl)|(apply zM zC;(iterate 3 exact rfl);exact pk)|(apply zX zC;(iterate 4 exact rfl);exact up)|refine jw ?_|refine jh ?_|(apply yC;exact rfl;(focus first|exact ‹_›|omega))|apply zA|apply zP|apply yP|apply zI|apply zN|apply zH|exact jO|exact jL|exact jW|exact jE|((with_reducible apply Se.mk);first|(focus(repeat(first|exact SetAt.zero));done))|exact True.intro|exact rfl)
  all_goals try exact jX
  exact jG
 ·have hne:i≠i0:=fun g=>hc2 (by rw[g];exact he.symm)
  repeat'(first|apply zF|apply zB|apply zE|refine jr ?_|refine jg ?_ ?_|(apply o_ar zC;exact rfl;exact rfl)|(apply zM zC;(iterate 3 exact rfl);exact pk)|refine jw ?_|refine jh ?_|refine jd ?_|refine jf ?_|apply zA|apply zG|apply zI|apply zH|exact jO|exact jL|exact jW|exact jE|exact True.intro|exact rfl)
  all_goals try exact jX
  exact⟨i+1,by show i+1≤i0;omega,by omega,jB,jK⟩
theorem one_no (n5 n1:Nat)(set s:List UInt8)(p:Nat)(h h1:SH)[hpk:Pick h n1 ⟨[S s],false⟩ h1](hs:s.length≤1000)(hset:set.length≤10)(hp:p≤s.length)(hno:p=s.length∨∀i:Nat,i<set.length→bat s (p:Int)≠bat set (i:Int)) :
  SRun Tryz.prog 91 [S set,gptr n5 0 1,gptr n1 0 1] ((n5,⟨[I p],false⟩)::h) fun r q=>r=B false∧q=(n5,⟨[I p],false⟩)::h:=by
 refine w_body3 Tryz.func91 rfl rfl ?_
 repeat'(first|apply zF|apply zB|apply zE|refine jg ?_ ?_|apply zA|apply zH|exact jS|fail)
 all_goals try exact jX
 refine zZ (S:=Nat) (fun i=>[(0,S set),(1,gptr n5 0 1),(2,gptr n1 0 1),(7,I set.length),(8,I i)]) (fun _=>(n5,⟨[I p],false⟩)::h) (fun i=>i≤set.length) (fun i=>set.length-i) 0 (Nat.zero_le _) jB jK ?_
 intro i hi
 by_cases hil:i<set.length
 ·have hb1:=bq_255 s (p:Int)
  have hb2:=bq_255 set (i:Int)
  by_cases hpl:p<s.length
  ·have hne:¬(bat s (p:Int)=bat set (i:Int)):=by
    rcases hno with g|g
    ·omega
    ·exact g i hil
   repeat'(first|apply zF|apply zB|apply zE|refine jr ?_|refine jg ?_ ?_|(apply o_ar zC;exact rfl;exact rfl)|(apply zM zC;(iterate 3 exact rfl);exact pk)|refine jw ?_|refine jh ?_|refine jd ?_|(apply yD;exact rfl;exact ‹_›)|apply zA|apply zG|apply zI|apply zH|exact jO|exact jL|exact jW|exact jE|exact True.intro|exact rfl)
   all_goals try exact jX
   exact⟨i+1,by show i+1≤_;omega,by omega,jB,jK⟩
  ·repeat'(first|apply zF|apply zB|apply zE|refine jr ?_|refine jg ?_ ?_|(apply o_ar zC;exact rfl;exact rfl)|(apply zM zC;(iterate 3 exact rfl);exact pk)|refine jk ?_|(apply o_sF;(iterate 3 exact rfl);omega;exact rfl)|(apply zS;exact rfl)|refine jd ?_|apply zA|apply zG|apply zI|apply zH|exact jS|exact jL|exact jW|exact jE|exact True.intro|exact rfl)
   all_goals try exact jX
   exact⟨i+1,by show i+1≤_;omega,by omega,jB,jK⟩
 ·repeat'(first|apply zF|apply zB|apply zE|refine jg ?_ ?_|refine jf ?_|apply zA|apply zK|apply zJ|apply zN|apply zV|exact jS|fail)
  all_goals try exact jX
  exact jG
theorem digs_any (n5 n1:Nat)(s:List UInt8)(p k:Nat)(h h1:SH)[hpk:Pick h n1 ⟨[S s],false⟩ h1](hs:s.length≤1000)(hk:p+k≤s.length)(hd:∀j:Nat,p≤j→j<p+k→48≤bat s (j:Int)∧bat s (j:Int)≤57)
  (he:p+k=s.length∨bat s ((p+k:Nat):Int)<48∨57<bat s ((p+k:Nat):Int)) :
  SRun Tryz.prog 92 [gptr n5 0 1,gptr n1 0 1] ((n5,⟨[I p],false⟩)::h) fun r q=>r=S ((s.drop p).take k)∧q=(n5,⟨[I ((p+k:Nat):Int)],false⟩)::h:=by
 refine zY Tryz.func92 rfl rfl ?_
 repeat'(first|apply zF|apply zB|apply zE|refine jg ?_ ?_|(apply zM zC;(iterate 3 exact rfl);exact pk)|apply zA|apply zH|exact jS|exact jL|exact jE|exact True.intro|exact rfl)
 all_goals try exact jX
 refine zZ (S:=Nat) (fun i=>[(0,gptr n5 0 1),(1,gptr n1 0 1),(3,I p)]) (fun i=>(n5,⟨[I ((p+i:Nat):Int)],false⟩)::h) (fun i=>i≤k) (fun i=>k-i) 0 (Nat.zero_le _) jB jK ?_
 intro i hi
 have hb1:=bq_255 s ((p+i:Nat):Int)
 by_cases hik:i<k
 ·have hdi:=hd (p+i) (by omega) (by omega)
  repeat'(first|apply zF|apply zB|apply zE|refine jg ?_ ?_|(apply o_ar zC;exact rfl;exact rfl)|(apply zM zC;(iterate 3 exact rfl);exact pk)|(apply zX zC;(iterate 4 exact rfl);exact up)|refine jw ?_|refine jh ?_|refine jd ?_|apply zA|apply zG|apply zI|apply zH|exact jO|exact jL|exact jW|exact jE|((with_reducible apply Se.mk);first|(focus(repeat(first|exact SetAt.zero));done))|exact True.intro|exact rfl)
  all_goals try exact jX
  exact⟨i+1,by show i+1≤k;omega,by omega,jB,by rw[show((p+i:Nat):Int)+1=((p+(i+1):Nat):Int)by omega];exact jK⟩
 ·obtain rfl:i=k:=by omega
  have hfin:(s.take ((p+i:Nat):Int).toNat).drop ((p:Nat):Int).toNat=(s.drop p).take i:=by
   rw[Int.toNat_natCast,Int.toNat_natCast,List.drop_take,show p+i-p=i by omega]
  by_cases hpl:p+i<s.length
  ·repeat'(first|apply zF|apply zB|apply zE|refine jg ?_ ?_|(apply zM zC;(iterate 3 exact rfl);exact pk)|refine jw ?_|refine jk ?_|refine jh ?_|(apply o_guardT;(iterate 3 exact rfl);all_goals intro hc)|(apply zS;exact rfl)|refine jf ?_|apply zA|apply zK|apply zJ|apply zN|apply zV|exact jO|exact jL|exact jE|exact True.intro|exact rfl)
   all_goals first
    |exact jX
    |exact jF (k:=by exact⟨congrArg S hfin,rfl⟩)
  ·repeat'(first|apply zF|apply zB|apply zE|refine jg ?_ ?_|(apply zM zC;(iterate 3 exact rfl);exact pk)|refine jk ?_|(apply o_sF;(iterate 3 exact rfl);omega;exact rfl)|(apply zS;exact rfl)|apply zA|apply zK|apply zJ|apply zN|apply zV|exact jO|exact jL|exact jE|exact True.intro|exact rfl)
   all_goals first
    |exact jX
    |exact jF (k:=by exact⟨congrArg S hfin,rfl⟩)
def Dg (q:SH)(v:Value)(ds:List UInt8):Prop:=(ds=[]∧v=.slice none 0 0)∨(ds≠[]∧∃(A off fl:Nat) (bs:List UInt8) (ro:Bool) (q1:SH),v=gsl A off bs.length ds.length fl∧Pick q A ⟨bytesV bs,ro⟩ q1∧off+ds.length≤bs.length∧(bs.drop off).take ds.length=ds)
theorem Dg.re {q q':SH}{v:Value}{ds:List UInt8}(g:Dg q v ds)(t:Take q' q):Dg q' v ds:=by
 rcases g with⟨g1,g2⟩|⟨g1,A,off,fl,bs,ro,q1,e1,e2,e3,e4⟩
 ·exact .inl ⟨g1,g2⟩
 ·obtain⟨q2,p2,_⟩:=t.pick e2
  exact .inr ⟨g1,A,off,fl,bs,ro,q2,e1,p2,e3,e4⟩
theorem Dg.len {q:SH}{v:Value}{ds:List UInt8}(g:Dg q v ds):∃ad fl,v=.slice ad ds.length fl:=by
 rcases g with⟨rfl,rfl⟩|⟨g1,A,off,fl,bs,ro,q1,rfl,_⟩
 ·exact⟨_,_,rfl⟩
 ·exact⟨_,_,rfl⟩
end Go.Proofs.YteddogfolceahaaGreatDoor
end
section
set_option maxRecDepth 4000
namespace Go.Gh
open Go.RowKit

theorem run_append_roomS {P:Program}(w:World)(t u ty e:TypeId)(i:TypeInfo)(ht:P.underlying t=some (.slice e))(hu:P.underlying u=some .string)(hi:P.info? e=some i)(hs1:i.size=1)
  (b sLen sCap:Nat) {c:Array Value} {T:TypeId} {fz:Nat × Nat} (hg:w.heap[b]?=some (.cells c T fz)) (hfz:∀i,i<c.size→¬(fz.1≤i∧i<fz.2))
  (s:ByteArray) (us:List Value) (hst:Lib.strCells s=us) (hul:us.length=s.size) (h1:∀u∈us,u.oneCell'=true)
  (hroom:sLen+s.size≤sCap) (hfit:sLen*i.size+us.length≤c.size) :
  (Builtin.append_ #[t,u] ty #[.slice (some ⟨b,0,none⟩) sLen sCap,.string s]).run P w =
   .ok (.slice (some ⟨b,0,none⟩) (sLen+s.size) sCap) (w.setCells b (sLen*i.size) us):=by
 have hf:=Lib.run_firstCells_string (P:=P) w 1 s
 rw[hst]at hf
 have hsc:=run_storeCells_in (P:=P) hg hfit hfz h1
 rw[hs1,Nat.mul_one]at hsc
 simp[Builtin.append_,run_underlying ht,run_underlying hu,sizeOf,typeInfo,hi,hs1,Builtin.lenOf,hroom,hf,Addr.add_lit,hsc]
theorem vrel_bytes (φ:Nat→Loc)(L:Lens)(l:List UInt8):VRel φ L (bytesV l) (bytesV l).toArray:=⟨by simp,fun i v hi=>⟨v,by simpa using hi,by
 have:=(List.getElem?_eq_some_iff.1 hi).2
 simp at this
 rw[←this];exact .int _ _⟩⟩
theorem bytesV_one1 (l:List UInt8):(bytesV l).all one=true:=by
 rw[List.all_eq_true]
 intro v hv
 obtain⟨b,_,rfl⟩:=List.mem_map.1 hv
 rfl
section
variable {P:Program} {N:Fr} {ops:Array Oper} {Q:Post} {rest:List Oper} {o:Oper} {a:AF} {H:Heap}
theorem e_appendS (T U:TypeId)(x y:Operand){A n len E s b:Nat}{z:Value}{cells:List Value}{l:List UInt8}
  (ho:o.op=.call { callee:=.builtin .append,args:=#[x,y],argTypes:=#[T,U] }) (hx:ev a x=some (gsl A 0 n len s)) (hy:ev a y=some (S l))
  (hT:P.underlying T=some (.slice E)) (hU:P.underlying U=some .string) (hI:tinf P E=some (some z,s,b)) (hzs:z.cells.size=s) (hs1:s=1)
  (hA:H[A]?=some (some ⟨cells,false⟩)) (hn:cells.length=n) (hfull:len*s=n) (hb:(len+l.length)*b≤140737488355328) (h63:len+l.length≤maxLen)
  : AEff P N o a H (gsl A 0 (n+l.length*s) (len+l.length) s) (H.set A (some ⟨cells++bytesV l,false⟩)):=by
 have hs:0<s:=by omega
 refine eff_value (fun B0 w0 φ w ac r hf=>?_)
 obtain⟨cap,hu,hlc,hcm,hsz,hmp⟩:=slc_cells r hA hn (zW hf hx)
 have hu2:=(zW hf hy).scalar rfl
 have hus0:=vrel_bytes φ (lens H) l
 have h1:=bytesV_one1 l
 have hl:(bytesV l).length=l.length*s:=by rw[hs1,List.length_map,Nat.mul_one]
 obtain⟨m,hm⟩:∃m,l.length=m:=⟨_,rfl⟩
 obtain⟨news,hnw⟩:∃news,bytesV l=news:=⟨_,rfl⟩
 rw[hm]at hl hb h63 ⊢
 rw[hnw]at hus0 hl h1 ⊢
 obtain⟨us,hue⟩:∃us,us=news:=⟨_,rfl⟩
 have hus:VRel φ (lens H) news us.toArray:=by rw[hue];exact hus0
 obtain⟨olds,hold,hocell⟩:=cells_rel r hA hmp 0 (vs:=cells) (fun i v h=>by simpa using h)
 obtain⟨c,T',fz,k1,k2,k3,k4,k5⟩:=(r.blk A _ hA).ex hmp
 obtain⟨_,hbase⟩:=r.own A _ hA rfl
 obtain⟨i,hi,e1,e2,e3⟩:=tinf_some hI
 subst e2 e3
 simp only at k3 k5
 rw[hbase]at hu k3 hocell
 simp only[Nat.add_zero]at hu hocell
 have hsz':=hsz (by omega)
 rw[hbase]at hsz'
 simp only[Nat.zero_add]at hsz'
 have hul:us.length=m*i.size:=by have:=hus.size;simp at this;omega
 have hol:olds.length=len*i.size:=by have:=hold.size;simp at this;omega
 have hone:=vrel_one hus h1
 have hst:Lib.strCells ⟨⟨l⟩⟩=us:=by rw[hue,←hnw];rfl
 have hss:(⟨⟨l⟩⟩:ByteArray).size=m:=hm
 have hAlt:=(List.getElem?_eq_some_iff.1 hA).1
 by_cases hroom:len+m≤cap
 ·have hfit:len*i.size+us.length≤c.size:=by
   rw[hul,k2,←Nat.add_mul];exact Nat.le_trans (Nat.mul_le_mul_right _ hroom) hsz'
  have hrun:=run_append_roomS (P:=P) w T U o.type E i hT hU hi hs1 (φ A).b len cap k1 (k4 rfl) ⟨⟨l⟩⟩ us hst (by rw[hss,hul,hs1,Nat.mul_one]) hone (by rw[hss];exact hroom) hfit
  rw[hss]at hrun
  have hw:=wrote_setCells us w (φ A).b (len*i.size) c T' fz k1
  have key:=rel_set (w':=w.setCells (φ A).b (len*i.size) us) (g':=⟨cells++news,false⟩) (l':=φ A) r hA rfl hw.os hw.tape hw.output (by rw[hw.size];exact Nat.le_refl _) (fun k _ hk=>hw.oth k hk) (.inl rfl) hbase hmp hmp hw.block (by rw[size_writesA];exact k2)
   (by rw[size_writesA];simp only[List.length_append];omega) (by rw[size_writesA];exact k4 rfl) (by
    by_cases hm0:m=0
    ·subst hm0;exact .inl ⟨by simp at hl;simp[hl],rfl⟩
    ·refine .inr ?_
     simp only[List.length_append]
     have:0<m*i.size:=Nat.mul_pos (by omega) hs
     omega) (fun q v hq=>?_)
  ·refine⟨_,.slice (some ⟨(φ A).b,0,none⟩) (len+m) cap,_,key.1,key.2,?_,exec_append ho (by rw[hu,hu2];exact hrun)⟩
   refine .slc _ _ _ (n+m*i.size) _ _ _ _ ?_ (Nat.le_refl _) hroom hcm (fun _=>⟨by rw[yK,hbase],fun _=>by rw[yK,hbase];omega,by rw[yK];exact hmp⟩)
   rw[lens_set_eq hAlt];simp[hn,hl]
  ·have hext:Ext φ (lens H) (upd φ A (φ A)) (lens (H.set A (some ⟨cells++news,false⟩))):=by
    intro A' n' hn'
    by_cases e:A'=A
    ·subst e
     rw[lens_of hA]at hn'
     simp only[Option.some.injEq]at hn'
     refine⟨_,lens_set_eq hAlt,?_⟩
     simp only[List.length_append]
     by_cases hz0:news.length=0
     ·exact .inl ⟨by omega,by rw[yK]⟩
     ·exact .inr ⟨by omega,fun h=>by rw[hmp]at h;cases h⟩
    ·exact⟨n',by rw[lens_set_ne e];exact hn',.inl ⟨rfl,upd_ne e⟩⟩
   rw[get_writesA _ _ _ _ hfit]
   simp only at hq
   by_cases hql:q<cells.length
   ·rw[List.getElem?_append_left hql]at hq
    rw[if_neg (by omega)]
    obtain⟨v',g3,g4⟩:=k5 q v hq
    rw[hbase,Nat.zero_add]at g3
    exact⟨v',g3,g4.mono hext⟩
   ·rw[List.getElem?_append_right (by omega)]at hq
    obtain⟨v',g3,g4⟩:=hus.get _ v hq
    have hlt:=(Array.getElem?_eq_some_iff.1 g3).1
    simp only[List.size_toArray]at hlt
    refine⟨v',?_,g4.mono hext⟩
    rw[if_pos (by omega),hfull,←hn]
    simpa using g3
 ·have hrun:=Lib.run_append_grow_string (P:=P) w T U o.type E i z hT hU hi e1 ⟨(φ A).b,0,none⟩ len cap olds hol (fun j v h=>hocell j v h) ⟨⟨l⟩⟩ (by rw[hss];omega)
   (by rw[hss];unfold maxLen at h63;omega) (by rw[hss];exact growslice_fits (by omega) hb)
  rw[hss,hst]at hrun
  have hge:len+m≤grownCap w (len+m) cap E:=grownCap_ge w _ _ _
  have hcs:(olds.toArray++us.toArray++Builtin.zeroCells z.cells (grownCap w (len+m) cap E-(len+m))).size=grownCap w (len+m) cap E*i.size:=by
   simp only[Array.size_append,List.size_toArray,size_zeroCells,hzs,hol,hul,←Nat.add_mul]
   congr 1;omega
  have hle:cells.length+news.length≤grownCap w (len+m) cap E*i.size:=by
   rw[hl,hn,←hfull,←Nat.add_mul];exact Nat.mul_le_mul_right _ hge
  have key:=rel_set (w':=w.drew.alloc (.cells (olds.toArray++us.toArray++Builtin.zeroCells z.cells (grownCap w (len+m) cap E-(len+m))) E)) (g':=⟨cells++news,false⟩)
   (l':=⟨w.heap.size,0,grownCap w (len+m) cap E*i.size,false⟩) (T:=E) (fz:=(0,0)) r hA rfl rfl rfl rfl (by simp) (fun k hk _=>by exact heap_alloc_old w.drew (.cells (olds.toArray++us.toArray++Builtin.zeroCells z.cells (grownCap w (len+m) cap E-(len+m))) E) hk) (.inr (Nat.le_refl _)) rfl rfl hmp
   (heap_alloc_new w.drew _) hcs (by simp only[List.length_append];rw[hcs];exact hle) (fun i _ h=>by simp at h) (by
    refine .inr ?_
    simp only[List.length_append]
    have:0<m*i.size:=Nat.mul_pos (by omega) hs
    omega) (fun q v hq=>?_)
  ·refine⟨_,.slice (some ⟨w.heap.size,0,none⟩) (len+m) (grownCap w (len+m) cap E),_,key.1,key.2,?_,exec_append ho (by rw[hu,hu2];exact hrun)⟩
   refine .slc _ _ _ (n+m*i.size) _ _ _ _ ?_ (Nat.le_refl _) hge (grownCap_le_maxLen w _ _ _ h63) (fun _=>⟨by rw[yK],fun _=>by rw[yK];simp,by rw[yK]⟩)
   rw[lens_set_eq hAlt];simp[hn,hl]
  ·have hext:Ext φ (lens H) (upd φ A ⟨w.heap.size,0,grownCap w (len+m) cap E*i.size,false⟩) (lens (H.set A (some ⟨cells++news,false⟩))):=by
    intro A' n' hn'
    by_cases e:A'=A
    ·subst e
     rw[lens_of hA]at hn'
     simp only[Option.some.injEq]at hn'
     refine⟨_,lens_set_eq hAlt,.inr ⟨?_,fun h=>by rw[hmp]at h;cases h⟩⟩
     simp only[List.length_append]
     have:0<m*i.size:=Nat.mul_pos (by omega) hs
     omega
    ·exact⟨n',by rw[lens_set_ne e];exact hn',.inl ⟨rfl,upd_ne e⟩⟩
   simp only at hq
   have hql:q<cells.length+news.length:=by have:=(List.getElem?_eq_some_iff.1 hq).1;simpa using this
   rw[Array.getElem?_append_left (by simp;omega)]
   rcases Nat.lt_or_ge q cells.length with h'|h'
   ·rw[List.getElem?_append_left h']at hq
    obtain⟨v',g3,g4⟩:=hold.get q v hq
    refine⟨v',?_,g4.mono hext⟩
    rw[Array.getElem?_append_left (by have:=hold.size;omega)];exact g3
   ·rw[List.getElem?_append_right h']at hq
    obtain⟨v',g3,g4⟩:=hus.get _ v hq
    refine⟨v',?_,g4.mono hext⟩
    rw[Array.getElem?_append_right (by have:=hold.size;omega)]
    have:=hold.size
    rw[this];exact g3
theorem e_appendS_nil (T U:TypeId)(x y:Operand){E b:Nat}{z:Value}{l:List UInt8}
  (ho:o.op=.call { callee:=.builtin .append,args:=#[x,y],argTypes:=#[T,U] }) (hx:ev a x=some (.slice none 0 0)) (hy:ev a y=some (S l))
  (hT:P.underlying T=some (.slice E)) (hU:P.underlying U=some .string) (hI:tinf P E=some (some z,1,b)) (hzs:z.cells.size=1)
  (hm:0<l.length) (hb:l.length*b≤281474976710656) (h63:l.length≤maxLen)
  {A0:Nat} {H':Heap} (hpl:Place H A0 H' ⟨bytesV l,false⟩):AEff P N o a H (gsl A0 0 l.length l.length 1) H':=by
 refine eff_value (fun B0 w0 φ w ac r hf=>?_)
 have hu2:=(zW hf hy).scalar rfl
 have hu:ac.eval x=.slice none 0 0:=Val.det rfl (zW hf hx)
 have hus:=vrel_bytes φ (lens H) l
 obtain⟨i,hi,e1,e2,e3⟩:=tinf_some hI
 have hss:(⟨⟨l⟩⟩:ByteArray).size=l.length:=rfl
 have hrun:=run_append_nil_string (P:=P) w T U o.type E i z hT hU hi e1 ⟨⟨l⟩⟩ hm (by rw[hss];unfold maxLen at h63;omega) (by rw[hss,e3];exact hb)
 have hmap:(⟨⟨l⟩⟩:ByteArray).data.map (fun b=>Value.int .u8 (b.toNat:Int))=(bytesV l).toArray:=by apply Array.ext';simp[byteV]
 rw[hmap,hss]at hrun
 have hge:l.length≤grownCap w l.length 0 E:=grownCap_ge w _ _ _
 have hcs:((bytesV l).toArray++Builtin.zeroCells z.cells (grownCap w l.length 0 E-l.length)).size=grownCap w l.length 0 E:=by
  simp only[Array.size_append,List.size_toArray,size_zeroCells,hzs,List.length_map]
  omega
 obtain⟨g1,g2⟩:=rel_new (w':=w.drew.alloc (.cells ((bytesV l).toArray++Builtin.zeroCells z.cells (grownCap w l.length 0 E-l.length)) E)) r (ro:=false) (fz:=(0,0)) hpl hus rfl rfl rfl rfl
  (by rw[hcs,List.size_toArray,List.length_map];exact hge) (fun q hq=>by rw[Array.getElem?_append_left hq]) (fun i _ h=>by simp at h)
 refine⟨_,.slice (some ⟨w.heap.size,0,none⟩) l.length (grownCap w l.length 0 E),_,g1,g2,?_,exec_append ho (by rw[hu,hu2];exact hrun)⟩
 refine .slc _ _ _ l.length _ _ _ _ ?_ (Nat.le_refl _) hge (grownCap_le_maxLen w _ _ _ h63) (fun _=>⟨by rw[yK],fun _=>by rw[yK];simp[hcs],by rw[yK]⟩)
 rw[hpl.lens];simp
theorem a_slice3p (T:TypeId)(x hi mx:Operand){A off n len fl E s b:Nat}{z:Option Value}{j k:IntKind}{h:Int}(ho:o.op=.slice T x none (some hi) (some mx))(hx:ev a x=some (gsl A off n len fl))
  (hhi:ev a hi=some (.int j h)) (hmx:ev a mx=some (.int k h)) (hT:P.underlying T=some (.slice E)) (hI:tinf P E=some (z,s,b)) (h1:0≤h∧h≤len):APure P N o a H (gsl A off n h.toNat 0):=by
 refine⟨fun B0 w0 φ w ac r hf=>?_⟩
 have hu:=zW hf hx
 have e2:=(zW hf hhi).scalar rfl
 have e3:=(zW hf hmx).scalar rfl
 generalize hv:ac.eval x=u at hu
 cases hu with
 |slc _ _ _ m _ _ cap c hL hle hc hm hh =>
  refine⟨.slice (some c) h.toNat h.toNat,.slc _ _ _ m _ _ _ _ hL hle (Nat.le_refl _) (by omega) (fun e=>⟨(hh e).1,fun q=>absurd rfl q,(hh e).2.2⟩),fun w _=>?_⟩
  unfold execOp
  simp only[ho,hv,e2,e3,Instr.sliceAt,Instr.slice,Option.map_some,Option.map_none,Sem.run_bind,run_underlying hT,Result.andThen_ok,Instr.sliceBounds,Instr.sliceBound,asIntOf,Sem.run_pure,
   Sem.run_ite,if_pos (show 0≤h∧h≤(cap:Int)from⟨by omega,by omega⟩),if_pos (show 0≤h∧h≤(h.toNat:Int)from⟨by omega,by omega⟩),run_sizeOf hI,Nat.zero_mul]
  simp[Addr.add]
end
section
variable {m:Gh.Mode} {P:Program} {sz:Nat} {ops:Array Oper} {Q:SPost} {rest:List Oper} {a:AF} {h h':SH} {t:Nat} {ty:TypeId} {pos:String} {aft:Array Edge} {tt:TT}
theorem o_appendS {T U:Nat}{x y:Operand}{A n len E s1 b1 s b:Nat}{tk:TK}{z1:Option Value}{z:Value}{cells:List Value}{l:List UInt8}{e2:TE}(ht:tt.Ok P)(hx:ev a x=some (gsl A 0 n len s))(hy:ev a y=some (S l))(hT:tt.get T=some ⟨.slice E,s1,b1,z1⟩)(hE:tt.get E=some ⟨tk,s,b,some z⟩)
  (hU:tt.get U=some e2) (k2:e2.k=.str) (hzs:(vcells z).length=s) (hs:s=1) (hu:Upd h A ⟨cells,false⟩ ⟨cells++bytesV l,false⟩ h') (hn:Ln (cells.length=n)) (hfull:Ln (len*s=n)) (hN:Nat.blt t sz=true)
  (hb:Sd ((len+l.length)*b≤140737488355328∧len+l.length≤maxLen)) (hok:m.efOk ops h') (k:GO (m.ef h) P sz ops Q rest ((t,gsl A 0 (n+l.length*s) (len+l.length) s)::a) h') :
  GO m P sz ops Q (⟨some t,.call { callee:=.builtin .append,args:=#[x,y],argTypes:=#[T,U] },ty,pos,aft,none⟩::rest) a h:=by
 obtain⟨_,hI,hz'⟩:=te_inf (TT.get_ok ht hE)
 have hzs':z.cells.size=s:=by rw[←Array.length_toList,vcells_ok,hzs]
 exact o_upd hN hu (fun _ _ _ hA hag=>e_appendS T U x y rfl ((hag.ev (by simp[Op.operands,Call.operands])).trans hx) ((hag.ev (by simp[Op.operands,Call.operands])).trans hy) (te_slice (TT.get_ok ht hT) rfl) (te_str (TT.get_ok ht hU) k2) (hz' _ rfl▸hI) hzs' hs hA hn.1 hfull.1 hb.1.1 hb.1.2) hok k
theorem o_appendS_nil {T U:Nat}{x y:Operand}{E s1 b1 b:Nat}{tk:TK}{z1:Option Value}{z:Value}{l:List UInt8}{e2:TE}(ht:tt.Ok P)(hx:ev a x=some (.slice none 0 0))(hy:ev a y=some (S l))(hT:tt.get T=some ⟨.slice E,s1,b1,z1⟩)(hE:tt.get E=some ⟨tk,1,b,some z⟩)
  (hU:tt.get U=some e2) (k2:e2.k=.str) (hzs:(vcells z).length=1) (hN:Nat.blt t sz=true) (hb:Sd (0<l.length∧l.length*b≤281474976710656∧l.length≤maxLen))
  (k:∀A,GO (m.nw h (A,⟨bytesV l,false⟩)) P sz ops Q rest ((t,gsl A 0 l.length l.length 1)::a) ((A,⟨bytesV l,false⟩)::h)) :
  GO m P sz ops Q (⟨some t,.call { callee:=.builtin .append,args:=#[x,y],argTypes:=#[T,U] },ty,pos,aft,none⟩::rest) a h:=by
 obtain⟨_,hI,hz'⟩:=te_inf (TT.get_ok ht hE)
 have hzs':z.cells.size=1:=by rw[←Array.length_toList,vcells_ok,hzs]
 exact o_new (v:=fun A=>gsl A 0 _ _ _) hN (fun _ _ _ _ _ hpl hag=>e_appendS_nil T U x y rfl ((hag.ev (by simp[Op.operands,Call.operands])).trans hx) ((hag.ev (by simp[Op.operands,Call.operands])).trans hy) (te_slice (TT.get_ok ht hT) rfl) (te_str (TT.get_ok ht hU) k2) (hz' _ rfl▸hI) hzs' hb.1.1 hb.1.2.1 hb.1.2.2 hpl) k
theorem o_slice3p {T:Nat}{x y z:Operand}{A off n len fl E s1 b1:Nat}{z1:Option Value}{j kk:IntKind}{i:Int}{e:TE}(ht:tt.Ok P)(hx:ev a x=some (gsl A off n len fl))(hy:ev a y=some (.int j i))(hz:ev a z=some (.int kk i))(hT:tt.get T=some ⟨.slice E,s1,b1,z1⟩)(hE:tt.get E=some e)
  (hi:Sd (0≤i∧i≤len)) (hN:Nat.blt t sz=true) (k:GO m.next P sz ops Q rest ((t,gsl A off n i.toNat 0)::a) h):GO m P sz ops Q (⟨some t,.slice T x none (some y) (some z),ty,pos,aft,none⟩::rest) a h :=
 o_pure (fun _ _ _ hag=>let ⟨_,hI,_⟩:=te_inf (TT.get_ok ht hE);a_slice3p T x y z rfl ((hag.ev (by simp[Op.operands,Call.operands])).trans hx) ((hag.ev (by simp[Op.operands,Call.operands])).trans hy) ((hag.ev (by simp[Op.operands,Call.operands])).trans hz) (te_slice (TT.get_ok ht hT) rfl) hI hi.1) hN k
end

theorem bytesV_seg (t:List UInt8)(o n:Nat):bytesV ((t.drop o).take n)=((bytesV t).drop o).take n:=by
 simp[bytesV,List.map_take,List.map_drop]
theorem subAt_seg {t:List UInt8}{o n:Nat}(h:o+n≤t.length):SubAt (bytesV t) (0+o*1) (bytesV ((t.drop o).take n)):=by
 rw[bytesV_seg,Nat.zero_add,Nat.mul_one]
 exact subAt_get (by simp;omega)
end Go.Gh
end
section
set_option maxRecDepth 4000
namespace Go.Proofs.YteddogfolceahaaGreatDoor
open Go.Gh Go.RowKit

theorem seg_bat {bs ds:List UInt8}{off k:Nat}(h:(bs.drop off).take k=ds)(hk:off+k≤bs.length){j:Nat}(hj:j<k):bat bs ((off+j:Nat):Int)=bat ds (j:Int):=by
 rw[←h]
 unfold bat
 rw[Int.toNat_natCast,Int.toNat_natCast,List.getD_eq_getElem?_getD,List.getD_eq_getElem?_getD,List.getElem?_take,if_pos hj,List.getElem?_drop]
theorem zl_drop :∀(l:List UInt8),∃j,zl l=l.drop j∧j≤l.length∧(∀i:Nat,i<j→bat l (i:Int)=48)∧(j<l.length→bat l (j:Int)≠48)
 |[]=>⟨0,rfl,Nat.le_refl _,fun i h=>absurd h (Nat.not_lt_zero i),fun h=>absurd h (Nat.not_lt_zero 0)⟩
 |b::r=>by
  obtain⟨j,h1,h2,h3,h4⟩:=zl_drop r
  have hs:∀i:Nat,bat (b::r) ((i+1:Nat):Int)=bat r (i:Int):=fun i=>rfl
  have h0:bat (b::r) ((0:Nat):Int)=(b.toNat:Int):=rfl
  unfold zl
  split
  ·rename_i g
   refine⟨j+1,h1,by rw[List.length_cons];omega,fun i hi=>?_,fun hj=>?_⟩
   ·cases i with
    |zero=>rw[h0];omega
    |succ i=>rw[hs];exact h3 i (by omega)
   ·rw[hs];exact h4 (by rw[List.length_cons]at hj;omega)
  ·rename_i g
   refine⟨0,rfl,Nat.zero_le _,fun i h=>absurd h (Nat.not_lt_zero i),fun _=>?_⟩
   rw[h0];omega
theorem zr_take :∀(l:List UInt8),∃k,zr l=l.take k∧k≤l.length∧(∀i:Nat,k≤i→i<l.length→bat l (i:Int)=48)∧(0<k→bat l ((k-1:Nat):Int)≠48)
 |[]=>⟨0,rfl,Nat.le_refl _,fun i h1 h2=>absurd h2 (Nat.not_lt_zero i),fun h=>absurd h (Nat.not_lt_zero 0)⟩
 |b::r=>by
  obtain⟨k,h1,h2,h3,h4⟩:=zr_take r
  have hs:∀i:Nat,bat (b::r) ((i+1:Nat):Int)=bat r (i:Int):=fun i=>rfl
  have h0:bat (b::r) ((0:Nat):Int)=(b.toNat:Int):=rfl
  have hlk:(zr r).length=k:=by rw[h1,List.length_take];omega
  unfold zr
  split
  ·rename_i g
   have hk0:k=0:=by rw[←hlk,g.1];rfl
   refine⟨0,rfl,Nat.zero_le _,fun i _ hi=>?_,fun h=>absurd h (Nat.not_lt_zero 0)⟩
   cases i with
   |zero=>rw[h0];omega
   |succ i=>rw[hs];exact h3 i (by omega) (by rw[List.length_cons]at hi;omega)
  ·rename_i g
   refine⟨k+1,by rw[h1];rfl,by rw[List.length_cons];omega,fun i hi hl=>?_,fun _=>?_⟩
   ·cases i with
    |zero=>omega
    |succ i=>rw[hs];exact h3 i (by omega) (by rw[List.length_cons]at hl;omega)
   ·rw[show k+1-1=k by omega]
    cases k with
    |zero =>
     rw[h0]
     have:zr r=[]:=List.length_eq_zero_iff.1 hlk
     have:¬b.toNat=48:=fun e=>g ⟨this,e⟩
     omega
    |succ k=>rw[hs];exact h4 (by omega)
abbrev cutV (A off n k j fl:Nat):Value:=if j<k then gsl A (off+j) n (k-j) fl else sempty
theorem trimL_any (A off fl:Nat)(bs ds:List UInt8)(ro:Bool)(h h1:SH)[hp:Pick h A ⟨bytesV bs,ro⟩ h1](hb:bs.length≤1000000)(hd:off+ds.length≤bs.length)(hs:(bs.drop off).take ds.length=ds)(h0:ds≠[]) :
  SRun Tryz.prog 143 [gsl A off bs.length ds.length fl,.int .u8 48] h fun r q=>(∃j fl',zl ds=ds.drop j∧j≤ds.length∧r=if j<ds.length then gsl A (off+j) bs.length (ds.length-j) fl' else .slice none 0 0)∧q=h:=by
 obtain⟨j0,z1,z2,z3,z4⟩:=zl_drop ds
 have hl0:=List.length_pos_iff.2 h0
 have hlb:(bytesV bs).length=bs.length:=by simp
 refine zY Tryz.func143 rfl rfl ?_
 repeat'(first|apply zF|apply zB|apply zE|refine jg ?_ ?_|apply zA|apply zH|exact jS|fail)
 all_goals try exact jX
 refine zZ (S:=Nat × Nat) (fun x=>[(0,cutV A off bs.length ds.length x.1 x.2),(1,.int .u8 48)]) (fun _=>h) (fun x=>x.1≤j0) (fun x=>j0+1-x.1) (0,fl) (Nat.zero_le _) ⟨congrArg some (show gsl A off bs.length ds.length fl=cutV A off bs.length ds.length 0 fl by unfold cutV;rw[if_pos hl0];rfl),rfl,trivial⟩ jK ?_
 rintro⟨j,fl1⟩ hj
 dsimp only at hj ⊢
 by_cases hjk:j<ds.length
 ·unfold cutV
  rw[if_pos hjk]
  have hb0:=seg_bat hs hd hjk
  have hb255:=bq_255 ds (j:Int)
  have hcell:(bytesV bs)[off+j+(0:Int).toNat*1]?=some (.int .u8 (bat ds (j:Int))):=by
   rw[←hb0,show off+j+(0:Int).toNat*1=(((off+j:Nat):Int)).toNat from rfl]
   have:=cell_bytes (l:=bs) (i:=((off+j:Nat):Int)) (by omega)
   rwa [show 0+(((off+j:Nat):Int)).toNat*1=(((off+j:Nat):Int)).toNat by omega]at this
  by_cases hjj:j<j0
  ·have h48:=z3 j hjj
   by_cases hlast:j+1<ds.length
   ·skip
    repeat'(first|apply zF|apply zB|apply zE|refine jg ?_ ?_|(apply zM zC;(iterate 3 exact rfl);exact pk)|refine jw ?_|refine jh ?_|refine jd ?_|apply zA|apply zG|apply zI|apply zH|exact jO|((with_reducible apply Ln.mk);first|omega)|((with_reducible apply Ce.mk);first|exact hcell)|exact True.intro|exact rfl)
    all_goals try exact jX
    exact⟨(j+1,0),by show j+1≤j0;omega,by show j0+1-(j+1)<j0+1-j;omega,⟨congrArg some (by
     show _=(if j+1<ds.length then _ else _)
     rw[if_pos hlast]
     exact gslE rfl (by show off+j+1*1=off+(j+1);omega) rfl (by show ds.length-j-1=ds.length-(j+1);omega) rfl),rfl,trivial⟩,jK⟩
   ·skip
    repeat'(first|apply zF|apply zB|apply zE|(apply o_cutend zC;(iterate 4 exact rfl);(focus omega);exact rfl)|refine jg ?_ ?_|(apply zM zC;(iterate 3 exact rfl);exact pk)|refine jw ?_|refine jh ?_|refine jd ?_|apply zA|apply zG|apply zI|apply zH|exact jO|((with_reducible apply Ln.mk);first|omega)|((with_reducible apply Ce.mk);first|exact hcell)|exact True.intro|exact rfl)
    all_goals try exact jX
    exact⟨(j+1,0),by show j+1≤j0;omega,by show j0+1-(j+1)<j0+1-j;omega,⟨congrArg some (by
     show _=(if j+1<ds.length then _ else _)
     rw[if_neg hlast]),rfl,trivial⟩,jK⟩
  ·obtain rfl:j=j0:=by omega
   have hne:=z4 hjk
   repeat'(first|apply zF|apply zB|apply zE|refine jg ?_ ?_|(apply zM zC;(iterate 3 exact rfl);exact pk)|refine jw ?_|refine jh ?_|(apply yD;exact rfl;(focus first|exact ‹_›|omega))|apply zA|apply zK|apply zJ|apply zI|apply zN|apply zV|exact jO|((with_reducible apply Ln.mk);first|omega)|((with_reducible apply Ce.mk);first|exact hcell)|exact True.intro|exact rfl)
   all_goals try exact jX
   exact jF (k:=by exact⟨⟨j,fl1,z1,z2,by rw[if_pos hjk];rfl⟩,rfl⟩)
 ·unfold cutV
  rw[if_neg hjk]
  repeat'(first|apply zF|apply zB|apply zE|refine jg ?_ ?_|refine jk ?_|(apply yB;exact rfl)|(apply zS;exact rfl)|apply zA|apply zP|apply zK|apply zJ|apply zN|apply zV|exact jS|fail)
  all_goals try exact jX
  exact jF (k:=by exact⟨⟨j0,0,z1,z2,by rw[if_neg (by omega)];rfl⟩,rfl⟩)
theorem TrimL_any (A off fl:Nat)(bs ds:List UInt8)(ro:Bool)(h h1:SH)[hp:Pick h A ⟨bytesV bs,ro⟩ h1](hb:bs.length≤1000000)(hd:off+ds.length≤bs.length)(hs:(bs.drop off).take ds.length=ds)(h0:ds≠[]) :
  SRun Tryz.prog 95 [gsl A off bs.length ds.length fl,S [48]] h fun r q=>(∃j fl',zl ds=ds.drop j∧j≤ds.length∧r=if j<ds.length then gsl A (off+j) bs.length (ds.length-j) fl' else .slice none 0 0)∧q=h:=by
 have hT:=trimL_any A off fl bs ds ro h h1 hb hd hs h0
 have hl0:=List.length_pos_iff.2 h0
 refine zY Tryz.func95 rfl rfl ?_
 repeat'(first|apply zF|apply zB|apply zE|refine jg ?_ ?_|(refine jc ?_ (c:=by exact⟨_,hT,jN⟩);rintro _ _ ⟨⟨j,fl',e1,e2,rfl⟩,rfl⟩)|refine jw ?_|(apply yB;exact rfl)|(apply zS;exact rfl)|refine jf ?_|apply zA|apply zP|apply zI|apply zN|((with_reducible apply Sd.mk);first|exact True.intro|decide))
 all_goals try exact jX
 exact jF (k:=by exact⟨⟨j,fl',e1,e2,rfl⟩,rfl⟩)
theorem trimR_any (A off fl:Nat)(bs ds:List UInt8)(ro:Bool)(h h1:SH)[hp:Pick h A ⟨bytesV bs,ro⟩ h1](hb:bs.length≤1000000)(hd:off+ds.length≤bs.length)(hs:(bs.drop off).take ds.length=ds) :
  SRun Tryz.prog 147 [gsl A off bs.length ds.length fl,.int .u8 48] h fun r q=>(∃k fl',zr ds=ds.take k∧k≤ds.length∧r=gsl A off bs.length k fl')∧q=h:=by
 obtain⟨k0,z1,z2,z3,z4⟩:=zr_take ds
 have hlb:(bytesV bs).length=bs.length:=by simp
 refine zY Tryz.func147 rfl rfl ?_
 repeat'(first|apply zF|apply zB|apply zE|refine jg ?_ ?_|apply zA|apply zH|exact jS|fail)
 all_goals try exact jX
 refine zZ (S:=Nat × Nat) (fun x=>[(0,gsl A off bs.length x.1 x.2),(1,.int .u8 48)]) (fun _=>h) (fun x=>k0≤x.1∧x.1≤ds.length) (fun x=>x.1) (ds.length,fl) ⟨z2,Nat.le_refl _⟩ jB jK ?_
 rintro⟨k,fl1⟩ ⟨hk1,hk2⟩
 dsimp only at hk1 hk2 ⊢
 by_cases hk0:k=0
 ·subst hk0
  repeat'(first|apply zF|apply zB|apply zE|refine jg ?_ ?_|refine jk ?_|(apply zS;exact rfl)|apply zA|apply zK|apply zJ|apply zN|apply zV|exact jS|fail)
  all_goals try exact jX
  exact jF (k:=by exact⟨⟨0,fl1,by rw[z1,show k0=0 by omega],Nat.zero_le _,rfl⟩,rfl⟩)
 have hb0:=seg_bat hs hd (j:=k-1) (by omega)
 have hb255:=bq_255 ds ((k-1:Nat):Int)
 have hcell:(bytesV bs)[off+((k:Int)-1).toNat*1]?=some (.int .u8 (bat ds ((k-1:Nat):Int))):=by
  rw[←hb0]
  have:=cell_bytes (l:=bs) (i:=((off+(k-1):Nat):Int)) (by omega)
  rwa [show 0+(((off+(k-1):Nat):Int)).toNat*1=off+((k:Int)-1).toNat*1 by omega]at this
 by_cases hkk:k=k0
 ·have hne:=z4 (by omega)
  rw[←hkk]at hne
  repeat'(first|apply zF|apply zB|apply zE|refine jg ?_ ?_|(apply o_ar zC;exact rfl;exact rfl)|(apply zM zC;(iterate 3 exact rfl);exact pk)|refine jw ?_|refine jh ?_|(apply yD;exact rfl;exact ‹_›)|apply zA|apply zK|apply zJ|apply zN|apply zV|exact jO|((with_reducible apply Ln.mk);first|omega)|exact jW|((with_reducible apply Ce.mk);first|exact hcell)|exact True.intro|exact rfl)
  all_goals try exact jX
  exact jF (k:=by exact⟨⟨k,fl1,by rw[z1,hkk],hk2,rfl⟩,rfl⟩)
 ·have h48:=z3 (k-1) (by omega) (by omega)
  repeat'(first|apply zF|apply zB|apply zE|refine jg ?_ ?_|(apply o_ar zC;exact rfl;exact rfl)|(apply zM zC;(iterate 3 exact rfl);exact pk)|refine jw ?_|refine jh ?_|(apply yC;exact rfl;exact ‹_›)|apply zA|apply zG|apply zI|apply zH|exact jO|((with_reducible apply Ln.mk);first|omega)|exact jW|((with_reducible apply Ce.mk);first|exact hcell)|exact True.intro|exact rfl)
  all_goals try exact jX
  exact⟨(k-1,0),⟨by show k0≤k-1;omega,by show k-1≤ds.length;omega⟩,by show k-1<k;omega,⟨congrArg some (gslE rfl rfl rfl (by omega) rfl),rfl,trivial⟩,jK⟩
theorem TrimR_any (A off fl:Nat)(bs ds:List UInt8)(ro:Bool)(h h1:SH)[hp:Pick h A ⟨bytesV bs,ro⟩ h1](hb:bs.length≤1000000)(hd:off+ds.length≤bs.length)(hs:(bs.drop off).take ds.length=ds)(h0:ds≠[]) :
  SRun Tryz.prog 96 [gsl A off bs.length ds.length fl,S [48]] h fun r q=>(∃k fl',zr ds=ds.take k∧k≤ds.length∧r=gsl A off bs.length k fl')∧q=h:=by
 have hT:=trimR_any A off fl bs ds ro h h1 hb hd hs
 have hl0:=List.length_pos_iff.2 h0
 refine zY Tryz.func96 rfl rfl ?_
 repeat'(first|apply zF|apply zB|apply zE|refine jg ?_ ?_|(refine jc ?_ (c:=by exact⟨_,hT,jN⟩);rintro _ _ ⟨⟨j,fl',e1,e2,rfl⟩,rfl⟩)|refine jw ?_|refine ji ?_|(apply yB;exact rfl)|(apply zS;exact rfl)|apply zA|apply zP|apply zI|apply zN|((with_reducible apply Sd.mk);first|exact True.intro|decide))
 all_goals try exact jX
 exact jF (k:=by exact⟨⟨j,fl',e1,e2,rfl⟩,rfl⟩)
theorem TrimL_ne (A off fl:Nat)(bs ds:List UInt8)(ro:Bool)(h h1:SH)[hp:Pick h A ⟨bytesV bs,ro⟩ h1](hb:bs.length≤1000000)(hd:off+ds.length≤bs.length)(hs:(bs.drop off).take ds.length=ds)(h0:ds≠[])(hz:zl ds≠[]) :
  SRun Tryz.prog 95 [gsl A off bs.length ds.length fl,S [48]] h fun r q=>∃fl',r=gsl A (off+(ds.length-(zl ds).length)) bs.length (zl ds).length fl'∧q=h :=
 (TrimL_any A off fl bs ds ro h h1 hb hd hs h0).mono fun r q ⟨⟨j,fl',e1,e2,e3⟩,e4⟩=>by
  have hl:(zl ds).length=ds.length-j:=by rw[e1,List.length_drop]
  have hz2:=List.length_pos_iff.2 hz
  rw[if_pos (by omega)]at e3
  exact⟨fl',by rw[e3];exact gslE rfl (by omega) rfl (by omega) rfl,e4⟩
theorem TrimL_nil (A off fl:Nat)(bs ds:List UInt8)(ro:Bool)(h h1:SH)[hp:Pick h A ⟨bytesV bs,ro⟩ h1](hb:bs.length≤1000000)(hd:off+ds.length≤bs.length)(hs:(bs.drop off).take ds.length=ds)(h0:ds≠[])(hz:zl ds=[]) :
  SRun Tryz.prog 95 [gsl A off bs.length ds.length fl,S [48]] h fun r q=>r=.slice none 0 0∧q=h :=
 (TrimL_any A off fl bs ds ro h h1 hb hd hs h0).mono fun r q ⟨⟨j,fl',e1,e2,e3⟩,e4⟩=>by
  have hl:(zl ds).length=ds.length-j:=by rw[e1,List.length_drop]
  rw[hz]at hl
  have hl:0=ds.length-j:=hl
  rw[if_neg (by omega)]at e3
  exact⟨e3,e4⟩
theorem TrimR_len (A off fl:Nat)(bs ds:List UInt8)(ro:Bool)(h h1:SH)[hp:Pick h A ⟨bytesV bs,ro⟩ h1](hb:bs.length≤1000000)(hd:off+ds.length≤bs.length)(hs:(bs.drop off).take ds.length=ds)(h0:ds≠[]) :
  SRun Tryz.prog 96 [gsl A off bs.length ds.length fl,S [48]] h fun r q=>∃fl',r=gsl A off bs.length (zr ds).length fl'∧q=h :=
 (TrimR_any A off fl bs ds ro h h1 hb hd hs h0).mono fun r q ⟨⟨k,fl',e1,e2,e3⟩,e4⟩=>by
  have hl:(zr ds).length=k:=by rw[e1,List.length_take];omega
  exact⟨fl',by rw[e3,hl],e4⟩
theorem zr_pos :∀ds:List UInt8,zl ds≠[]→(zr (zl ds)).length≠0
 |[],h=>absurd rfl h
 |b::r,h=>by
  unfold zl at h ⊢
  split
  ·rename_i g
   rw[if_pos g]at h
   exact zr_pos r h
  ·rename_i g
   unfold zr
   rw[if_neg (fun k=>g k.2)]
   exact Nat.succ_ne_zero _
theorem trim_nil (s:Bool)(e:Int)(A off fl:Nat)(bs ds:List UInt8)(ro:Bool)(h h1:SH)[hp:Pick h A ⟨bytesV bs,ro⟩ h1](hb:bs.length≤1000000)(hd:off+ds.length≤bs.length)(hs:(bs.drop off).take ds.length=ds)(h0:ds≠[])(he:-4000000≤e∧e≤4000000)(hz:zl ds=[]) :
  SRun Tryz.prog 49 [nmV s (gsl A off bs.length ds.length fl) e] h fun r q=>r=nmV false (.slice none 0 0) 0∧q=h:=by
 have hL:=fun h h1 hp=>@TrimL_nil A off fl bs ds ro h h1 hp hb hd hs h0 hz
 have hR:∀h,SRun Tryz.prog 96 [.slice none 0 0,S [48]] h fun r q=>r=.slice none 0 0∧q=h:=fun h=>by
  refine zY Tryz.func96 rfl rfl ?_
  repeat'(first|apply zF|apply zB|apply zE|refine jg ?_ ?_|refine jk ?_|(apply yB;exact rfl)|apply zA|apply zP|apply zN|exact jS|fail)
  all_goals try exact jX
  exact jG
 refine zR Tryz.func49 rfl rfl ?_
 repeat'((fail_if_success (show SWp _ _ (Code.seq (Code.region 1 _ _) _) _ _ _));(fail_if_success (show SWp _ _ (Code.region 1 _ _) _ _ _));first|apply zF|apply zB|apply zE|refine jy ?_|refine jx ?_|apply zA|intro A)
 rename_i n1
 obtain⟨n2,rfl⟩:∃m,m=A:=⟨_,rfl⟩
 repeat'(first|apply zF|apply zB|apply zE|refine jg ?_ ?_|(apply o_ar zC;exact rfl;exact rfl)|(apply zM zC;(iterate 3 exact rfl);exact pk)|(apply zX zC;(iterate 4 exact rfl);exact up)|(apply yE zC;(iterate 4 exact rfl);exact⟨rfl⟩;exact up)|(apply yT zC;exact rfl;exact rfl;(focus first|with_reducible exact pl54);exact rfl;(focus repeat(first|exact BuildR.nil));exact rfl)|(apply o_slice3n zC;iterate 5 exact rfl)|(refine jc ?_ (c:=by exact⟨_,hL ((n2,⟨[B false,.slice none 0 0,I 0],false⟩)::(n1,⟨[B s,gsl A off bs.length ds.length fl,I e],false⟩)::h) _ (.tail (.tail hp)),jN⟩);rintro _ _ ⟨rfl,rfl⟩)|(refine jc ?_ (c:=by exact⟨_,hR _,jN⟩);rintro _ _ ⟨rfl,rfl⟩)|(apply yB;exact rfl)|apply zA|apply zP|apply zN|exact jS|exact jL|exact jW|exact jE|exact jZ|exact jP|exact True.intro|exact rfl)
 all_goals try exact jX
 (apply zL;(exact(show ResS _ _ _ _ [_] from(res_cell zC rfl rfl rfl (by exact pk) (by first|rfl|exact ‹_›|omega|(simp ;first|done|omega)) (by first|rfl|exact ‹_›|omega|(simp ;first|done|omega)) trivial)));exact⟨rfl,rfl⟩;(focus repeat with_reducible first|exact Take.nil|apply Take.c|apply Take.drop))
theorem trim_ne (s:Bool)(e:Int)(A off fl:Nat)(bs ds:List UInt8)(ro:Bool)(h h1:SH)[hp:Pick h A ⟨bytesV bs,ro⟩ h1](hb:bs.length≤1000000)(hd:off+ds.length≤bs.length)(hs:(bs.drop off).take ds.length=ds)(h0:ds≠[])(he:-4000000≤e∧e≤4000000)(hz:zl ds≠[]) :
  SRun Tryz.prog 49 [nmV s (gsl A off bs.length ds.length fl) e] h fun r q=>r=nmV s (gsl A (off+(ds.length-(zl ds).length)) bs.length (zr (zl ds)).length 0) (e+(((zl ds).length:Int)-((zr (zl ds)).length:Int)))∧q=h:=by
 obtain⟨j,z1,z2,-,-⟩:=zl_drop ds
 obtain⟨k,y1,y2,-,-⟩:=zr_take (zl ds)
 have hl1:(zl ds).length=ds.length-j:=by rw[z1,List.length_drop]
 have hl2:(zr (zl ds)).length=k:=by rw[y1,List.length_take];omega
 have hL:=fun h h1 hp=>@TrimL_ne A off fl bs ds ro h h1 hp hb hd hs h0 hz
 have hs2:(bs.drop (off+(ds.length-(zl ds).length))).take (zl ds).length=zl ds:=by
  rw[hl1,show ds.length-(ds.length-j)=j by omega,←List.drop_drop,z1]
  conv=>rhs;rw[←hs]
  rw[List.drop_take]
 have hR:=fun fl h h1 hp=>@TrimR_len A (off+(ds.length-(zl ds).length)) fl bs (zl ds) ro h h1 hp hb (by omega) hs2 hz
 have hz0:=List.length_pos_iff.2 hz
 have hkl:(zr (zl ds)).length≤(zl ds).length:=by omega
 have hzl:(zl ds).length≤ds.length:=by omega
 have hk0:=zr_pos ds hz
 generalize (zr (zl ds)).length=k2 at *
 generalize (zl ds).length=k1 at *
 refine zR Tryz.func49 rfl rfl ?_
 repeat'((fail_if_success (show SWp _ _ (Code.seq (Code.region 1 _ _) _) _ _ _));(fail_if_success (show SWp _ _ (Code.region 1 _ _) _ _ _));first|apply zF|apply zB|apply zE|refine jy ?_|refine jx ?_|apply zA|intro A)
 rename_i n1
 obtain⟨n2,rfl⟩:∃m,m=A:=⟨_,rfl⟩
 repeat'((fail_if_success (show SWp _ _ (Code.seq (Code.region 2 _ _) _) _ _ _));(fail_if_success (show SWp _ _ (Code.region 2 _ _) _ _ _));first|apply zF|apply zB|apply zE|refine jg ?_ ?_|(apply zM zC;(iterate 3 exact rfl);exact pk)|(apply zX zC;(iterate 4 exact rfl);exact up)|(refine jc ?_ (c:=by exact⟨_,hL ((n2,⟨[B false,.slice none 0 0,I 0],false⟩)::(n1,⟨[B s,gsl A off bs.length ds.length fl,I e],false⟩)::h) _ (.tail (.tail hp)),jN⟩);rintro _ _ ⟨fl2,rfl,rfl⟩)|apply zA|exact jS|exact jL|exact jE|exact jZ|exact True.intro|exact rfl)
 all_goals try exact jX
 repeat'(first|apply zF|apply zB|apply zE|refine jg ?_ ?_|(apply o_ar zC;exact rfl;exact rfl)|(apply zM zC;(iterate 3 exact rfl);exact pk)|(apply yQ zC;(iterate 3 exact rfl);exact pk)|(apply zX zC;(iterate 4 exact rfl);exact up)|(apply yE zC;(iterate 4 exact rfl);exact⟨rfl⟩;exact up)|(apply o_slice3p zC;iterate 5 exact rfl)|(refine jc ?_ (c:=by exact⟨_,hR fl2 ((n2,⟨[B false,.slice none 0 0,I 0],false⟩)::(n1,⟨[B s,gsl A (off+(ds.length-k1)) bs.length k1 fl2,I e],false⟩)::h) _ (.tail (.tail hp)),jN⟩);rintro _ _ ⟨fl3,rfl,rfl⟩)|refine jf ?_|apply zA|apply zI|apply zN|exact jO|exact jL|exact jW|exact jE|exact jZ|exact jP|exact jU|exact True.intro|exact rfl)
 all_goals try exact jX
 (apply zL;(exact(show ResS _ _ _ _ [_] from(res_cell zC rfl rfl rfl (by exact pk) (by first|rfl|exact ‹_›|omega|(simp ;first|done|omega)) (by first|rfl|exact ‹_›|omega|(simp ;first|done|omega)) trivial)));exact⟨rfl,rfl⟩;(focus repeat with_reducible first|exact Take.nil|apply Take.c|apply Take.drop))

def ptx (ds:List UInt8):List UInt8:=if 1<ds.length then ds.take 1++([46]++ds.drop 1)else ds.take 1
def ctx (M:Nm):List UInt8:=if M.2.1=[] then [48] else((if M.1=true then [45]++ptx M.2.1 else ptx M.2.1)++[101])++Lib.itoa (fst M)
def okN (M:Nm):Prop:=M.2.1=[]∨(M.2.1.length≤17∧-400≤fst M∧fst M≤400)
instance (M:Nm):Decidable (okN M):=inferInstanceAs (Decidable (_∨_))
def txN (M:Nm):List UInt8 × Int:=if okN M then(ctx M,0)else([],9)
theorem itoa_len {n:Int}(h:-400≤n∧n≤400):(Lib.itoa n).length≤21:=Lib.itoa_length_le n (by omega) (by omega)
theorem text_any (M:Nm)(v:Value)(h:SH)(hd:Dg h v M.2.1)(hl:M.2.1.length≤1000000)(he:-4000000≤M.2.2∧M.2.2≤4000000) :
  SRun Tryz.prog 26 [nmV M.1 v M.2.2] h fun r q=>r=.tuple #[S (txN M).1,I (txN M).2]∧q=h:=by
 obtain⟨s,ds,e⟩:=M
 dsimp only at hd hl he ⊢
 rcases hd with⟨rfl,rfl⟩|⟨g1,A,off,fl,bs,ro,q1,rfl,hp,g3,g4⟩
 ·have:txN (s,[],e)=([48],0):=by unfold txN;rw[if_pos (.inl rfl)];rfl
  rw[this]
  refine zR Tryz.func26 rfl rfl ?_
  repeat'(first|apply zF|apply zB|apply zE|refine jg ?_ ?_|(apply zM zC;(iterate 3 exact rfl);exact pk)|refine jx ?_|(apply yB;exact rfl)|apply zA|apply zP|apply zN|exact jS|exact jL|exact jE|exact True.intro|intro A|exact rfl)
  all_goals first
   |exact jX
   |exact jG
 have hl0:=List.length_pos_iff.2 g1
 have hF:=fun h=>first_any s e (some ⟨A,off,some bs.length⟩) ds.length fl h hl he
 by_cases hok:ds.length≤17∧-400≤e+ds.length-1∧e+ds.length-1≤400
 ·have htx:txN (s,ds,e)=(((if s=true then [45]++ptx ds else ptx ds)++[101])++Lib.itoa (e+ds.length-1),0):=by
   unfold txN
   rw[if_pos (.inr hok)]
   unfold ctx
   rw[if_neg g1]
   rfl
  rw[htx]
  have hI:=fun h=>itoa_any (e+ds.length-1) h (by omega)
  have hil:=itoa_len (n:=e+ds.length-1) (by omega)
  generalize Lib.itoa (e+ds.length-1)=it at *
  have hlb:(bytesV bs).length=bs.length:=by simp
  have hs1:SubAt (bytesV bs) off (bytesV (ds.take 1)):=by
   have:=subAt_seg (t:=bs) (o:=off) (n:=1) (by omega)
   rw[show(bs.drop off).take 1=ds.take 1 by rw[←g4,List.take_take,Nat.min_eq_left (by omega)]]at this
   rwa [Nat.zero_add,Nat.mul_one]at this
  have ht1:(ds.take 1).length=1:=by rw[List.length_take];omega
  by_cases h1:1<ds.length
  ·have hs2:SubAt (bytesV bs) (off+(1:Int).toNat*1) (bytesV (ds.drop 1)):=by
    have:=subAt_seg (t:=bs) (o:=off+1) (n:=ds.length-1) (by omega)
    rw[show(bs.drop (off+1)).take (ds.length-1)=ds.drop 1 by rw[←g4,List.drop_take,List.drop_drop,List.length_take];congr 1;rw[List.length_drop];omega]at this
    rwa [Nat.zero_add,Nat.mul_one]at this
   have ht2:(ds.drop 1).length=ds.length-1:=List.length_drop
   have hpt:ptx ds=ds.take 1++([46]++ds.drop 1):=if_pos h1
   rw[hpt]
   generalize ds.take 1=d1 at *
   generalize ds.drop 1=d2 at *
   cases s
   ·skip
    refine zR Tryz.func26 rfl rfl ?_
    repeat'(first|apply zF|apply zB|apply zE|refine jg ?_ ?_|(apply zM zC;(iterate 3 exact rfl);exact pk)|(apply yQ zC;(iterate 3 exact rfl);exact pk)|refine jx ?_|(apply o_toString zC;(iterate 6 exact rfl);exact pk)|refine jq ?_ (c:=by exact⟨_,hF _,jN⟩)|refine jq ?_ (c:=by exact⟨_,hI _,jN⟩)|refine jw ?_|refine ji ?_|(apply zS;exact rfl)|refine jd ?_|refine jf ?_|apply zA|apply zI|apply zN|((with_reducible apply Sd.mk);first|exact True.intro|omega|(simp only[List.length_append,List.length_singleton,List.length_nil,List.length_cons];omega))|((with_reducible apply Ln.mk);first|rfl|omega)|exact jE|((with_reducible apply Su.mk);first|exact hs1|exact hs2|exact zQ)|exact True.intro|intro A|exact rfl)
    all_goals first
     |exact jX
     |exact jG
   ·refine zR Tryz.func26 rfl rfl ?_
    repeat'(first|apply zF|apply zB|apply zE|refine jg ?_ ?_|(apply zM zC;(iterate 3 exact rfl);exact pk)|(apply yQ zC;(iterate 3 exact rfl);exact pk)|refine jx ?_|(apply o_toString zC;(iterate 6 exact rfl);exact pk)|refine jq ?_ (c:=by exact⟨_,hF _,jN⟩)|refine jq ?_ (c:=by exact⟨_,hI _,jN⟩)|refine jw ?_|refine ji ?_|(apply yB;exact rfl)|refine jd ?_|refine jf ?_|apply zA|apply zI|apply zN|((with_reducible apply Sd.mk);first|exact True.intro|omega|(simp only[List.length_append,List.length_singleton,List.length_nil,List.length_cons];omega))|((with_reducible apply Ln.mk);first|rfl|omega)|exact jE|((with_reducible apply Su.mk);first|exact hs1|exact hs2|exact zQ)|exact True.intro|intro A|exact rfl)
    all_goals first
     |exact jX
     |exact jG
  ·have hpt:ptx ds=ds.take 1:=if_neg h1
   rw[hpt]
   generalize ds.take 1=d1 at *
   cases s
   ·skip
    refine zR Tryz.func26 rfl rfl ?_
    repeat'(first|apply zF|apply zB|apply zE|refine jg ?_ ?_|(apply zM zC;(iterate 3 exact rfl);exact pk)|(apply yQ zC;(iterate 3 exact rfl);exact pk)|refine jx ?_|(apply o_toString zC;(iterate 6 exact rfl);exact pk)|refine jq ?_ (c:=by exact⟨_,hF _,jN⟩)|refine jq ?_ (c:=by exact⟨_,hI _,jN⟩)|refine jw ?_|refine ji ?_|(apply zS;exact rfl)|refine jf ?_|apply zA|apply zI|apply zN|((with_reducible apply Sd.mk);first|exact True.intro|omega|(simp only[List.length_append,List.length_singleton,List.length_nil,List.length_cons];omega))|((with_reducible apply Ln.mk);first|rfl|omega)|exact jE|((with_reducible apply Su.mk);first|exact hs1|exact zQ)|exact True.intro|intro A|exact rfl)
    all_goals first
     |exact jX
     |exact jG
   ·refine zR Tryz.func26 rfl rfl ?_
    repeat'(first|apply zF|apply zB|apply zE|refine jg ?_ ?_|(apply zM zC;(iterate 3 exact rfl);exact pk)|(apply yQ zC;(iterate 3 exact rfl);exact pk)|refine jx ?_|(apply o_toString zC;(iterate 6 exact rfl);exact pk)|refine jq ?_ (c:=by exact⟨_,hF _,jN⟩)|refine jq ?_ (c:=by exact⟨_,hI _,jN⟩)|refine jw ?_|refine ji ?_|(apply yB;exact rfl)|refine jf ?_|apply zA|apply zI|apply zN|((with_reducible apply Sd.mk);first|exact True.intro|omega|(simp only[List.length_append,List.length_singleton,List.length_nil,List.length_cons];omega))|((with_reducible apply Ln.mk);first|rfl|omega)|exact jE|((with_reducible apply Su.mk);first|exact hs1|exact zQ)|exact True.intro|intro A|exact rfl)
    all_goals first
     |exact jX
     |exact jG
 ·have htx:txN (s,ds,e)=([],9):=by
   unfold txN
   rw[if_neg]
   rintro(g|g)
   ·exact g1 g
   ·exact hok g
  rw[htx]
  refine zR Tryz.func26 rfl rfl ?_
  repeat'(first|apply zF|apply zB|apply zE|refine jg ?_ ?_|(apply zM zC;(iterate 3 exact rfl);exact pk)|(apply yQ zC;(iterate 3 exact rfl);exact pk)|refine jx ?_|refine jq ?_ (c:=by exact⟨_,hF _,jN⟩)|refine jw ?_|refine jk ?_|(apply o_guardF;(iterate 3 exact rfl);all_goals intro hc)|(apply yB;exact rfl)|refine jd ?_|refine jf ?_|apply zA|apply zP|apply zI|apply zN|exact jS|exact jL|exact jE|exact jU|exact True.intro|intro A|exact rfl)
  all_goals first
   |exact jX
   |exact jG

theorem bat_rt (a b:List UInt8)(j:Nat):bat (a++b) ((a.length+j:Nat):Int)=bat b (j:Int):=by
 unfold bat
 rw[Int.toNat_natCast,Int.toNat_natCast,List.getD_eq_getElem?_getD,List.getD_eq_getElem?_getD,List.getElem?_append_right (by omega),show a.length+j-a.length=j by omega]
theorem bat_lt2 (a b:List UInt8){j:Nat}(h:j<a.length):bat (a++b) (j:Int)=bat a (j:Int):=by
 unfold bat
 rw[Int.toNat_natCast,List.getD_eq_getElem?_getD,List.getD_eq_getElem?_getD,List.getElem?_append_left h]
theorem bat_dig {l:List UInt8}(h:isD l){j:Nat}(hj:j<l.length):48≤bat l (j:Int)∧bat l (j:Int)≤57:=by
 have:=h _ (List.getElem_mem hj)
 rw[bq_lt hj]
 omega
theorem dec_ok (u:Nat):isD (Lib.decDigits u)∧dv (Lib.decDigits u)=u∧Lib.decDigits u≠[]:=by
 induction u using Nat.strongRecOn with
 |_ u ih =>
  have hb:∀n,n<10→(UInt8.ofNat (48+n)).toNat=48+n:=fun n hn=>by rw[UInt8.toNat_ofNat'];omega
  rw[Lib.decDigits]
  split
  ·rename_i h
   refine⟨fun b hx=>?_,?_,by simp⟩
   ·obtain rfl:=List.mem_singleton.1 hx
    rw[hb u h];omega
   ·rw[dv_cons,hb u h]
    show(48+u-48)*1+0=u
    omega
  ·rename_i h
   obtain⟨h1,h2,h3⟩:=ih (u/10) (by omega)
   refine⟨isD_app.2 ⟨h1,fun b hx=>?_⟩,?_,by simp⟩
   ·obtain rfl:=List.mem_singleton.1 hx
    rw[hb _ (Nat.mod_lt _ (by decide))]
    omega
   ·rw[dv_app,h2,dv_cons,hb _ (Nat.mod_lt _ (by decide))]
    show u/10*10+((48+u%10-48)*1+0)=u
    omega
def esg (n:Int):List UInt8:=if n<0 then [45] else []
theorem itoa_eq (n:Int):Lib.itoa n=esg n++Lib.decDigits n.natAbs:=by
 unfold Lib.itoa esg
 split
 ·rfl
 ·rw[show n.toNat=n.natAbs by omega]
  rfl
theorem ctx_facts {M:Nm}(hT:okT M)(h0:M.2.1≠[])(hN:okN M):∃(s:List UInt8) (p0 pe pd n:Nat),ctx M=s∧p0=(if M.1=true then 1 else 0)∧pe=p0+(ptx M.2.1).length∧pd=pe+1+(if fst M<0 then 1 else 0)∧pd+n=s.length∧1≤n∧s.length≤64 ∧
  (M.1=true→bat s 0=45)∧(M.1=false→bat s 0≠45∧bat s 0≠43)∧(48≤bat s (p0:Int)∧bat s (p0:Int)≤57)∧(s.drop p0).take 1=M.2.1.take 1 ∧
  (1<M.2.1.length→bat s ((p0+1:Nat):Int)=46∧(∀j:Nat,p0+2≤j→j<p0+2+(M.2.1.length-1)→48≤bat s (j:Int)∧bat s (j:Int)≤57)∧(s.drop (p0+2)).take (M.2.1.length-1)=M.2.1.drop 1) ∧
  bat s (pe:Int)=101∧(fst M<0→bat s ((pe+1:Nat):Int)=45)∧(¬fst M<0→bat s ((pe+1:Nat):Int)≠45∧bat s ((pe+1:Nat):Int)≠43) ∧
  (∀j:Nat,pd≤j→j<pd+n→48≤bat s (j:Int)∧bat s (j:Int)≤57)∧(s.drop pd).take n=Lib.decDigits (fst M).natAbs∧n=(Lib.decDigits (fst M).natAbs).length:=by
 obtain⟨neg,ds,e⟩:=M
 have hD:=hT.d
 dsimp only at h0 hD ⊢
 obtain⟨d1,d2,d3⟩:=dec_ok (fst (neg,ds,e)).natAbs
 have hok:ds.length≤17∧-400≤fst (neg,ds,e)∧fst (neg,ds,e)≤400:=by
  rcases hN with g|g
  ·exact absurd g h0
  ·exact g
 have hil:=itoa_len (n:=fst (neg,ds,e)) ⟨hok.2.1,hok.2.2⟩
 rw[itoa_eq]at hil
 have hctx:ctx (neg,ds,e)=(if neg=true then [45] else [])++(ptx ds++([101]++(esg (fst (neg,ds,e))++Lib.decDigits (fst (neg,ds,e)).natAbs))):=by
  unfold ctx
  rw[if_neg h0,itoa_eq]
  cases neg
  ·simp
  ·simp
 generalize fst (neg,ds,e)=f at *
 generalize Lib.decDigits f.natAbs=dd at *
 have hl0:=List.length_pos_iff.2 h0
 have hn1:=List.length_pos_iff.2 d3
 obtain⟨SG,hSG⟩:∃SG,(if neg=true then [(45:UInt8)] else [])=SG:=⟨_,rfl⟩
 have hSl:SG.length=if neg=true then 1 else 0:=by rw[←hSG];cases neg <;> rfl
 obtain⟨ES,hES⟩:∃ES,esg f=ES:=⟨_,rfl⟩
 have hEl:ES.length=if f<0 then 1 else 0:=by rw[←hES];unfold esg;split <;> rfl
 rw[hSG,hES]at hctx
 rw[hES]at hil
 have ht1:(ds.take 1).length=1:=by rw[List.length_take];omega
 have ht2:(ds.drop 1).length=ds.length-1:=List.length_drop
 
 have hpl:(ptx ds).length=if 1<ds.length then ds.length+1 else 1:=by
  unfold ptx
  split
  ·rw[List.length_append,List.length_append,ht1,ht2]
   show 1+(1+_)=_
   omega
  ·exact ht1
 have hds0:∀R:List UInt8,bat (ptx ds++R) ((0:Nat):Int)=bat ds ((0:Nat):Int)∧((ptx ds++R).drop 0).take 1=ds.take 1:=fun R=>by
  cases ds with
  |nil=>exact absurd rfl h0
  |cons b r =>
   unfold ptx
   split <;> exact⟨rfl,rfl⟩
 have hb0:=bat_dig hD (j:=0) hl0
 obtain⟨s,hs⟩:∃s,SG++(ptx ds++([101]++(ES++dd)))=s:=⟨_,rfl⟩
 have hsl:s.length=SG.length+((ptx ds).length+(1+(ES.length+dd.length))):=by
  rw[←hs,List.length_append,List.length_append,List.length_append,List.length_append]
  rfl
 rw[List.length_append]at hil
 have r1:∀j:Nat,bat s ((SG.length+j:Nat):Int)=bat (ptx ds++([101]++(ES++dd))) (j:Int):=fun j=>by rw[←hs,bat_rt]
 have r2:∀j:Nat,bat s ((SG.length+((ptx ds).length+j):Nat):Int)=bat ([101]++(ES++dd)) (j:Int):=fun j=>by rw[r1,bat_rt]
 have r3:∀j:Nat,bat s ((SG.length+((ptx ds).length+(1+j)):Nat):Int)=bat (ES++dd) (j:Int):=fun j=>by
  rw[r2]
  exact bat_rt [101] (ES++dd) j
 have r4:∀j:Nat,bat s ((SG.length+((ptx ds).length+(1+(ES.length+j))):Nat):Int)=bat dd (j:Int):=fun j=>by rw[r3,bat_rt]
 refine⟨s,SG.length,SG.length+(ptx ds).length,SG.length+(ptx ds).length+1+ES.length,dd.length,by rw[hctx,hs],hSl,rfl,by rw[hEl],by rw[hsl];omega,hn1,?_,?_,?_,?_,?_,?_,?_,?_,?_,?_,?_,rfl⟩
 ·rw[hsl,hpl,hSl]
  split <;> split <;> omega
 ·rintro rfl
  rw[←hs,←hSG]
  rfl
 ·rintro rfl
  have h2:=(hds0 ([101]++(ES++dd))).1
  rw[show(if false=true then [(45:UInt8)] else [])=[] from rfl]at hSG
  have e0:bat s 0=bat ds ((0:Nat):Int):=by
   have h3:=r1 0
   rw[←hSG]at h3
   exact h3.trans h2
  omega
 ·have h3:=r1 0
  rw[Nat.add_zero]at h3
  rw[h3,(hds0 _).1]
  exact hb0
 ·rw[←hs,List.drop_left]
  have:=(hds0 ([101]++(ES++dd))).2
  exact this
 ·intro h1
  have hpt:ptx ds=ds.take 1++([46]++ds.drop 1):=if_pos h1
  have q1:∀j:Nat,bat s ((SG.length+(1+j):Nat):Int)=bat ([46]++ds.drop 1++([101]++(ES++dd))) (j:Int):=fun j=>by
   rw[r1,hpt,List.append_assoc,show 1+j=(ds.take 1).length+j by omega,bat_rt]
  have q2:∀j:Nat,bat s ((SG.length+(1+(1+j)):Nat):Int)=bat (ds.drop 1++([101]++(ES++dd))) (j:Int):=fun j=>by
   rw[q1,List.append_assoc]
   exact bat_rt [46] _ j
  refine⟨?_,fun j h2 h3=>?_,?_⟩
  ·have:=q1 0
   rw[show SG.length+(1+0)=SG.length+1 from rfl]at this
   rw[this]
   rfl
  ·obtain⟨i,rfl⟩:∃i,j=SG.length+(1+(1+i)):=⟨j-SG.length-2,by omega⟩
   rw[q2,bat_lt2 _ _ (by omega)]
   exact bat_dig (fun b hb=>hD b (List.mem_of_mem_drop hb)) (by omega)
  ·rw[←hs,hpt,show SG.length+2=SG.length+((ds.take 1).length+1)by omega,←List.drop_drop,List.drop_left,←List.drop_drop,List.append_assoc,List.drop_left,←ht2]
   show(ds.drop 1++([101]++(ES++dd))).take (ds.drop 1).length=ds.drop 1
   rw[List.take_left]
 ·have:=r2 0
  rw[show SG.length+((ptx ds).length+0)=SG.length+(ptx ds).length from rfl]at this
  rw[this]
  rfl
 ·intro hf
  have h3:=r3 0
  rw[←hES,show esg f=[45] from if_pos hf,show SG.length+((ptx ds).length+(1+0))=SG.length+(ptx ds).length+1 by omega]at h3
  rw[h3]
  rfl
 ·intro hf
  have h3:=r3 0
  rw[←hES,show esg f=[] from if_neg hf,show SG.length+((ptx ds).length+(1+0))=SG.length+(ptx ds).length+1 by omega]at h3
  have:=bat_dig d1 (j:=0) hn1
  rw[h3]
  show bat dd ((0:Nat):Int)≠45∧bat dd ((0:Nat):Int)≠43
  omega
 ·intro j h2 h3
  obtain⟨i,rfl⟩:∃i,j=SG.length+((ptx ds).length+(1+(ES.length+i))):=⟨j-(SG.length+(ptx ds).length+1+ES.length),by omega⟩
  rw[r4]
  exact bat_dig d1 (by omega)
 ·rw[←hs,show SG.length+(ptx ds).length+1+ES.length=SG.length+((ptx ds).length+(1+ES.length))by omega,←List.drop_drop,List.drop_left,←List.drop_drop,List.drop_left,←List.drop_drop]
  show((ES++dd).drop ES.length).take _=_
  rw[List.drop_left,List.take_length]

theorem rdigit_any (c:Int)(h:SH):SRun Tryz.prog 135 [.int .u8 c] h fun r q=>r=B (decide (48≤c∧c≤57))∧q=h:=by
 by_cases h1:48≤c
 ·by_cases h2:c≤57
  ·rw[decide_eq_true ⟨h1,h2⟩]
   refine zR Tryz.func135 rfl rfl ?_
   repeat'(first|apply zF|apply zB|apply zE|refine jg ?_ ?_|refine jw ?_|refine jh ?_|apply zA|apply zN|exact jS|fail)
   all_goals try exact jX
   exact jF (k:=by exact⟨congrArg Value.bool (decide_eq_true h2),rfl⟩)
  ·rw[decide_eq_false fun g=>h2 g.2]
   refine zR Tryz.func135 rfl rfl ?_
   repeat'(first|apply zF|apply zB|apply zE|refine jg ?_ ?_|refine jw ?_|refine jh ?_|apply zA|apply zN|exact jS|fail)
   all_goals try exact jX
   exact jF (k:=by exact⟨congrArg Value.bool (decide_eq_false h2),rfl⟩)
 ·rw[decide_eq_false fun g=>h1 g.1]
  refine zR Tryz.func135 rfl rfl ?_
  repeat'(first|apply zF|apply zB|apply zE|refine jg ?_ ?_|refine jk ?_|(apply o_sF;(iterate 3 exact rfl);exact ‹_›;exact rfl)|apply zA|apply zN|exact jS|fail)
  all_goals try exact jX
  exact jG
theorem rdigs_any (s:List UInt8)(p:Nat)(h:SH)(hs:s.length≤9223372036854775807)(hp:p≤s.length):SRun Tryz.prog 81 [S s,I p] h fun r q =>
  ∃k:Nat,r=I k∧q=h∧p+k≤s.length∧∀j:Nat,p≤j→j<p+k→48≤bat s (j:Int)∧bat s (j:Int)≤57:=by
 refine zY Tryz.func81 rfl rfl ?_
 repeat'(first|apply zF|apply zB|apply zE|refine jg ?_ ?_|apply zA|apply zH|exact jS|fail)
 all_goals try exact jX
 refine zZ (S:=Nat) (fun i=>[(0,S s),(1,I p),(5,I i)]) (fun _=>h) (fun i=>p+i≤s.length∧∀j:Nat,p≤j→j<p+i→48≤bat s (j:Int)∧bat s (j:Int)≤57) (fun i=>s.length-i) 0 ⟨hp,fun j h1 h2=>by omega⟩ jB jK ?_
 rintro i ⟨hi,hd⟩
 have hb1:=bq_255 s ((p:Int)+(i:Int))
 have hD:=fun c h=>rdigit_any c h
 by_cases hil:p+i<s.length
 ·by_cases hc2:48≤bat s ((p:Int)+(i:Int))∧bat s ((p:Int)+(i:Int))≤57
  ·have hD1:=hD (bat s ((p:Int)+(i:Int)))
   rw[decide_eq_true hc2]at hD1
   repeat'(first|apply zF|apply zB|apply zE|refine jg ?_ ?_|(apply o_ar zC;exact rfl;exact rfl)|refine jq ?_ (c:=by exact⟨_,hD1 _,jN⟩)|refine jw ?_|refine jh ?_|(apply yB;exact rfl)|apply zA|apply zG|apply zI|apply zH|exact jO|exact jW|fail)
   all_goals try exact jX
   exact⟨i+1,⟨by omega,fun j g1 g2=>by
    by_cases e:j=p+i
    ·subst e
     rw[show((p+i:Nat):Int)=(p:Int)+i by omega]
     exact hc2
    ·exact hd j g1 (by omega)⟩,by omega,jB,jK⟩
  ·have hD1:=hD (bat s ((p:Int)+(i:Int)))
   rw[decide_eq_false hc2]at hD1
   repeat'(first|apply zF|apply zB|apply zE|refine jg ?_ ?_|(apply o_ar zC;exact rfl;exact rfl)|refine jq ?_ (c:=by exact⟨_,hD1 _,jN⟩)|refine jw ?_|refine jh ?_|(apply zS;exact rfl)|apply zA|apply zK|apply zJ|apply zN|apply zV|exact jO|exact jW|fail)
   all_goals try exact jX
   exact jF (k:=by exact⟨i,rfl,rfl,hi,hd⟩)
 ·repeat'(first|apply zF|apply zB|apply zE|refine jg ?_ ?_|(apply o_ar zC;exact rfl;exact rfl)|refine jk ?_|(apply o_sF;(iterate 3 exact rfl);omega;exact rfl)|(apply zS;exact rfl)|apply zA|apply zK|apply zJ|apply zN|apply zV|exact jS|exact jW|fail)
  all_goals try exact jX
  exact jF (k:=by exact⟨i,rfl,rfl,hi,hd⟩)
theorem decd_len {v:Nat}(h:v≤1000000):(Lib.decDigits v).length≤21:=by
 have:=Lib.itoa_length_le (v:Int) (by omega) (by omega)
 rwa [itoa_eq,show esg (v:Int)=[] from if_neg (by omega),List.nil_append,Int.natAbs_natCast]at this
theorem rdec_nat (u:Nat):∀h:SH,u≤1000000→SRun Tryz.prog 83 [I u] h fun r q=>r=S (Lib.decDigits u)∧q=h:=by
 induction u using Nat.strongRecOn with
 |_ u ih =>
  intro h hu
  have e8:b8 (48+(u:Int)%10)=UInt8.ofNat (48+u%10):=by
   unfold b8
   rw[show(48+(u:Int)%10).toNat=48+u%10 by omega]
  have hsub:SubAt [.int .u8 (48+(u:Int)%10)] 0 (bytesV [b8 (48+(u:Int)%10)]):=by
   show SubAt _ 0 [.int .u8 ((b8 (48+(u:Int)%10)).toNat:Int)]
   rw[b8_val (by omega)]
   exact zQ
  by_cases hc:u<10
  ·have hd:Lib.decDigits u=[b8 (48+(u:Int)%10)]:=by
    rw[e8,Lib.decDigits,dif_pos hc,Nat.mod_eq_of_lt hc]
   rw[hd]
   refine zR Tryz.func83 rfl rfl ?_
   repeat'(first|apply zF|apply zB|apply zE|refine jg ?_ ?_|(apply o_ar zC;exact rfl;exact rfl)|(apply o_ex;exact rfl;exact rfl)|refine jb ?_|(apply o_toString zC;(iterate 6 exact rfl);exact pk)|(apply zS;exact rfl)|refine jf ?_|apply zA|apply zI|apply zN|exact jO|exact jL|((with_reducible apply Wr.mk);first|exact IntWalk.i64_in _ (by omega)|exact IntWalk.u8_in _ (by omega))|((with_reducible apply Ex.mk);first|exact Int.tmod_eq_emod_of_nonneg (by omega))|((with_reducible apply Su.mk);first|exact hsub)|exact True.intro|intro A|exact rfl)
   all_goals try exact jX
   exact jG
  ·have hd:Lib.decDigits u=Lib.decDigits (u/10)++[b8 (48+(u:Int)%10)]:=by
    rw[e8,Lib.decDigits,dif_neg hc]
   have hI:=fun h=>ih (u/10) (by omega) h (by omega)
   have hDl:=decd_len (v:=u/10) (by omega)
   rw[hd]
   generalize Lib.decDigits (u/10)=D at *
   have hq:IntKind.i64.wrap (Int.tdiv (u:Int) 10)=((u/10:Nat):Int):=by
    rw[Int.tdiv_eq_ediv_of_nonneg (by omega),show(u:Int)/10=((u/10:Nat):Int)by omega]
    exact IntWalk.i64_in _ (by omega)
   refine zR Tryz.func83 rfl rfl ?_
   repeat'(first|apply zF|apply zB|apply zE|refine jg ?_ ?_|(apply o_ar zC;exact rfl;exact rfl)|(apply o_ex;exact rfl;exact rfl)|refine jb ?_|(apply o_toString zC;(iterate 6 exact rfl);exact pk)|refine jq ?_ (c:=by exact⟨_,hI _,jN⟩)|(apply zS;exact rfl)|refine jd ?_|apply zA|apply zI|apply zN|((with_reducible apply Sd.mk);first|exact True.intro|omega|(simp only[List.length_singleton];omega))|exact jL|((with_reducible apply Wr.mk);first|exact hq|exact IntWalk.i64_in _ (by omega)|exact IntWalk.u8_in _ (by omega))|((with_reducible apply Ex.mk);first|exact Int.tmod_eq_emod_of_nonneg (by omega))|((with_reducible apply Su.mk);first|exact hsub)|exact True.intro|intro A|exact rfl)
   all_goals try exact jX
   exact jG
theorem rDec_any (n:Int)(h:SH)(hn:-1000000≤n∧n≤1000000):SRun Tryz.prog 83 [I n] h fun r q=>r=S (Lib.itoa n)∧q=h:=by
 rw[itoa_eq]
 by_cases hc:n<0
 ·have hI:=fun h=>rdec_nat n.natAbs h (by omega)
  rw[show((n.natAbs:Nat):Int)=0-n by omega]at hI
  rw[show esg n=[45] from if_pos hc]
  have hDl:=decd_len (v:=n.natAbs) (by omega)
  generalize Lib.decDigits n.natAbs=D at *
  refine zR Tryz.func83 rfl rfl ?_
  repeat'(first|apply zF|apply zB|apply zE|refine jg ?_ ?_|(apply o_ar zC;exact rfl;exact rfl)|refine jq ?_ (c:=by exact⟨_,hI _,jN⟩)|refine jd ?_|apply zA|apply zP|apply zN|((with_reducible apply Sd.mk);first|exact True.intro|(simp only[List.length_singleton];omega))|exact jW|fail)
  all_goals try exact jX
  exact jG
 ·rw[show esg n=[] from if_neg hc,List.nil_append]
  have:=rdec_nat n.natAbs h (by omega)
  rwa [show((n.natAbs:Nat):Int)=n by omega]at this
abbrev prV3 (s:Bool)(ds:List UInt8)(e:Int):Value:=.agg ⟨[B s,S ds,I e]⟩
theorem bat_tk {l:List UInt8}{k:Nat}{i:Nat}(h:i<k):bat (l.take k) (i:Int)=bat l (i:Int):=by
 unfold bat
 rw[Int.toNat_natCast,List.getD_eq_getElem?_getD,List.getD_eq_getElem?_getD,List.getElem?_take,if_pos h]
theorem bat_dr (l:List UInt8)(j:Nat):bat (l.drop j) (0:Int)=bat l (j:Int):=by
 unfold bat
 rw[Int.toNat_natCast,show(0:Int).toNat=0 from rfl,List.getD_eq_getElem?_getD,List.getD_eq_getElem?_getD,List.getElem?_drop,Nat.add_zero]
theorem rstrip_any (s:Bool)(ds:List UInt8)(e:Int)(h:SH)(hl:ds.length≤1000)(he:-1000000≤e∧e≤1000000):SRun Tryz.prog 82 [prV3 s ds e] h fun r q =>
  r=(if zr (zl ds)=[] then prV3 false [] 0 else prV3 s (zr (zl ds)) (e-((ds.length:Int)-(zl ds).length)))∧q=h:=by
 obtain⟨j0,z1,z2,z3,z4⟩:=zl_drop ds
 have hzl:(zl ds).length=ds.length-j0:=by rw[z1,List.length_drop]
 obtain⟨k0,y1,y2,y3,y4⟩:=zr_take (zl ds)
 refine zR Tryz.func82 rfl rfl ?_
 repeat'(first|apply zF|apply zB|apply zE|refine jy ?_|refine jx ?_|apply zA|apply zH|intro A)
 all_goals try exact jX
 rename_i n1
 obtain⟨n2,rfl⟩:∃m,m=A:=⟨_,rfl⟩
 refine zZ (S:=Nat) (fun _=>[(1,gptr n1 0 3),(2,gptr n2 0 3)]) (fun j=>(n2,⟨[B false,S [],I 0],false⟩)::(n1,⟨[B s,S (ds.drop j),I (e-j)],false⟩)::h) (fun j=>j≤j0) (fun j=>j0-j) 0 (Nat.zero_le _) jB (by rw[List.drop_zero,show e-((0:Nat):Int)=e by omega];exact jK) ?_
 intro j hj
 have hdl:(ds.drop j).length=ds.length-j:=List.length_drop
 have hb:=bat_dr ds j
 by_cases hjj:j<j0
 ·have h48:=z3 j hjj
  have hdd:(ds.drop j).drop 1=ds.drop (j+1):=List.drop_drop
  generalize ds.drop j=X at *
  repeat'(first|apply zF|apply zB|apply zE|refine jr ?_|refine jg ?_ ?_|(apply o_ar zC;exact rfl;exact rfl)|(apply zM zC;(iterate 3 exact rfl);exact pk)|(apply zX zC;(iterate 4 exact rfl);exact up)|refine jw ?_|refine jh ?_|refine jd ?_|apply zA|apply zG|apply zI|apply zH|exact jO|exact jL|exact jW|exact jE|exact jZ|exact True.intro|exact Or.inl rfl|apply And.intro|exact rfl)
  all_goals try exact jX
  exact⟨j+1,by show j+1≤j0;omega,by omega,jB,by rw[←hdd,show e-((j+1:Nat):Int)=e-j-1 by omega];exact jK⟩
 ·obtain rfl:j=j0:=by omega
  rw[←z1]at hdl hb ⊢
  have hpos:=zr_pos ds
  generalize zl ds=Z at *
  by_cases hZ:Z.length=0
  ·obtain rfl:Z=[]:=List.length_eq_zero_iff.1 hZ
   rw[if_pos (show zr ([]:List UInt8)=[] from rfl)]
   repeat'(first|apply zF|apply zB|apply zE|refine jg ?_ ?_|(apply zM zC;(iterate 3 exact rfl);exact pk)|refine jk ?_|(apply zS;exact rfl)|apply zA|apply zK|apply zJ|apply zV|apply zH|exact jS|exact jL|exact jE|exact True.intro|exact rfl)
   all_goals try exact jX
   refine zZ (S:=Unit) (fun _=>[(1,gptr n1 0 3),(2,gptr n2 0 3)]) (fun _=>(n2,⟨[B false,S [],I 0],false⟩)::(n1,⟨[B s,S [],I (e-j)],false⟩)::h) (fun _=>True) (fun _=>0) () trivial jB jK ?_
   rintro - -
   repeat'(first|apply zF|apply zB|apply zE|refine jg ?_ ?_|(apply zM zC;(iterate 3 exact rfl);exact pk)|(apply yE zC;(iterate 4 exact rfl);exact⟨rfl⟩;exact up)|(apply yT zC;exact rfl;exact rfl;(focus first|with_reducible exact pl81);exact rfl;(focus repeat(first|exact BuildR.nil));exact rfl)|refine jk ?_|(apply yB;exact rfl)|(apply zS;exact rfl)|apply zA|apply zP|apply zK|apply zJ|apply zN|apply zV|exact jS|exact jL|exact jE|exact jP|exact True.intro|exact rfl)
   all_goals try exact jX
   (apply zL;(exact(show ResS _ _ _ _ [_] from(res_cell zC rfl rfl rfl (by exact pk) (by first|rfl|exact ‹_›|omega|(simp ;first|done|omega)) (by first|rfl|exact ‹_›|omega|(simp ;first|done|omega)) trivial)));exact⟨rfl,rfl⟩;(focus repeat with_reducible first|exact Take.nil|apply Take.c|apply Take.drop))
  ·have hne:bat Z 0≠48:=by rw[hb];exact z4 (by omega)
   have hk0:zr Z≠[]:=fun g=>hpos (fun g2=>hZ (by rw[g2];rfl)) (by rw[g];rfl)
   have hlk:(zr Z).length=k0:=by rw[y1,List.length_take];omega
   have hk1:0<k0:=by rw[←hlk];exact List.length_pos_iff.2 hk0
   have hb0:=bq_255 Z 0
   rw[if_neg hk0,y1,show(ds.length:Int)-Z.length=(j:Int)by omega]
   repeat'(first|apply zF|apply zB|apply zE|refine jg ?_ ?_|(apply zM zC;(iterate 3 exact rfl);exact pk)|refine jw ?_|refine jh ?_|refine jf ?_|apply zA|apply zK|apply zJ|apply zV|apply zH|exact jO|exact jL|exact jE|exact True.intro|exact rfl)
   all_goals try exact jX
   have hZt:Z.take Z.length=Z:=List.take_length
   refine zZ (S:=Nat) (fun _=>[(1,gptr n1 0 3),(2,gptr n2 0 3)]) (fun k=>(n2,⟨[B false,S [],I 0],false⟩)::(n1,⟨[B s,S (Z.take k),I (e-j)],false⟩)::h) (fun k=>k0≤k∧k≤Z.length) (fun k=>k) Z.length ⟨y2,Nat.le_refl _⟩ jB (by rw[hZt];exact jK) ?_
   rintro k ⟨g1,g2⟩
   have hW:(Z.take k).length=k:=by rw[List.length_take];omega
   have hbW:bat (Z.take k) ((k:Int)-1)=bat Z ((k-1:Nat):Int):=by
    rw[show(k:Int)-1=((k-1:Nat):Int)by omega,bat_tk (by omega)]
   have hWt:(Z.take k).take ((k:Int)-1).toNat=Z.take (k-1):=by
    rw[List.take_take,show((k:Int)-1).toNat=k-1 by omega,Nat.min_eq_left (by omega)]
   have hWr:Z.take k=[]→False:=fun g=>by rw[g]at hW;have:0=k:=hW;omega
   have hbb:=bq_255 Z ((k-1:Nat):Int)
   by_cases hkk:k=k0
   ·have h48:=y4 hk1
    rw[←hkk]at h48
    rw[←hkk]
    generalize Z.take k=W at *
    rw[show(k:Int)=(W.length:Int)by omega]at hbW hWt
    repeat'(first|apply zF|apply zB|apply zE|refine jg ?_ ?_|(apply o_ar zC;exact rfl;exact rfl)|(apply zM zC;(iterate 3 exact rfl);exact pk)|(apply yQ zC;(iterate 3 exact rfl);exact pk)|(apply yE zC;(iterate 4 exact rfl);exact⟨rfl⟩;exact up)|refine jw ?_|refine jh ?_|(apply yD;exact rfl;(focus first|exact ‹_›|omega))|apply zA|apply zK|apply zJ|apply zI|apply zN|apply zV|exact jO|exact jL|exact jW|exact jE|exact jP|exact jU|exact True.intro|exact rfl)
    all_goals try exact jX
    (apply zL;(exact(show ResS _ _ _ _ [_] from(res_cell zC rfl rfl rfl (by exact pk) (by first|rfl|exact ‹_›|omega|(simp ;first|done|omega)) (by first|rfl|exact ‹_›|omega|(simp ;first|done|omega)) trivial)));exact⟨rfl,rfl⟩;(focus repeat with_reducible first|exact Take.nil|apply Take.c|apply Take.drop))
   ·have h48:=y3 (k-1) (by omega) (by omega)
    generalize Z.take k=W at *
    rw[show(k:Int)=(W.length:Int)by omega]at hbW hWt
    repeat'(first|apply zF|apply zB|apply zE|refine jg ?_ ?_|(apply o_ar zC;exact rfl;exact rfl)|(apply zM zC;(iterate 3 exact rfl);exact pk)|(apply zX zC;(iterate 4 exact rfl);exact up)|refine jw ?_|refine jh ?_|refine jd ?_|apply zA|apply zG|apply zI|apply zH|exact jO|exact jL|exact jW|exact jE|exact jZ|exact True.intro|exact rfl)
    all_goals try exact jX
    exact⟨k-1,⟨by omega,by omega⟩,by omega,jB,by rw[hWt];exact jK⟩

theorem rTextD_any (s:Bool)(ds:List UInt8)(e:Int)(h:SH)(hl:ds.length≤1000)(he:-1000000≤e∧e≤1000000) :
  SRun Tryz.prog 40 [prV3 s ds e] h fun r q=>r=.tuple #[S (txN (trD (s,ds,e-ds.length+1))).1,I (txN (trD (s,ds,e-ds.length+1))).2]∧q=h:=by
 have hst:=fun h=>rstrip_any s ds e h hl he
 have hz1:(zl ds).length≤ds.length:=by
  obtain⟨j,h1,_⟩:=zl_drop ds
  rw[h1,List.length_drop];omega
 by_cases hz:zr (zl ds)=[]
 ·have ht:txN (trD (s,ds,e-ds.length+1))=([48],0):=by
   unfold trD
   dsimp only
   rw[if_pos hz]
   rfl
  rw[ht]
  rw[if_pos hz]at hst
  refine zR Tryz.func40 rfl rfl ?_
  repeat'(first|apply zF|apply zB|apply zE|refine jg ?_ ?_|(apply zM zC;(iterate 3 exact rfl);exact pk)|(apply yQ zC;(iterate 3 exact rfl);exact pk)|(apply yE zC;(iterate 4 exact rfl);exact⟨rfl⟩;exact up)|refine jx ?_|refine jq ?_ (c:=by exact⟨_,hst _,jN⟩)|(apply yB;exact rfl)|apply zA|apply zP|apply zN|exact jS|exact jL|exact jE|exact jP|exact jU|exact True.intro|intro A|exact rfl)
  all_goals try exact jX
  exact jG
 ·have hw1:(zr (zl ds)).length≤(zl ds).length:=by
   obtain⟨k,h1,_⟩:=zr_take (zl ds)
   rw[h1,List.length_take];omega
  obtain⟨f,hf⟩:∃f,e-((ds.length:Int)-(zl ds).length)=f:=⟨_,rfl⟩
  have hM:trD (s,ds,e-ds.length+1)=(s,zr (zl ds),f+1-(zr (zl ds)).length):=by
   unfold trD
   dsimp only
   rw[if_neg hz]
   congr 2
   omega
  rw[hM]
  rw[if_neg hz,hf]at hst
  have hfb:-2000000≤f∧f≤2000000:=by omega
  clear hM hf
  generalize zr (zl ds)=W at *
  have hW0:=List.length_pos_iff.2 hz
  have ef:fst (s,W,f+1-W.length)=f:=by unfold fst;dsimp only;omega
  by_cases hok:W.length≤17∧-400≤f∧f≤400
  ·have hN:okN (s,W,f+1-W.length):=.inr (by rw[ef];exact hok)
   have hD:=fun h=>rDec_any f h (by omega)
   have hil:=itoa_len (n:=f) (by omega)
   rw[show txN (s,W,f+1-W.length)=(ctx (s,W,f+1-W.length),0)from if_pos hN]
   unfold ctx
   rw[ef]
   dsimp only
   rw[if_neg hz]
   generalize Lib.itoa f=it at *
   have ht1:(W.take 1).length=1:=by rw[List.length_take];omega
   have ht2:(W.drop 1).length=W.length-1:=List.length_drop
   by_cases h1:1<W.length
   ·have hpt:ptx W=W.take 1++([46]++W.drop 1):=if_pos h1
    rw[hpt]
    cases s
    ·skip
     refine zR Tryz.func40 rfl rfl ?_
     repeat'(first|apply zF|apply zB|apply zE|refine jg ?_ ?_|(apply zM zC;(iterate 3 exact rfl);exact pk)|(apply yQ zC;(iterate 3 exact rfl);exact pk)|(apply yE zC;(iterate 4 exact rfl);exact⟨rfl⟩;exact up)|refine jx ?_|refine jq ?_ (c:=by exact⟨_,hst _,jN⟩)|refine jq ?_ (c:=by exact⟨_,hD _,jN⟩)|refine jw ?_|refine ji ?_|(apply zS;exact rfl)|refine jd ?_|refine jf ?_|apply zA|apply zI|apply zN|((with_reducible apply Sd.mk);first|exact True.intro|omega|(simp;omega))|exact jL|exact jE|exact jP|exact jU|exact True.intro|intro A|exact rfl)
     all_goals try exact jX
     exact jF (k:=by exact⟨by simp[resv],rfl⟩)
    ·refine zR Tryz.func40 rfl rfl ?_
     repeat'(first|apply zF|apply zB|apply zE|refine jg ?_ ?_|(apply zM zC;(iterate 3 exact rfl);exact pk)|(apply yQ zC;(iterate 3 exact rfl);exact pk)|(apply yE zC;(iterate 4 exact rfl);exact⟨rfl⟩;exact up)|refine jx ?_|refine jq ?_ (c:=by exact⟨_,hst _,jN⟩)|refine jq ?_ (c:=by exact⟨_,hD _,jN⟩)|refine jw ?_|refine ji ?_|(apply yB;exact rfl)|refine jd ?_|refine jf ?_|apply zA|apply zI|apply zN|((with_reducible apply Sd.mk);first|exact True.intro|omega|(simp;omega))|exact jL|exact jE|exact jP|exact jU|exact True.intro|intro A|exact rfl)
     all_goals try exact jX
     exact jF (k:=by exact⟨by simp[resv],rfl⟩)
   ·have hpt:ptx W=W.take 1:=if_neg h1
    rw[hpt]
    cases s
    ·refine zR Tryz.func40 rfl rfl ?_
     repeat'(first|apply zF|apply zB|apply zE|refine jg ?_ ?_|(apply zM zC;(iterate 3 exact rfl);exact pk)|(apply yQ zC;(iterate 3 exact rfl);exact pk)|(apply yE zC;(iterate 4 exact rfl);exact⟨rfl⟩;exact up)|refine jx ?_|refine jq ?_ (c:=by exact⟨_,hst _,jN⟩)|refine jq ?_ (c:=by exact⟨_,hD _,jN⟩)|refine jw ?_|refine ji ?_|(apply zS;exact rfl)|refine jf ?_|apply zA|apply zI|apply zN|((with_reducible apply Sd.mk);first|exact True.intro|omega|(simp;omega))|exact jL|exact jE|exact jP|exact jU|exact True.intro|intro A|exact rfl)
     all_goals try exact jX
     exact jG
    ·refine zR Tryz.func40 rfl rfl ?_
     repeat'(first|apply zF|apply zB|apply zE|refine jg ?_ ?_|(apply zM zC;(iterate 3 exact rfl);exact pk)|(apply yQ zC;(iterate 3 exact rfl);exact pk)|(apply yE zC;(iterate 4 exact rfl);exact⟨rfl⟩;exact up)|refine jx ?_|refine jq ?_ (c:=by exact⟨_,hst _,jN⟩)|refine jq ?_ (c:=by exact⟨_,hD _,jN⟩)|refine jw ?_|refine ji ?_|(apply yB;exact rfl)|refine jf ?_|apply zA|apply zI|apply zN|((with_reducible apply Sd.mk);first|exact True.intro|omega|(simp;omega))|exact jL|exact jE|exact jP|exact jU|exact True.intro|intro A|exact rfl)
     all_goals try exact jX
     exact jG
  ·have hN:¬okN (s,W,f+1-W.length):=by
    rintro(g|g)
    ·exact hz g
    ·rw[ef]at g
     exact hok g
   rw[show txN (s,W,f+1-W.length)=([],9)from if_neg hN]
   refine zR Tryz.func40 rfl rfl ?_
   repeat'(first|apply zF|apply zB|apply zE|refine jg ?_ ?_|(apply zM zC;(iterate 3 exact rfl);exact pk)|(apply yQ zC;(iterate 3 exact rfl);exact pk)|(apply yE zC;(iterate 4 exact rfl);exact⟨rfl⟩;exact up)|refine jx ?_|refine jq ?_ (c:=by exact⟨_,hst _,jN⟩)|refine jw ?_|refine jk ?_|(apply o_guardF;(iterate 3 exact rfl);all_goals intro hc)|(apply yB;exact rfl)|refine jd ?_|refine jf ?_|apply zA|apply zP|apply zI|apply zN|exact jS|exact jL|exact jE|exact jP|exact jU|exact True.intro|intro A|exact rfl)
   all_goals try exact jX
   all_goals exact jG
theorem isD_sg {s:List UInt8}{p k:Nat}(hp:p+k≤s.length)(h:∀j:Nat,p≤j→j<p+k→48≤bat s (j:Int)∧bat s (j:Int)≤57){lo hi:Int}(h1:lo=p)(h2:hi=p+k):isD ((s.take hi.toNat).drop lo.toNat)∧((s.take hi.toNat).drop lo.toNat).length=k:=by
 subst h1 h2
 rw[show((p:Int)+(k:Int)).toNat=p+k by omega,Int.toNat_natCast]
 have hl:((s.take (p+k)).drop p).length=k:=by rw[List.length_drop,List.length_take];omega
 refine⟨fun b hb=>?_,hl⟩
 obtain⟨i,hi,rfl⟩:=List.getElem_of_mem hb
 rw[hl]at hi
 have:=h (p+i) (by omega) (by omega)
 rw[bq_lt (show p+i<s.length by omega)]at this
 rw[List.getElem_drop,List.getElem_take]
 omega
theorem rdigsI (s:List UInt8)(p:Int)(h:SH)(hs:s.length≤9223372036854775807)(h0:0≤p)(hp:p≤s.length):SRun Tryz.prog 81 [S s,I p] h fun r q =>
  ∃k:Nat,r=I k∧q=h∧p+k≤s.length∧(isD ((s.take (p+(k:Int)).toNat).drop p.toNat)∧((s.take (p+(k:Int)).toNat).drop p.toNat).length=k)∧∀j:Nat,j<k→48≤bat s (p+(j:Int))∧bat s (p+(j:Int))≤57:=by
 obtain⟨n,rfl⟩:=Int.eq_ofNat_of_zero_le h0
 refine(rdigs_any s n h hs (by omega)).mono fun r q ⟨k,e1,e2,e3,e4⟩=>⟨k,e1,e2,by omega,isD_sg e3 e4 rfl rfl,fun j hj=>?_⟩
 have:=e4 (n+j) (by omega) (by omega)
 rwa [show((n+j:Nat):Int)=(n:Int)+(j:Int)by omega]at this
set_option maxHeartbeats 4000000 in
theorem rRead_any (s:List UInt8)(h:SH)(hs:s.length≤9223372036854775807):SRun Tryz.prog 39 [S s] h fun r q =>
  ∃neg ds ex ok,r=.tuple #[prV3 neg ds ex,B ok]∧q=h∧isD ds∧ds.length≤64∧(-200000≤ex∧ex≤200000):=by
 have hD:=fun p h=>rdigsI s p h hs
 have nilD:isD []:=fun b hb=>by cases hb
 refine zR Tryz.func39 rfl rfl ?_
 repeat'((fail_if_success (show SWp _ _ (Code.seq (Code.region 3 _ _) _) _ _ _));(fail_if_success (show SWp _ _ (Code.region 3 _ _) _ _ _));first|apply zF|apply zB|apply zE|refine jg ?_ ?_|(apply yE zC;(iterate 4 exact rfl);exact⟨rfl⟩;exact up)|refine jy ?_|(apply yT zC;exact rfl;exact rfl;(focus first|with_reducible exact pl81);exact rfl;(focus repeat(first|exact BuildR.nil));exact rfl)|apply zA|exact jS|exact jL|exact jP|exact True.intro|intro A)
 rename_i n2
 obtain⟨n4,rfl⟩:∃m,m=A:=⟨_,rfl⟩
 have hb0:=bq_255 s 0
 refine w_meet (S:=Bool × Int) (fun x=>[(0,S s),(2,gptr n2 0 3),(4,gptr n4 0 3),(5,I x.2)]) (fun x=>(n4,⟨[B x.1,S [],I 0],false⟩)::(n2,⟨[B false,S [],I 0],false⟩)::h) (fun x=>0≤x.2∧x.2≤1∧x.2≤s.length) ?_ ?_
 ·repeat'(first|apply zF|apply zB|apply zE|refine jg ?_ ?_|(apply zX zC;(iterate 4 exact rfl);exact up)|refine jw ?_|refine jk ?_|(apply o_skip_undef;iterate 3 exact rfl)|(apply o_guardT;(iterate 3 exact rfl);all_goals intro hc)|(apply o_guardF;(iterate 3 exact rfl);all_goals intro hc)|(apply yB;exact rfl)|(apply zS;exact rfl)|(apply w_if;exact rfl;all_goals intro hc)|apply zA|apply zI|exact jO|exact jL|((with_reducible apply Se.mk);first|(focus(repeat(first|exact SetAt.zero));done))|exact True.intro)
  all_goals first
   |(have hx:bat s 0=45∨bat s 0=43:=(by omega);exact⟨(decide (bat s 0=45),1),⟨by show(0:Int)≤1;omega,by show(1:Int)≤1;omega,by show(1:Int)≤s.length;omega⟩,jB,jK⟩)
   |exact⟨(false,0),⟨by decide,by decide,by show(0:Int)≤s.length;omega⟩,jB,jK⟩
 rintro⟨neg,p⟩ ⟨hp0,hp1,hp2⟩
 dsimp only at hp0 hp1 hp2 ⊢
 repeat'((fail_if_success (show SWp _ _ (Code.seq (Code.region 8 _ _) _) _ _ _));(fail_if_success (show SWp _ _ (Code.region 8 _ _) _ _ _));first|apply zF|apply zB|apply zE|refine jg ?_ ?_|(apply yE zC;(iterate 4 exact rfl);exact⟨rfl⟩;exact up)|(apply yT zC;exact rfl;exact rfl;(focus first|with_reducible exact pl81);exact rfl;(focus repeat(first|exact BuildR.nil));exact rfl)|(refine jc ?_ (c:=by exact⟨_,hD _ _ hp0 hp2,jN⟩);rintro _ _ ⟨k,rfl,rfl,hk,⟨hd1,hd2⟩,hd3⟩)|refine jw ?_|refine jk ?_|(apply o_guardF;(iterate 3 exact rfl);all_goals intro hc)|(apply yB;exact rfl)|(apply w_if;exact rfl;all_goals intro hc)|apply zA|apply zP|apply zI|apply zN|exact jS|exact jL|exact jP|exact True.intro)
 all_goals first
  |exact jX
  |(apply zL;(exact(show ResS _ _ _ _ [_,_] from(res_cell zC rfl rfl rfl (by exact pk) (by first|rfl|exact ‹_›|omega|(simp ;first|done|omega)) (by first|rfl|exact ‹_›|omega|(simp ;first|done|omega)) ⟨rfl,trivial⟩)));exact⟨false,[],0,false,rfl,rfl,nilD,by decide,by decide⟩;(focus repeat with_reducible first|exact Take.nil|apply Take.c|apply Take.drop))
  |skip
 clear hd3
 repeat'((fail_if_success (show SWp _ _ (Code.seq (Code.region 9 _ _) _) _ _ _));(fail_if_success (show SWp _ _ (Code.region 9 _ _) _ _ _));first|apply zF|apply zB|apply zE|refine jg ?_ ?_|(apply o_ar zC;exact rfl;exact rfl)|(apply zX zC;(iterate 4 exact rfl);exact up)|apply zA|exact jO|exact jL|exact jW|exact jZ|exact True.intro)
 generalize hseg:List.drop p.toNat (List.take (p+(k:Int)).toNat s)=seg at *
 generalize hat:p+(k:Int)=at0 at *
 refine w_meet (S:=List UInt8 × Int) (fun x=>[(0,S s),(2,gptr n2 0 3),(4,gptr n4 0 3),(5,I x.2)]) (fun x=>(n4,⟨[B neg,S x.1,I ((k:Int)-1)],false⟩)::(n2,⟨[B false,S [],I 0],false⟩)::h) (fun x=>isD x.1∧(x.1.length:Int)≤x.2∧x.2≤s.length) ?_ ?_
 ·have hbA:=bq_255 s at0
  by_cases hc9:at0<s.length∧bat s at0=46
  ·repeat'((fail_if_success (show SWp _ _ (Code.seq (Code.region 13 _ _) _) _ _ _));(fail_if_success (show SWp _ _ (Code.region 13 _ _) _ _ _));first|apply zF|apply zB|apply zE|refine jg ?_ ?_|(apply o_ar zC;exact rfl;exact rfl)|(apply yE zC;(iterate 4 exact rfl);exact⟨rfl⟩;exact up)|(apply yT zC;exact rfl;exact rfl;(focus first|with_reducible exact pl81);exact rfl;(focus repeat(first|exact BuildR.nil));exact rfl)|(refine jc ?_ (c:=by exact⟨_,hD _ _ (by omega) (by omega),jN⟩);rintro _ _ ⟨m,rfl,rfl,gk,⟨gd1,gd2⟩,gd3⟩)|refine jw ?_|refine jh ?_|refine jd ?_|(apply w_if;exact rfl;all_goals intro hc)|apply zA|apply zP|apply zI|apply zN|exact jO|exact jL|exact jW|exact jP|exact True.intro)
   all_goals first
    |exact jX
    |(apply zL;(exact(show ResS _ _ _ _ [_,_] from(res_cell zC rfl rfl rfl (by exact pk) (by first|rfl|exact ‹_›|omega|(simp ;first|done|omega)) (by first|rfl|exact ‹_›|omega|(simp ;first|done|omega)) ⟨rfl,trivial⟩)));exact⟨false,[],0,false,rfl,rfl,nilD,by decide,by decide⟩;(focus repeat with_reducible first|exact Take.nil|apply Take.c|apply Take.drop))
    |skip
   generalize hseg2:List.drop (at0+1).toNat (List.take (at0+1+(m:Int)).toNat s)=seg2 at *
   repeat'(first|apply zE|refine jr ?_|refine jg ?_ ?_|(apply o_ar zC;exact rfl;exact rfl)|(apply zM zC;(iterate 3 exact rfl);exact pk)|(apply zX zC;(iterate 4 exact rfl);exact up)|apply zA|((with_reducible apply Sd.mk);first|exact True.intro|omega|(rw[hseg2];omega))|exact jL|exact jW|exact jE|exact jZ|exact True.intro|exact Or.inl rfl|apply And.intro|exact rfl)
   all_goals try exact jX
   exact⟨(seg++seg2,at0+1+m),⟨isD_app.2 ⟨hd1,gd1⟩,by show((seg++seg2).length:Int)≤at0+1+m;rw[List.length_append];omega,gk⟩,jB,by rw[hseg2];exact jK⟩
  ·repeat'(first|apply zF|apply zB|apply zE|refine jg ?_ ?_|refine jw ?_|refine jk ?_|(apply o_guardT;(iterate 3 exact rfl);all_goals intro hc)|(apply zS;exact rfl)|refine jf ?_|apply zA|apply zI|exact jO|fail)
   all_goals try exact jX
   all_goals exact⟨(seg,at0),⟨hd1,by dsimp only;omega,by dsimp only;omega⟩,jB,jK⟩
 rintro⟨ds,at1⟩ ⟨gD,gl,gs⟩
 dsimp only at gD gl gs ⊢
 have hs64:s.length≤64:=by omega
 have hbB:=bq_255 s at1
 have g01:0≤at1:=by omega
 repeat'((fail_if_success (show SWp _ _ (Code.seq (Code.region 14 _ _) _) _ _ _));(fail_if_success (show SWp _ _ (Code.region 14 _ _) _ _ _));first|apply zF)
 refine w_meet (S:=Int × Int) (fun x=>[(0,S s),(2,gptr n2 0 3),(4,gptr n4 0 3),(5,I x.1)]) (fun x=>(n4,⟨[B neg,S ds,I x.2],false⟩)::(n2,⟨[B false,S [],I 0],false⟩)::h) (fun x=>-200000≤x.2∧x.2≤200000) ?_ ?_
 ·by_cases hcE:at1<s.length∧(bat s at1=101∨bat s at1=69)
  ·obtain⟨hcE1,hcE2⟩:=hcE
   have hbC:=bq_255 s (at1+1)
   repeat'((fail_if_success (show SWp _ _ (Code.seq (Code.region 16 _ _) _) _ _ _));(fail_if_success (show SWp _ _ (Code.region 16 _ _) _ _ _));first|apply zF|apply zB|apply zE|refine jg ?_ ?_|(apply o_ar zC;exact rfl;exact rfl)|refine jw ?_|refine jk ?_|refine jh ?_|(apply o_guardF;(iterate 3 exact rfl);all_goals intro hc)|(apply yB;exact rfl)|refine jd ?_|apply zA|exact jO|exact jW|fail)
   all_goals try exact jX
   all_goals
    apply zF
    refine w_meet (S:=Bool) (fun x=>[(0,S s),(2,gptr n2 0 3),(4,gptr n4 0 3),(5,I (at1+1)),(7,B x)]) (fun _=>(n4,⟨[B neg,S ds,I ((k:Int)-1)],false⟩)::(n2,⟨[B false,S [],I 0],false⟩)::h) (fun _=>True) ?_ ?_
    ·repeat'(first|apply zB|apply zE|refine jg ?_ ?_|refine jw ?_|refine jk ?_|(apply o_guardT;(iterate 3 exact rfl);all_goals intro hc)|apply zA|exact jO|fail)
     ·exact⟨decide (bat s (at1+1)=45),trivial,jB,jK⟩
     ·exact⟨false,trivial,jB,jK⟩
    rintro down -
    repeat'((fail_if_success (show SWp _ _ (Code.seq (Code.region 17 _ _) _) _ _ _));(fail_if_success (show SWp _ _ (Code.region 17 _ _) _ _ _));first|apply zF)
    refine w_meet (S:=Int) (fun x=>[(0,S s),(2,gptr n2 0 3),(4,gptr n4 0 3),(5,I x),(7,B down)]) (fun _=>(n4,⟨[B neg,S ds,I ((k:Int)-1)],false⟩)::(n2,⟨[B false,S [],I 0],false⟩)::h) (fun x=>0≤x∧x≤s.length) ?_ ?_
    ·repeat'(first|apply zF|apply zB|apply zE|refine jg ?_ ?_|(apply o_ar zC;exact rfl;exact rfl)|refine jw ?_|refine jk ?_|(apply o_skip_undef;iterate 3 exact rfl)|(apply o_guardT;(iterate 3 exact rfl);all_goals intro hc)|(apply o_guardF;(iterate 3 exact rfl);all_goals intro hc)|(apply yB;exact rfl)|(apply zS;exact rfl)|(apply w_if;exact rfl;all_goals intro hc)|apply zA|apply zI|exact jO|exact jW|fail)
     all_goals first
      |(have hx:bat s (at1+1)=45∨bat s (at1+1)=43:=(by omega);exact⟨at1+1+1,⟨by omega,by omega⟩,jB,jK⟩)
      |exact⟨at1+1,⟨by omega,by omega⟩,jB,jK⟩
    rintro x ⟨x0,x1⟩
    repeat'((fail_if_success (show SWp _ _ (Code.seq (Code.region 22 _ _) _) _ _ _));(fail_if_success (show SWp _ _ (Code.region 22 _ _) _ _ _));first|apply zF|apply zB|apply zE|refine jg ?_ ?_|(apply yE zC;(iterate 4 exact rfl);exact⟨rfl⟩;exact up)|(apply yT zC;exact rfl;exact rfl;(focus first|with_reducible exact pl81);exact rfl;(focus repeat(first|exact BuildR.nil));exact rfl)|(refine jc ?_ (c:=by exact⟨_,hD _ _ x0 x1,jN⟩);rintro _ _ ⟨m,rfl,rfl,gk,⟨gd1,gd2⟩,gd3⟩)|(apply w_if;exact rfl;all_goals intro hc)|apply zA|apply zP|apply zI|apply zN|exact jS|exact jL|exact jP|exact True.intro)
    all_goals first
     |exact jX
     |(apply zL;(exact(show ResS _ _ _ _ [_,_] from(res_cell zC rfl rfl rfl (by exact pk) (by first|rfl|exact ‹_›|omega|(simp ;first|done|omega)) (by first|rfl|exact ‹_›|omega|(simp ;first|done|omega)) ⟨rfl,trivial⟩)));exact⟨false,[],0,false,rfl,rfl,nilD,by decide,by decide⟩;(focus repeat with_reducible first|exact Take.nil|apply Take.c|apply Take.drop))
     |skip
    clear gd1 gd2
    repeat'(first|apply zF|apply zB|apply zE|refine jg ?_ ?_|apply zA|apply zH|exact jS|fail)
    refine zZ (S:=Nat × Int) (fun y=>[(0,S s),(2,gptr n2 0 3),(4,gptr n4 0 3),(5,I x),(6,I m),(7,B down),(8,I y.2),(9,I y.1)]) (fun _=>(n4,⟨[B neg,S ds,I ((k:Int)-1)],false⟩)::(n2,⟨[B false,S [],I 0],false⟩)::h) (fun y=>y.1≤m∧0≤y.2∧y.2≤100000) (fun y=>m-y.1) (0,0) ⟨Nat.zero_le _,by decide,by decide⟩ jB jK ?_
    rintro⟨i,e⟩ ⟨i1,e0,e1⟩
    dsimp only at i1 e0 e1 ⊢
    by_cases him:i<m
    ·have hcd:=gd3 i him
     repeat'(first|apply zF|apply zB|apply zE|refine jg ?_ ?_|(apply o_ar zC;exact rfl;exact rfl)|(apply o_min;iterate 3 exact rfl)|refine jd ?_|apply zA|apply zG|apply zI|apply zH|exact jO|((with_reducible apply Wr.mk);first|exact IntWalk.i64_in _ (by omega)|exact IntWalk.u8_in _ (by omega)))
     all_goals try exact jX
     exact⟨(i+1,min (10*e+(bat s (x+(i:Int))-48)) 100000),⟨by show i+1≤m;omega,by dsimp only;omega,by dsimp only;omega⟩,by show m-(i+1)<m-i;omega,jB,jK⟩
    ·cases down
     ·repeat'(first|apply zF|apply zB|apply zE|refine jg ?_ ?_|(apply o_ar zC;exact rfl;exact rfl)|(apply zM zC;(iterate 3 exact rfl);exact pk)|(apply zX zC;(iterate 4 exact rfl);exact up)|(apply zS;exact rfl)|refine jf ?_|apply zA|apply zK|apply zJ|apply zI|apply zV|exact jS|exact jL|exact jW|exact jE|exact jZ|exact True.intro|exact rfl)
      all_goals try exact jX
      exact⟨(x+m,(k:Int)-1+e),⟨by dsimp only;omega,by dsimp only;omega⟩,jB,jK⟩
     ·repeat'(first|apply zF|apply zB|apply zE|refine jg ?_ ?_|(apply o_ar zC;exact rfl;exact rfl)|(apply zM zC;(iterate 3 exact rfl);exact pk)|(apply zX zC;(iterate 4 exact rfl);exact up)|(apply yB;exact rfl)|refine jf ?_|apply zA|apply zK|apply zJ|apply zV|exact jS|exact jL|exact jW|exact jE|exact jZ|exact True.intro|exact rfl)
      all_goals try exact jX
      exact⟨(x+m,(k:Int)-1+(0-e)),⟨by dsimp only;omega,by dsimp only;omega⟩,jB,jK⟩
  ·repeat'(first|apply zF|apply zB|apply zE|refine jg ?_ ?_|refine jw ?_|refine jk ?_|(apply o_skip_undef;iterate 3 exact rfl)|refine ji ?_|(apply o_guardT;(iterate 3 exact rfl);all_goals intro hc)|(apply zS;exact rfl)|refine jf ?_|apply zA|apply zI|exact jO|fail)
   all_goals try exact jX
   all_goals exact⟨(at1,(k:Int)-1),⟨by dsimp only;omega,by dsimp only;omega⟩,jB,jK⟩
 rintro⟨at2,ex⟩ ⟨h1,h2⟩
 dsimp only at h1 h2 ⊢
 repeat'(first|apply zF|apply zB|apply zE|refine jg ?_ ?_|(apply yQ zC;(iterate 3 exact rfl);exact pk)|(apply yE zC;(iterate 4 exact rfl);exact⟨rfl⟩;exact up)|apply zA|apply zN|exact jS|exact jL|exact jP|exact jU|exact True.intro|exact rfl)
 all_goals try exact jX
 (apply zL;(exact(show ResS _ _ _ _ [_,_] from(res_cell zC rfl rfl rfl (by exact pk) (by first|rfl|exact ‹_›|omega|(simp ;first|done|omega)) (by first|rfl|exact ‹_›|omega|(simp ;first|done|omega)) ⟨rfl,trivial⟩)));exact⟨neg,ds,ex,decide (at2=s.length),rfl,rfl,gD,by omega,by omega⟩;(focus repeat with_reducible first|exact Take.nil|apply Take.c|apply Take.drop))

theorem rParse_any (s:List UInt8)(h:SH)(hs:s.length≤9223372036854775807):SRun Tryz.prog 18 [S s] h fun r q =>
  ∃t e,r=.tuple #[S t,I e]∧q=h∧(e=0→∃M,okT M∧txN M=(t,0)):=by
 have hR:=fun h=>rRead_any s h hs
 have hT:=fun neg ds ex h (h1:ds.length≤64) (h2:-200000≤ex∧ex≤200000)=>rTextD_any neg ds ex h (by omega) (by omega)
 refine zR Tryz.func18 rfl rfl ?_
 repeat'((fail_if_success (show SWp _ _ (Code.seq (Code.region 2 _ _) _) _ _ _));(fail_if_success (show SWp _ _ (Code.region 2 _ _) _ _ _));first|apply zF|apply zB|apply zE|refine jg ?_ ?_|(apply yE zC;(iterate 4 exact rfl);exact⟨rfl⟩;exact up)|refine jy ?_|(refine jc ?_ (c:=by exact⟨_,hR _,jN⟩);rintro _ _ ⟨neg,ds,ex,ok,rfl,rfl,hd,hl,hx⟩)|apply zA|exact jS|exact jL|exact jP|exact True.intro|intro A)
 cases ok
 ·repeat'(first|apply zF|apply zB|apply zE|refine jg ?_ ?_|(apply yR;exact rfl;exact rfl)|(apply yB;exact rfl)|apply zA|apply zP|apply zN|exact jS|fail)
  all_goals try exact jX
  exact jF (k:=by exact⟨[],3,rfl,rfl,fun g=>absurd g (by decide)⟩)
 ·repeat'(first|apply zF|apply zB|apply zE|refine jg ?_ ?_|(apply yR;exact rfl;exact rfl)|(apply yQ zC;(iterate 3 exact rfl);exact pk)|refine jq ?_ (c:=by exact⟨_,hT neg ds ex _ hl hx,jN⟩)|(apply zS;exact rfl)|apply zA|apply zI|apply zN|exact jS|exact jL|exact jU|exact True.intro|exact rfl)
  all_goals try exact jX
  exact jF (k:=by exact⟨_,_,rfl,rfl,fun g=>⟨_,(trN_ok (a:=(neg,ds,ex-ds.length+1)) hd).1,by rw[←g]⟩⟩)
theorem txN_ok {M:Nm}{t s:List UInt8}(h:txN M=(t,0))(g:t=s):okN M∧s=ctx M:=by
 unfold txN at h
 split at h
 ·rename_i hn
  exact⟨hn,by rw[←g];exact(congrArg Prod.fst h).symm⟩
 ·exact absurd (congrArg Prod.snd h) (by show ¬(9:Int)=0;decide)
theorem rValidD_any (s:List UInt8)(h:SH)(hs:s.length≤9223372036854775807):SRun Tryz.prog 5 [S s] h fun r q =>
  ∃b,r=B b∧q=h∧(b=true→∃M,okT M∧okN M∧s=ctx M):=by
 have hP:=fun h=>rParse_any s h hs
 refine zR Tryz.func5 rfl rfl ?_
 repeat'((fail_if_success (show SWp _ _ (Code.seq (Code.region 2 _ _) _) _ _ _));(fail_if_success (show SWp _ _ (Code.region 2 _ _) _ _ _));first|apply zF|apply zB|apply zE|refine jg ?_ ?_|(refine jc ?_ (c:=by exact⟨_,hP _,jN⟩);rintro _ _ ⟨t,e,rfl,rfl,hM⟩)|apply zA|exact jS|fail)
 by_cases he:e=0
 ·obtain⟨M,m1,m2⟩:=hM he
  repeat'(first|apply zF|apply zB|apply zE|refine jg ?_ ?_|refine jw ?_|refine jh ?_|apply zA|apply zN|exact jS|fail)
  all_goals try exact jX
  exact jF (k:=by exact⟨decide (t=s),rfl,rfl,fun g=>⟨M,m1,txN_ok m2 (of_decide_eq_true g)⟩⟩)
 ·repeat'(first|apply zF|apply zB|apply zE|refine jg ?_ ?_|refine jk ?_|(apply o_sF;(iterate 3 exact rfl);exact ‹_›;exact rfl)|apply zA|apply zN|exact jS|fail)
  all_goals try exact jX
  exact jF (k:=by exact⟨false,rfl,rfl,fun g=>by cases g⟩)

theorem take_self :∀h:SH,Take h h
 |[]=>.nil
 |_::r=>.cons .head (take_self r)
abbrev zNm :List Value:=[B false,.slice none 0 0,I 0]
def Dh (h:SH)(ds:List UInt8)(v:Value)(q:SH):Prop:=(ds=[]∧v=.slice none 0 0∧q=h)∨(ds≠[]∧∃A,v=gsl A 0 ds.length ds.length 0∧q=(A,⟨bytesV ds,false⟩)::h)
theorem scan_nz (M:Nm)(hT:okT M)(h0:M.2.1≠[])(hN:okN M)(h:SH) :
  SRun Tryz.prog 45 [S (ctx M)] h fun r q=>∃v,r=.tuple #[nmV M.1 v M.2.2,B true]∧Dh h M.2.1 v q:=by
 obtain⟨s,p0,pe,pd,n,hs,hp0,hpe,hpd,hpn,hn1,h64,f1,f2,f3,f4,f5,f6,f7,f8,f9,f10,f11⟩:=ctx_facts hT h0 hN
 have hTr:=trN_id hT
 have hok:M.2.1.length≤17∧-400≤fst M∧fst M≤400:=by
  rcases hN with g|g
  ·exact absurd g h0
  ·exact g
 rw[hs]
 clear hs
 obtain⟨neg,ds,e⟩:=M
 dsimp only at *
 have hl0:=List.length_pos_iff.2 h0
 have hfe:fst (neg,ds,e)=e+ds.length-1:=rfl
 have hdd:=dec_ok (fst (neg,ds,e)).natAbs
 generalize fst (neg,ds,e)=f at *
 refine zR Tryz.func45 rfl rfl ?_
 repeat'((fail_if_success (show SWp _ _ (Code.seq (Code.region 7 _ _) _) _ _ _));(fail_if_success (show SWp _ _ (Code.region 7 _ _) _ _ _));first|apply zF|apply zB|apply zE|refine jg ?_ ?_|(apply zM zC;(iterate 3 exact rfl);exact pk)|(apply zX zC;(iterate 4 exact rfl);exact up)|refine jy ?_|refine jx ?_|(apply o_makeFunc;iterate 3 exact rfl)|refine jf ?_|apply zA|apply zI|exact jS|exact jL|exact jE|((with_reducible apply Se.mk);first|(focus(repeat(first|exact SetAt.zero));done))|exact True.intro|intro A|exact rfl)
 all_goals try exact jX
 rename_i n1 n2 n4
 obtain⟨n5,rfl⟩:∃m,m=A:=⟨_,rfl⟩
 have hm:SRun Tryz.prog 91 [S [45],gptr n5 0 1,gptr n1 0 1] ((n5,⟨[I 0],false⟩)::(n4,⟨zNm,false⟩)::(n2,⟨zNm,false⟩)::(n1,⟨[S s],false⟩)::h) fun r q=>r=B neg∧q=(n5,⟨[I p0],false⟩)::(n4,⟨zNm,false⟩)::(n2,⟨zNm,false⟩)::(n1,⟨[S s],false⟩)::h:=by
  cases neg
  ·refine(one_no n5 n1 [45] s 0 _ _ (hpk:=.tail (.tail .head)) (by omega) (by decide) (by omega) (.inr fun i hi=>?_)).mono fun r q ⟨e1,e2⟩=>⟨e1,?_⟩
   ·obtain rfl:i=0:=by have:i<1:=hi;omega
    exact(f2 rfl).1
   ·rw[e2,hp0];rfl
  ·refine(one_yes n5 n1 [45] s 0 0 _ _ (hpk:=.tail (.tail .head)) (by omega) (by decide) (by omega) (by decide) ?_).mono fun r q ⟨e1,e2⟩=>⟨e1,?_⟩
   ·exact(f1 rfl).symm
   ·rw[e2,hp0];rfl
 have hpl:neg=false→SRun Tryz.prog 91 [S [43],gptr n5 0 1,gptr n1 0 1] ((n5,⟨[I p0],false⟩)::(n4,⟨zNm,false⟩)::(n2,⟨zNm,false⟩)::(n1,⟨[S s],false⟩)::h) fun r q=>r=B false∧q=(n5,⟨[I p0],false⟩)::(n4,⟨zNm,false⟩)::(n2,⟨zNm,false⟩)::(n1,⟨[S s],false⟩)::h:=fun g=>by
  refine one_no n5 n1 [43] s p0 _ _ (hpk:=.tail (.tail .head)) (by omega) (by decide) (by omega) (.inr fun i hi=>?_)
  obtain rfl:i=0:=by have:i<1:=hi;omega
  have:=(f2 g).2
  rw[hp0,g]
  exact this
 repeat'((fail_if_success (show SWp _ _ (Code.cond (Operand.tmp 22) _ _) _ _ _));first|apply zF|apply zB|apply zE|refine jg ?_ ?_|(refine jc ?_ (c:=by exact⟨_,hm,jN⟩);rintro _ _ ⟨rfl,rfl⟩)|apply zA|exact jS|fail)
 refine w_meet (S:=Unit) (fun _=>[(1,gptr n1 0 1),(2,gptr n2 0 3),(4,gptr n4 0 3),(5,gptr n5 0 1),(6,.func (.func 91) #[] #[gptr n5 0 1,gptr n1 0 1]),(7,.func (.func 92) #[] #[gptr n5 0 1,gptr n1 0 1])])
  (fun _=>(n5,⟨[I p0],false⟩)::(n4,⟨[B neg,.slice none 0 0,I 0],false⟩)::(n2,⟨zNm,false⟩)::(n1,⟨[S s],false⟩)::h) (fun _=>True) ?_ ?_
 ·cases neg
  ·repeat'(first|apply zB|apply zE|refine jg ?_ ?_|(refine jc ?_ (c:=by exact⟨_,hpl rfl,jN⟩);rintro _ _ ⟨rfl,rfl⟩)|(apply zS;exact rfl)|apply zA|exact jS|fail)
   all_goals try exact jX
   exact⟨(),trivial,jB,jK⟩
  ·repeat'(first|apply zB|apply zE|refine jg ?_ ?_|(apply zX zC;(iterate 4 exact rfl);exact up)|(apply yB;exact rfl)|apply zA|exact jS|exact jL|((with_reducible apply Se.mk);first|(focus(repeat(first|exact SetAt.zero));done))|exact True.intro)
   all_goals try exact jX
   exact⟨(),trivial,jB,jK⟩
 rintro - -
 
 have ht1:(ds.take 1).length=1:=by rw[List.length_take];omega
 have ht2:(ds.drop 1).length=ds.length-1:=List.length_drop
 have hpt:(ptx ds).length=if 1<ds.length then ds.length+1 else 1:=by
  unfold ptx
  split
  ·rw[List.length_append,List.length_append,ht1,ht2]
   show 1+(1+_)=_
   omega
  ·exact ht1
 rw[hpt]at hpe
 clear hpt
 have hp01:p0≤1:=by rw[hp0];split <;> omega
 have hat:bat s ((p0+1:Nat):Int)=if 1<ds.length then 46 else 101:=by
  split
  ·rename_i g;exact(f5 g).1
  ·rename_i g;rw[if_neg g]at hpe;rw[←hpe];exact f6
 have hd1:SRun Tryz.prog 92 [gptr n5 0 1,gptr n1 0 1] ((n5,⟨[I p0],false⟩)::(n4,⟨[B neg,.slice none 0 0,I 0],false⟩)::(n2,⟨zNm,false⟩)::(n1,⟨[S s],false⟩)::h) fun r q=>r=S (ds.take 1)∧q=(n5,⟨[I ((p0+1:Nat):Int)],false⟩)::(n4,⟨[B neg,.slice none 0 0,I 0],false⟩)::(n2,⟨zNm,false⟩)::(n1,⟨[S s],false⟩)::h:=by
  refine(digs_any n5 n1 s p0 1 _ _ (hpk:=.tail (.tail .head)) (by omega) (by omega) (fun j g1 g2=>?_) (.inr ?_)).mono fun r q ⟨e1,e2⟩=>⟨?_,e2⟩
  ·obtain rfl:j=p0:=by omega
   exact f3
  ·rw[hat];split <;> omega
  ·rw[e1,f4]
 have hn1':ds.take 1≠[]:=fun g=>by rw[g]at ht1;exact absurd ht1 (by decide)
 repeat'((fail_if_success (show SWp _ _ (Code.seq (Code.region 14 _ _) _) _ _ _));(fail_if_success (show SWp _ _ (Code.region 14 _ _) _ _ _));first|apply zF|apply zB|apply zE|refine jg ?_ ?_|(apply zM zC;(iterate 3 exact rfl);exact pk)|(apply zX zC;(iterate 4 exact rfl);exact up)|(apply o_appendS_nil zC;iterate 7 exact rfl)|(refine jc ?_ (c:=by exact⟨_,hd1,jN⟩);rintro _ _ ⟨rfl,rfl⟩)|(apply yD;exact rfl;exact ‹_›)|apply zA|apply zI|((with_reducible apply Sd.mk);first|exact True.intro|(constructor <;> first|omega|(unfold maxLen;omega)))|exact jL|exact jE|exact jZ|exact True.intro|intro A|exact rfl)
 all_goals try exact jX
 obtain⟨B0,rfl⟩:∃m,m=A:=⟨_,rfl⟩
 have hds:ds.take 1++ds.drop 1=ds:=List.take_append_drop 1 ds
 refine w_meet (S:=Unit) (fun _=>[(1,gptr n1 0 1),(2,gptr n2 0 3),(4,gptr n4 0 3),(5,gptr n5 0 1),(6,.func (.func 91) #[] #[gptr n5 0 1,gptr n1 0 1]),(7,.func (.func 92) #[] #[gptr n5 0 1,gptr n1 0 1])])
  (fun _=>(n5,⟨[I pe],false⟩)::(B0,⟨bytesV ds,false⟩)::(n4,⟨[B neg,gsl B0 0 ds.length ds.length 1,I (1-ds.length)],false⟩)::(n2,⟨zNm,false⟩)::(n1,⟨[S s],false⟩)::h) (fun _=>True) ?_ ?_
 ·by_cases hlen:1<ds.length
  ·obtain⟨f5a,f5b,f5c⟩:=f5 hlen
   rw[if_pos hlen]at hpe hat
   have hy:SRun Tryz.prog 91 [S [46],gptr n5 0 1,gptr n1 0 1] ((n5,⟨[I ((p0+1:Nat):Int)],false⟩)::(B0,⟨bytesV (ds.take 1),false⟩)::(n4,⟨[B neg,gsl B0 0 (ds.take 1).length (ds.take 1).length 1,I 0],false⟩)::(n2,⟨zNm,false⟩)::(n1,⟨[S s],false⟩)::h) fun r q=>r=B true∧q=(n5,⟨[I ((p0+2:Nat):Int)],false⟩)::(B0,⟨bytesV (ds.take 1),false⟩)::(n4,⟨[B neg,gsl B0 0 (ds.take 1).length (ds.take 1).length 1,I 0],false⟩)::(n2,⟨zNm,false⟩)::(n1,⟨[S s],false⟩)::h :=
    (one_yes n5 n1 [46] s (p0+1) 0 _ _ (hpk:=.tail (.tail (.tail .head))) (by omega) (by decide) (by omega) (by decide) hat.symm).mono fun r q ⟨e1,e2⟩=>⟨e1,by rw[e2];rfl⟩
   have hd2:SRun Tryz.prog 92 [gptr n5 0 1,gptr n1 0 1] ((n5,⟨[I ((p0+2:Nat):Int)],false⟩)::(B0,⟨bytesV (ds.take 1),false⟩)::(n4,⟨[B neg,gsl B0 0 (ds.take 1).length (ds.take 1).length 1,I 0],false⟩)::(n2,⟨zNm,false⟩)::(n1,⟨[S s],false⟩)::h) fun r q=>r=S (ds.drop 1)∧q=(n5,⟨[I pe],false⟩)::(B0,⟨bytesV (ds.take 1),false⟩)::(n4,⟨[B neg,gsl B0 0 (ds.take 1).length (ds.take 1).length 1,I 0],false⟩)::(n2,⟨zNm,false⟩)::(n1,⟨[S s],false⟩)::h:=by
    refine(digs_any n5 n1 s (p0+2) (ds.length-1) _ _ (hpk:=.tail (.tail (.tail .head))) (by omega) (by omega) (fun j g1 g2=>f5b j g1 g2) (.inr ?_)).mono fun r q ⟨e1,e2⟩=>⟨?_,?_⟩
    ·rw[show p0+2+(ds.length-1)=pe by omega,f6];omega
    ·rw[e1,f5c]
    ·rw[e2,show p0+2+(ds.length-1)=pe by omega]
   have hn2':ds.drop 1≠[]:=fun g=>by rw[g]at ht2;have:0=ds.length-1:=ht2;omega
   have hBl:bytesV (ds.take 1)++bytesV (ds.drop 1)=bytesV ds:=by
    conv=>rhs;rw[←hds]
    exact List.map_append.symm
   generalize ds.take 1=d1 at *
   generalize ds.drop 1=d2 at *
   repeat'(first|apply zF|apply zB|apply zE|refine jg ?_ ?_|(apply o_ar zC;exact rfl;exact rfl)|(apply zM zC;(iterate 3 exact rfl);exact pk)|(apply zX zC;(iterate 4 exact rfl);exact up)|(apply o_appendS zC;(iterate 8 exact rfl);exact up)|(refine jc ?_ (c:=by exact⟨_,hy,jC⟩);rintro _ _ ⟨rfl,rfl⟩)|(refine jc ?_ (c:=by exact⟨_,hd2,jN⟩);rintro _ _ ⟨rfl,rfl⟩)|(apply yB;exact rfl)|refine jf ?_|apply zA|apply zI|((with_reducible apply Sd.mk);first|exact True.intro|(constructor <;> first|omega|(unfold maxLen;omega)))|((with_reducible apply Ln.mk);first|rfl|omega|(simp ;first|done|omega))|exact jW|exact jE|exact jZ|exact True.intro|exact rfl)
   all_goals try exact jX
   refine⟨(),trivial,jB,?_⟩
   apply Take.c
   apply Take.cE (congrArg (fun x=>Blk.mk x false) hBl)
   apply Take.cE (congrArg (fun x=>Blk.mk x false) (show _=[B neg,gsl B0 0 ds.length ds.length 1,I (1-ds.length)] by
    rw[show(1:Int)-ds.length=0-d2.length by omega]
    congr 2
    exact gslE rfl rfl (by omega) (by omega) rfl))
   exact jK
  ·rw[if_neg hlen]at hpe hat
   have h1:ds.take 1=ds:=List.take_of_length_le (by omega)
   have hl1:ds.length=1:=by omega
   rw[h1]
   have hy:SRun Tryz.prog 91 [S [46],gptr n5 0 1,gptr n1 0 1] ((n5,⟨[I ((p0+1:Nat):Int)],false⟩)::(B0,⟨bytesV ds,false⟩)::(n4,⟨[B neg,gsl B0 0 ds.length ds.length 1,I 0],false⟩)::(n2,⟨zNm,false⟩)::(n1,⟨[S s],false⟩)::h) fun r q=>r=B false∧q=(n5,⟨[I pe],false⟩)::(B0,⟨bytesV ds,false⟩)::(n4,⟨[B neg,gsl B0 0 ds.length ds.length 1,I 0],false⟩)::(n2,⟨zNm,false⟩)::(n1,⟨[S s],false⟩)::h:=by
    rw[hpe]
    refine one_no n5 n1 [46] s (p0+1) _ _ (hpk:=.tail (.tail (.tail .head))) (by omega) (by decide) (by omega) (.inr fun i hi=>?_)
    obtain rfl:i=0:=by have:i<1:=hi;omega
    rw[hat]
    decide
   repeat'(first|apply zF|apply zB|apply zE|refine jg ?_ ?_|(refine jc ?_ (c:=by exact⟨_,hy,jC⟩);rintro _ _ ⟨rfl,rfl⟩)|(apply zS;exact rfl)|apply zA|apply zI|exact jS|fail)
   all_goals try exact jX
   refine⟨(),trivial,jB,?_⟩
   rw[hl1]
   exact jK
 rintro - -
 obtain⟨dn,hdn⟩:∃dn:Bool,(dn=true↔f<0):=⟨decide (f<0),by simp⟩
 have hy:SRun Tryz.prog 91 [S [101,69],gptr n5 0 1,gptr n1 0 1] ((n5,⟨[I pe],false⟩)::(B0,⟨bytesV ds,false⟩)::(n4,⟨[B neg,gsl B0 0 ds.length ds.length 1,I (1-ds.length)],false⟩)::(n2,⟨zNm,false⟩)::(n1,⟨[S s],false⟩)::h) fun r q=>r=B true∧q=(n5,⟨[I ((pe:Int)+1)],false⟩)::(B0,⟨bytesV ds,false⟩)::(n4,⟨[B neg,gsl B0 0 ds.length ds.length 1,I (1-ds.length)],false⟩)::(n2,⟨zNm,false⟩)::(n1,⟨[S s],false⟩)::h :=
  one_yes n5 n1 [101,69] s pe 0 _ _ (hpk:=.tail (.tail (.tail .head))) (by omega) (by decide) (by split at hpd <;> omega) (by decide) f6.symm
 have hm2:SRun Tryz.prog 91 [S [45],gptr n5 0 1,gptr n1 0 1] ((n5,⟨[I ((pe:Int)+1)],false⟩)::(B0,⟨bytesV ds,false⟩)::(n4,⟨[B neg,gsl B0 0 ds.length ds.length 1,I (1-ds.length)],false⟩)::(n2,⟨zNm,false⟩)::(n1,⟨[S s],false⟩)::h) fun r q=>r=B dn∧q=(n5,⟨[I pd],false⟩)::(B0,⟨bytesV ds,false⟩)::(n4,⟨[B neg,gsl B0 0 ds.length ds.length 1,I (1-ds.length)],false⟩)::(n2,⟨zNm,false⟩)::(n1,⟨[S s],false⟩)::h:=by
  cases dn
  ·have hf:¬f<0:=fun g=>by have:=hdn.2 g;cases this
   rw[if_neg hf]at hpd
   subst hpd
   refine one_no n5 n1 [45] s (pe+1) _ _ (hpk:=.tail (.tail (.tail .head))) (by omega) (by decide) (by omega) (.inr fun i hi=>?_)
   obtain rfl:i=0:=by have:i<1:=hi;omega
   exact(f8 hf).1
  ·have hf:=hdn.1 rfl
   rw[if_pos hf]at hpd
   subst hpd
   exact one_yes n5 n1 [45] s (pe+1) 0 _ _ (hpk:=.tail (.tail (.tail .head))) (by omega) (by decide) (by omega) (by decide) (f7 hf).symm
 have hp2:dn=false→SRun Tryz.prog 91 [S [43],gptr n5 0 1,gptr n1 0 1] ((n5,⟨[I pd],false⟩)::(B0,⟨bytesV ds,false⟩)::(n4,⟨[B neg,gsl B0 0 ds.length ds.length 1,I (1-ds.length)],false⟩)::(n2,⟨zNm,false⟩)::(n1,⟨[S s],false⟩)::h) fun r q=>r=B false∧q=(n5,⟨[I pd],false⟩)::(B0,⟨bytesV ds,false⟩)::(n4,⟨[B neg,gsl B0 0 ds.length ds.length 1,I (1-ds.length)],false⟩)::(n2,⟨zNm,false⟩)::(n1,⟨[S s],false⟩)::h:=fun g=>by
  have hf:¬f<0:=fun k=>by have:=hdn.2 k;rw[g]at this;cases this
  rw[if_neg hf]at hpd
  refine one_no n5 n1 [43] s pd _ _ (hpk:=.tail (.tail (.tail .head))) (by omega) (by decide) (by omega) (.inr fun i hi=>?_)
  obtain rfl:i=0:=by have:i<1:=hi;omega
  rw[hpd]
  exact(f8 hf).2
 repeat'((fail_if_success (show SWp _ _ (Code.cond (Operand.tmp 57) _ _) _ _ _));first|apply zF|apply zB|apply zE|refine jg ?_ ?_|(apply yR;exact rfl;exact rfl)|(refine jc ?_ (c:=by exact⟨_,hy,jN⟩);rintro _ _ ⟨rfl,rfl⟩)|(refine jc ?_ (c:=by exact⟨_,hm2,jN⟩);rintro _ _ ⟨rfl,rfl⟩)|(apply yB;exact rfl)|apply zA|exact jS|fail)
 all_goals try exact jX
 refine w_meet (S:=Unit) (fun _=>[(1,gptr n1 0 1),(2,gptr n2 0 3),(4,gptr n4 0 3),(5,gptr n5 0 1),(10,B dn),(7,.func (.func 92) #[] #[gptr n5 0 1,gptr n1 0 1])])
  (fun _=>(n5,⟨[I pd],false⟩)::(B0,⟨bytesV ds,false⟩)::(n4,⟨[B neg,gsl B0 0 ds.length ds.length 1,I (1-ds.length)],false⟩)::(n2,⟨zNm,false⟩)::(n1,⟨[S s],false⟩)::h) (fun _=>True) ?_ ?_
 ·cases dn
  ·have hq:=hp2 rfl
   repeat'(first|apply zB|apply zE|refine jg ?_ ?_|(refine jc ?_ (c:=by exact⟨_,hq,jN⟩);rintro _ _ ⟨rfl,rfl⟩)|(apply yB;exact rfl)|apply zA|exact jS|fail)
   all_goals try exact jX
   exact⟨(),trivial,jB,jK⟩
  ·repeat'(first|(apply zS;exact rfl)|apply zA|apply zI)
   all_goals try exact jX
   exact⟨(),trivial,jB,jK⟩
 rintro - -
 obtain⟨dd1,dd2,dd3⟩:=hdd
 have hd3:SRun Tryz.prog 92 [gptr n5 0 1,gptr n1 0 1] ((n5,⟨[I pd],false⟩)::(B0,⟨bytesV ds,false⟩)::(n4,⟨[B neg,gsl B0 0 ds.length ds.length 1,I (1-ds.length)],false⟩)::(n2,⟨zNm,false⟩)::(n1,⟨[S s],false⟩)::h) fun r q=>r=S (Lib.decDigits f.natAbs)∧q=(n5,⟨[I s.length],false⟩)::(B0,⟨bytesV ds,false⟩)::(n4,⟨[B neg,gsl B0 0 ds.length ds.length 1,I (1-ds.length)],false⟩)::(n2,⟨zNm,false⟩)::(n1,⟨[S s],false⟩)::h:=by
  refine(digs_any n5 n1 s pd n _ _ (hpk:=.tail (.tail (.tail .head))) (by omega) (by omega) (fun j g1 g2=>f9 j g1 g2) (.inl hpn)).mono fun r q ⟨e1,e2⟩=>⟨?_,?_⟩
  ·rw[e1,f10]
  ·rw[e2,hpn]
 generalize Lib.decDigits f.natAbs=dd at *
 repeat'(first|apply zF|apply zB|apply zE|refine jg ?_ ?_|(apply o_toBytes zC;iterate 7 exact rfl)|(refine jc ?_ (c:=by exact⟨_,hd3,jN⟩);rintro _ _ ⟨rfl,rfl⟩)|refine jf ?_|apply zA|apply zI|apply zH|((with_reducible apply Sd.mk);first|exact True.intro|(unfold maxLen;omega))|intro A)
 all_goals try exact jX
 have hpv:∀i:Nat,i≤dd.length→dv (dd.take i)≤400:=fun i hi=>by
  have h1:dd.take i++dd.drop i=dd:=List.take_append_drop i dd
  have h2:=dv_app (dd.take i) (dd.drop i)
  rw[h1]at h2
  have h3:dv (dd.take i)*1≤dv (dd.take i)*10^(dd.drop i).length:=Nat.mul_le_mul_left _ (Nat.pow_pos (by decide))
  omega
 refine zZ (S:=Nat) (fun i=>[(1,gptr n1 0 1),(2,gptr n2 0 3),(4,gptr n4 0 3),(5,gptr n5 0 1),(10,B dn),(12,I (dv (dd.take i):Nat)),(66,gsl A 0 dd.length dd.length 1),(67,I dd.length),(68,I i)])
  (fun _=>(A,⟨bytesV dd,false⟩)::(n5,⟨[I s.length],false⟩)::(B0,⟨bytesV ds,false⟩)::(n4,⟨[B neg,gsl B0 0 ds.length ds.length 1,I (1-ds.length)],false⟩)::(n2,⟨zNm,false⟩)::(n1,⟨[S s],false⟩)::h) (fun i=>i≤dd.length) (fun i=>dd.length-i) 0 (Nat.zero_le _) jB jK ?_
 intro i hi
 have hb:=bq_255 dd (i:Int)
 have hv:=hpv i hi
 by_cases hil:i<dd.length
 ·have hc:=bat_dig dd1 hil
  have hstep:dv (dd.take (i+1))=10*dv (dd.take i)+(dd[i].toNat-48):=by
   rw[List.take_succ_eq_append_getElem hil,dv_app,dv_cons]
   show dv (dd.take i)*10+((dd[i].toNat-48)*1+0)=_
   omega
  have hbi:=bq_lt hil
  have hv1:=hpv (i+1) hil
  repeat'(first|apply zF|apply zB|apply zE|refine jg ?_ ?_|(apply o_ar zC;exact rfl;exact rfl)|(apply o_min;iterate 3 exact rfl)|(apply zM zC;(iterate 3 exact rfl);exact pk)|refine jd ?_|apply zA|apply zG|apply zI|apply zH|exact jO|((with_reducible apply Ln.mk);first|(simp ;first|done|omega))|((with_reducible apply Wr.mk);first|exact IntWalk.i64_in _ (by omega)|exact IntWalk.u8_in _ (by omega))|((with_reducible apply Ce.mk);first|exact cell_bytes (by omega))|exact True.intro|exact rfl)
  all_goals try exact jX
  exact⟨i+1,by show i+1≤_;omega,by omega,⟨rfl,rfl,rfl,rfl,rfl,congrArg some (congrArg I (by rw[hstep];omega)),rfl,rfl,rfl,trivial⟩,jK⟩
 ·obtain rfl:i=dd.length:=by omega
  have hdt:dv (dd.take dd.length)=f.natAbs:=by rw[List.take_length];exact dd2
  rw[hdt]
  repeat'((fail_if_success (show SWp _ _ (Code.cond (Operand.tmp 80) _ _) _ _ _));first|apply zF|apply zB|apply zE|refine jg ?_ ?_|refine jf ?_|apply zA|apply zK|apply zJ|apply zV|exact jS|fail)
  all_goals try exact jX
  refine w_meet (S:=Unit) (fun _=>[(1,gptr n1 0 1),(2,gptr n2 0 3),(4,gptr n4 0 3),(5,gptr n5 0 1),(12,I f)])
   (fun _=>(n5,⟨[I s.length],false⟩)::(B0,⟨bytesV ds,false⟩)::(n4,⟨[B neg,gsl B0 0 ds.length ds.length 1,I (1-ds.length)],false⟩)::(n2,⟨zNm,false⟩)::(n1,⟨[S s],false⟩)::h) (fun _=>True) ?_ ?_
  ·cases dn
   ·have hf:¬f<0:=fun k=>by have:=hdn.2 k;cases this
    have hfa:(f.natAbs:Int)=f:=by omega
    repeat'(first|(apply zS;exact rfl)|apply zA|apply zI)
    all_goals try exact jX
    exact⟨(),trivial,⟨rfl,rfl,rfl,rfl,congrArg some (congrArg I hfa),trivial⟩,jK⟩
   ·have hf:=hdn.1 rfl
    repeat'(first|apply zB|apply zE|refine jg ?_ ?_|(apply o_ar zC;exact rfl;exact rfl)|(apply yB;exact rfl)|apply zA|exact jS|exact jW|fail)
    all_goals try exact jX
    exact⟨(),trivial,⟨rfl,rfl,rfl,rfl,congrArg some (congrArg I (by omega)),trivial⟩,jK⟩
  rintro - -
  have hz:=zl_id hT.h
  have hz2:=zr_id hT.l
  dsimp only at hz hz2
  have hE:(1-(ds.length:Int))+f=e:=by omega
  have htr:∀H H1,Pick H B0 ⟨bytesV ds,false⟩ H1→SRun Tryz.prog 49 [nmV neg (gsl B0 0 ds.length ds.length 1) ((1-(ds.length:Int))+f)] H fun r q=>r=nmV neg (gsl B0 0 ds.length ds.length 0) e∧q=H:=fun H H1 hp=>by
   have:=trim_ne neg ((1-(ds.length:Int))+f) B0 0 1 ds ds false H H1 (hp:=hp) (by omega) (by omega) (List.take_length) h0 (by omega) (by rw[hz];exact h0)
   refine this.mono fun r q ⟨e1,e2⟩=>⟨?_,e2⟩
   rw[e1,hz,hz2,hE]
   unfold nmV
   rw[show(0+(ds.length-ds.length))=0 by omega,show e+((ds.length:Int)-ds.length)=e by omega]
  have htr2:=htr _ _ (Pick.tail (Pick.head (h:=(n4,⟨[B neg,gsl B0 0 ds.length ds.length 1,I ((1-(ds.length:Int))+f)],false⟩)::(n2,⟨zNm,false⟩)::(n1,⟨[S s],false⟩)::h)) (x:=(n5,⟨[I s.length],false⟩)))
  repeat'(first|apply zF|apply zB|apply zE|refine jr ?_|refine jg ?_ ?_|(apply o_ar zC;exact rfl;exact rfl)|(apply zM zC;(iterate 3 exact rfl);exact pk)|(apply yQ zC;(iterate 3 exact rfl);exact pk)|(apply zX zC;(iterate 4 exact rfl);exact up)|(apply yE zC;(iterate 4 exact rfl);exact⟨rfl⟩;exact up)|(apply o_callE0;(iterate 4 exact rfl);exact⟨htr2,jN⟩;(focus first|exact List.Perm.refl _);(focus(intro ρ D hρ hD;refine⟨?_,?_⟩;(focus repeat(first|exact VR.const rfl|(apply VR.slc';(focus first|((apply rho_pick hρ);(exact pk)));(focus first|((apply dom_pick hD);(exact pk))))|apply VRs.agg|exact VRs.nil|apply VRs.cons));(focus repeat(first|((apply SHR.same);(focus intro x hx;(repeat(first|exact hx));done)))))))|apply zA|apply zN|exact jS|exact jL|exact jW|exact jE|exact jZ|exact jP|exact jU|exact True.intro|refine Rc.mk ⟨_,_,pk,?_⟩|exact Or.inl rfl|refine Or.inr (And.intro ?_ ?_)|apply And.intro|apply Or.inr|exact rfl)
  all_goals try exact jX
  (apply zL;(exact(show ResS _ _ _ _ [_,_] from(res_cell zC rfl rfl rfl (by exact pk) (by first|rfl|exact ‹_›|omega|(simp ;first|done|omega)) (by first|rfl|exact ‹_›|omega|(simp ;first|done|omega)) ⟨rfl,trivial⟩)));exact⟨gsl B0 0 ds.length ds.length 0,congrArg (fun b=>Value.tuple #[nmV neg (gsl B0 0 ds.length ds.length 0) e,B b]) (decide_eq_true rfl),.inr ⟨h0,B0,rfl,rfl⟩⟩;(focus repeat with_reducible first|exact Take.nil|apply Take.c|apply Take.drop))
theorem scan_z (h:SH):SRun Tryz.prog 45 [S [48]] h fun r q=>∃v,r=.tuple #[nmV false v 0,B true]∧Dh h [] v q:=by
 refine zR Tryz.func45 rfl rfl ?_
 repeat'((fail_if_success (show SWp _ _ (Code.seq (Code.region 7 _ _) _) _ _ _));(fail_if_success (show SWp _ _ (Code.region 7 _ _) _ _ _));first|apply zF|apply zB|apply zE|refine jg ?_ ?_|(apply zM zC;(iterate 3 exact rfl);exact pk)|(apply zX zC;(iterate 4 exact rfl);exact up)|refine jy ?_|refine jx ?_|(apply o_makeFunc;iterate 3 exact rfl)|(apply zS;exact rfl)|apply zA|apply zI|exact jS|exact jL|exact jE|((with_reducible apply Se.mk);first|(focus(repeat(first|exact SetAt.zero));done))|exact True.intro|intro A|exact rfl)
 all_goals try exact jX
 rename_i n1 n2 n4
 obtain⟨n5,rfl⟩:∃m,m=A:=⟨_,rfl⟩
 have hm:SRun Tryz.prog 91 [S [45],gptr n5 0 1,gptr n1 0 1] ((n5,⟨[I 0],false⟩)::(n4,⟨zNm,false⟩)::(n2,⟨zNm,false⟩)::(n1,⟨[S [48]],false⟩)::h) fun r q=>r=B false∧q=(n5,⟨[I 0],false⟩)::(n4,⟨zNm,false⟩)::(n2,⟨zNm,false⟩)::(n1,⟨[S [48]],false⟩)::h :=
  one_no n5 n1 [45] [48] 0 _ _ (hpk:=.tail (.tail .head)) (by decide) (by decide) (by decide) (.inr (by decide))
 have hp:SRun Tryz.prog 91 [S [43],gptr n5 0 1,gptr n1 0 1] ((n5,⟨[I 0],false⟩)::(n4,⟨zNm,false⟩)::(n2,⟨zNm,false⟩)::(n1,⟨[S [48]],false⟩)::h) fun r q=>r=B false∧q=(n5,⟨[I 0],false⟩)::(n4,⟨zNm,false⟩)::(n2,⟨zNm,false⟩)::(n1,⟨[S [48]],false⟩)::h :=
  one_no n5 n1 [43] [48] 0 _ _ (hpk:=.tail (.tail .head)) (by decide) (by decide) (by decide) (.inr (by decide))
 have hd:SRun Tryz.prog 92 [gptr n5 0 1,gptr n1 0 1] ((n5,⟨[I 0],false⟩)::(n4,⟨zNm,false⟩)::(n2,⟨zNm,false⟩)::(n1,⟨[S [48]],false⟩)::h) fun r q=>r=S [48]∧q=(n5,⟨[I 1],false⟩)::(n4,⟨zNm,false⟩)::(n2,⟨zNm,false⟩)::(n1,⟨[S [48]],false⟩)::h:=by
  refine digs_any n5 n1 [48] 0 1 _ _ (hpk:=.tail (.tail .head)) (by decide) (by decide) (fun j g1 g2=>?_) (.inl rfl)
  obtain rfl:j=0:=by omega
  decide
 repeat'((fail_if_success (show SWp _ _ (Code.seq (Code.region 14 _ _) _) _ _ _));(fail_if_success (show SWp _ _ (Code.region 14 _ _) _ _ _));first|apply zF|apply zB|apply zE|refine jg ?_ ?_|(apply zM zC;(iterate 3 exact rfl);exact pk)|(apply zX zC;(iterate 4 exact rfl);exact up)|(apply o_appendS_nil zC;iterate 7 exact rfl)|(refine jc ?_ (c:=by exact⟨_,hm,jN⟩);rintro _ _ ⟨rfl,rfl⟩)|(refine jc ?_ (c:=by exact⟨_,hp,jN⟩);rintro _ _ ⟨rfl,rfl⟩)|(refine jc ?_ (c:=by exact⟨_,hd,jN⟩);rintro _ _ ⟨rfl,rfl⟩)|(apply zS;exact rfl)|apply zA|apply zI|((with_reducible apply Sd.mk);first|exact True.intro|decide)|exact jL|exact jE|exact jZ|exact True.intro|intro A|exact rfl)
 all_goals try exact jX
 obtain⟨B0,rfl⟩:∃m,m=A:=⟨_,rfl⟩
 have hn:∀set:List UInt8,set.length≤10→SRun Tryz.prog 91 [S set,gptr n5 0 1,gptr n1 0 1] ((n5,⟨[I 1],false⟩)::(B0,⟨bytesV [48],false⟩)::(n4,⟨[B false,gsl B0 0 1 1 1,I 0],false⟩)::(n2,⟨zNm,false⟩)::(n1,⟨[S [48]],false⟩)::h) fun r q=>r=B false∧q=(n5,⟨[I 1],false⟩)::(B0,⟨bytesV [48],false⟩)::(n4,⟨[B false,gsl B0 0 1 1 1,I 0],false⟩)::(n2,⟨zNm,false⟩)::(n1,⟨[S [48]],false⟩)::h:=fun set hset =>
  one_no n5 n1 set [48] 1 _ _ (hpk:=.tail (.tail (.tail .head))) (by decide) hset (by decide) (.inl rfl)
 have hnd:=hn [46] (by decide)
 have hne:=hn [101,69] (by decide)
 have htr:SRun Tryz.prog 49 [nmV false (gsl B0 0 1 1 1) 0] ((n5,⟨[I 1],false⟩)::(B0,⟨bytesV [48],false⟩)::(n4,⟨[B false,gsl B0 0 1 1 1,I 0],false⟩)::(n2,⟨zNm,false⟩)::(n1,⟨[S [48]],false⟩)::h) fun r q=>r=nmV false (.slice none 0 0) 0∧q=(n5,⟨[I 1],false⟩)::(B0,⟨bytesV [48],false⟩)::(n4,⟨[B false,gsl B0 0 1 1 1,I 0],false⟩)::(n2,⟨zNm,false⟩)::(n1,⟨[S [48]],false⟩)::h :=
  trim_nil false 0 B0 0 1 [48] [48] false _ _ (hp:=.tail .head) (by decide) (by decide) rfl (by decide) (by decide) rfl
 repeat'(first|apply zF|apply zB|apply zE|refine jr ?_|refine jg ?_ ?_|(apply zM zC;(iterate 3 exact rfl);exact pk)|(apply yQ zC;(iterate 3 exact rfl);exact pk)|(apply yE zC;(iterate 4 exact rfl);exact⟨rfl⟩;exact up)|(refine jc ?_ (c:=by exact⟨_,hnd,jC⟩);rintro _ _ ⟨rfl,rfl⟩)|(refine jc ?_ (c:=by exact⟨_,hne,jN⟩);rintro _ _ ⟨rfl,rfl⟩)|(apply o_callE0;(iterate 4 exact rfl);exact⟨htr,jN⟩;(focus first|exact List.Perm.refl _);(focus(intro ρ D hρ hD;refine⟨?_,?_⟩;(focus repeat(first|exact VR.const rfl));(focus repeat(first|((apply SHR.same);(focus intro x hx;(repeat(first|exact hx));done)))))))|(apply zS;exact rfl)|apply zA|apply zI|apply zN|exact jS|exact jL|exact jE|exact jP|exact jU|exact True.intro|refine Rc.mk ⟨_,_,pk,?_⟩|exact Or.inl rfl|refine Or.inr (And.intro ?_ ?_)|apply And.intro|apply Or.inr|exact rfl)
 all_goals try exact jX
 (apply zL;(exact(show ResS _ _ _ _ [_,_] from(res_cell zC rfl rfl rfl (by exact pk) (by first|rfl|exact ‹_›|omega|(simp ;first|done|omega)) (by first|rfl|exact ‹_›|omega|(simp ;first|done|omega)) ⟨rfl,trivial⟩)));exact⟨.slice none 0 0,rfl,.inl ⟨rfl,rfl,rfl⟩⟩;(focus repeat with_reducible first|exact Take.nil|apply Take.c|apply Take.drop))
theorem scan_any (M:Nm)(hT:okT M)(hN:okN M)(h:SH) :
  SRun Tryz.prog 45 [S (ctx M)] h fun r q=>∃v,r=.tuple #[nmV M.1 v M.2.2,B true]∧Dh h M.2.1 v q:=by
 by_cases h0:M.2.1=[]
 ·rw[hT.z h0]
  exact scan_z h
 ·exact scan_nz M hT h0 hN h

theorem Canon_any (M:Nm)(hT:okT M)(hN:okN M)(h:SH) :
  SRun Tryz.prog 24 [S (ctx M)] h fun r q=>∃v,r=.tuple #[nmV M.1 v M.2.2,B true]∧Dh h M.2.1 v q:=by
 have hS:=fun h=>scan_any M hT hN h
 have hX:=fun v h hd=>text_any M v h hd
 have hb:M.2.1.length≤1000000∧(-4000000≤M.2.2∧M.2.2≤4000000):=by
  rcases hN with g|⟨g1,g2,g3⟩
  ·rw[hT.z g];decide
  ·have:fst M=M.2.2+M.2.1.length-1:=rfl
   omega
 have htx:txN M=(ctx M,0):=if_pos hN
 rw[htx]at hX
 obtain⟨s,hs⟩:∃s,ctx M=s:=⟨_,rfl⟩
 rw[hs]at hS hX ⊢
 obtain⟨neg,ds,e⟩:=M
 dsimp only at *
 by_cases h0:ds=[]
 ·subst h0
  have hS1:∀h,SRun Tryz.prog 45 [S s] h fun r q=>r=.tuple #[nmV neg (.slice none 0 0) e,B true]∧q=h:=fun h=>(hS h).mono fun r q ⟨v,e1,e2⟩=>by
   rcases e2 with⟨_,rfl,rfl⟩|⟨g,_⟩
   ·exact⟨e1,rfl⟩
   ·exact absurd rfl g
  have hX1:=fun h=>hX (.slice none 0 0) h (.inl ⟨rfl,rfl⟩) hb.1 hb.2
  refine zR Tryz.func24 rfl rfl ?_
  repeat'(first|apply zF|apply zB|apply zE|refine jg ?_ ?_|(apply yR;exact rfl;exact rfl)|(apply yQ zC;(iterate 3 exact rfl);exact pk)|(apply yE zC;(iterate 4 exact rfl);exact⟨rfl⟩;exact up)|refine jy ?_|(refine jc ?_ (c:=by exact⟨_,hS1 _,jN⟩);rintro _ _ ⟨rfl,rfl⟩)|(refine jc ?_ (c:=by exact⟨_,hX1 _,jN⟩);rintro _ _ ⟨rfl,rfl⟩)|refine jw ?_|(apply zS;exact rfl)|apply zA|apply zI|apply zN|exact jS|exact jL|exact jP|exact jU|exact True.intro|intro A|exact rfl)
  all_goals try exact jX
  (apply zL;(exact(show ResS _ _ _ _ [_,_] from(res_cell zC rfl rfl rfl (by exact pk) (by first|rfl|exact ‹_›|omega|(simp ;first|done|omega)) (by first|rfl|exact ‹_›|omega|(simp ;first|done|omega)) ⟨rfl,trivial⟩)));exact⟨_,congrArg (fun b=>Value.tuple #[nmV neg (.slice none 0 0) e,B b]) (decide_eq_true rfl),.inl ⟨rfl,rfl,rfl⟩⟩;(focus repeat with_reducible first|exact Take.nil|apply Take.c|apply Take.drop))
 ·have hS1:∀h,SRun Tryz.prog 45 [S s] h fun r q=>∃A,r=.tuple #[nmV neg (gsl A 0 ds.length ds.length 0) e,B true]∧q=(A,⟨bytesV ds,false⟩)::h:=fun h=>(hS h).mono fun r q ⟨v,e1,e2⟩=>by
   rcases e2 with⟨g,_⟩|⟨_,A,rfl,rfl⟩
   ·exact absurd g h0
   ·exact⟨A,e1,rfl⟩
  refine zR Tryz.func24 rfl rfl ?_
  repeat'((fail_if_success (show SWp _ _ (Code.seq (Code.region 4 _ _) _) _ _ _));(fail_if_success (show SWp _ _ (Code.region 4 _ _) _ _ _));first|apply zF|apply zB|apply zE|refine jg ?_ ?_|(apply yR;exact rfl;exact rfl)|(apply yE zC;(iterate 4 exact rfl);exact⟨rfl⟩;exact up)|refine jy ?_|(refine jc ?_ (c:=by exact⟨_,hS1 _,jN⟩);rintro _ _ ⟨B0,rfl,rfl⟩)|(apply zS;exact rfl)|apply zA|apply zI|exact jS|exact jL|exact jP|exact True.intro|intro A)
  all_goals try exact jX
  rename_i n2
  obtain⟨n4,rfl⟩:∃m,m=A:=⟨_,rfl⟩
  have hX1:=hX (gsl B0 0 ds.length ds.length 0) ((n4,⟨[B neg,gsl B0 0 ds.length ds.length 0,I e],false⟩)::(B0,⟨bytesV ds,false⟩)::(n2,⟨[B false,.slice none 0 0,I 0],false⟩)::h) (.inr ⟨h0,B0,0,0,ds,false,_,rfl,.tail .head,by omega,List.take_length⟩) hb.1 hb.2
  repeat'(first|apply zF|apply zB|apply zE|refine jg ?_ ?_|(apply yQ zC;(iterate 3 exact rfl);exact pk)|(apply yE zC;(iterate 4 exact rfl);exact⟨rfl⟩;exact up)|(refine jc ?_ (c:=by exact⟨_,hX1,jN⟩);rintro _ _ ⟨rfl,rfl⟩)|refine jw ?_|apply zA|apply zN|exact jS|exact jL|exact jP|exact jU|exact True.intro|exact rfl)
  all_goals try exact jX
  (apply zL;(exact(show ResS _ _ _ _ [_,_] from(res_cell zC rfl rfl rfl (by exact pk) (by first|rfl|exact ‹_›|omega|(simp ;first|done|omega)) (by first|rfl|exact ‹_›|omega|(simp ;first|done|omega)) ⟨rfl,trivial⟩)));exact⟨_,congrArg (fun b=>Value.tuple #[nmV neg (gsl B0 0 ds.length ds.length 0) e,B b]) (decide_eq_true rfl),.inr ⟨h0,B0,rfl,rfl⟩⟩;(focus repeat with_reducible first|exact Take.nil|apply Take.c|apply Take.drop))
end Go.Proofs.YteddogfolceahaaGreatDoor
end
