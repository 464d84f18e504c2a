/- Part 13 of the proof of the law TopDamage: texts merged. No condition. -/
import Derived.Test.YteddogfolceahaaGreatZTopDamageL
set_option linter.unusedSimpArgs false
set_option linter.unusedVariables false
section
set_option maxRecDepth 4000
namespace Go.Proofs.YteddogfolceahaaGreat
open Go.Gh Go.RowKit

theorem hasT5 {q h1:SH}{A:Nat}(p:Pick q A ⟨nodes Lt,false⟩ h1):Has q (nodes Lt) 1 Lt.length (gsl A 0 (5*1) 5 1):=⟨_,_,rfl,fun _=>⟨A,_,_,rfl,p⟩⟩
theorem hasB5 {q h1:SH}{A:Nat}(p:Pick q A ⟨Lb.map sV,false⟩ h1):Has q (Lb.map sV) 1 Lb.length (gsl A 0 (5*1) 5 1):=⟨_,_,rfl,fun _=>⟨A,_,_,rfl,p⟩⟩
theorem hasB5' {q h1:SH}{A:Nat}(p:Pick q A ⟨Lb.map sV,false⟩ h1):Has q (Lb.map sV) 1 Lb.length (gsl A 0 5 5 1):=⟨_,_,rfl,fun _=>⟨A,_,_,rfl,p⟩⟩
theorem hasF2 {q h1:SH}{A:Nat}{a b:List UInt8}(p:Pick q A ⟨recs frC [(1,a),(2,b)],false⟩ h1):Has q (recs frC [(1,a),(2,b)]) 2 2 (gsl A 0 (2*2) 2 2):=⟨_,_,rfl,fun _=>⟨A,_,_,rfl,p⟩⟩
abbrev ltC :List Value:=[.int .i64 0,.int .i64 5,.int .i64 10,.int .i64 15,.int .i64 21]
abbrev lbC :List Value:=[.string (ByteArray.mk #[48,48]),.string (ByteArray.mk #[48,49]),.string (ByteArray.mk #[49,48]),.string (ByteArray.mk #[49,49]),.string (ByteArray.mk #[48,120])]
set_option maxHeartbeats 2000000 in
theorem awakeCodec_any (h:SH):SRun Tryz.prog 5 [] h fun r q=>r=B true∧q=h:=by
 have k1:∀{q h1:SH} {A:Nat},Pick q A ⟨ltC,false⟩ h1→SRun Tryz.prog 21 [gsl A 0 (5*1) 5 1] q fun r q'=>r=.tuple #[S (cod0 Lt),I 0]∧q'=q:=fun p=>awT_enc _ _ (hasT5 p)
 have k2:∀{q h1:SH} {A:Nat},Pick q A ⟨lbC,false⟩ h1→SRun Tryz.prog 22 [I 2,gsl A 0 (5*1) 5 1] q fun r q'=>r=.tuple #[S Db,I 0]∧q'=q:=fun p=>awB_enc _ _ (hasB5 p)
 have k3:∀{q h1:SH} {A:Nat},Pick q A ⟨[I 1,S (cod0 Lt),I 2,S Db],false⟩ h1→SRun Tryz.prog 7 [gsl A 0 (2*2) 2 2] q fun r q'=>r=.tuple #[S Dc,I 0]∧q'=q:=fun p=>awF_enc _ _ (hasF2 p)
 have k4:=awF_dec
 have k5:=awT_dec
 have k6:=awB_dec
 have k7:∀{q h1 h2:SH} {A B:Nat},Pick q A ⟨Lb.map sV,false⟩ h1→Pick q B ⟨lbC,false⟩ h2→SRun Tryz.prog 25 [gsl A 0 5 5 1,gsl B 0 (5*1) 5 1] q fun r q'=>r=.bool true∧q'=q:=fun p p'=>rTexts_any Lb _ _ _ (hasB5' p) (hasB5 p') (by decide) (by decide)
 have hc4:(nodes Lt)[0+(4:Int).toNat*1]?=some (I 21):=rfl
 generalize cod0 Lt=a at *
 generalize Db=b at *
 generalize Dc=c at *
 refine w_body0 Tryz.func5 rfl rfl ?_
 repeat'((fail_if_success (show SWp _ _ (Code.seq (Code.region 6 _ _) _) _ _ _));(fail_if_success (show SWp _ _ (Code.region 6 _ _) _ _ _));first|apply zF|apply zB|apply zE|(apply o_g zC;exact rfl;exact rfl)|(apply yT zC;exact rfl;exact rfl;(focus first|with_reducible exact pl33);exact rfl;(focus repeat(first|exact BuildR.nil|(apply BuildR.one;exact rfl;exact rfl;(first|(focus(repeat(first|exact SetAt.zero|apply SetAt.succ));done)))));exact rfl)|(apply zT zC;(iterate 5 exact rfl);(focus decide);exact rfl;(focus decide);(focus repeat(first|exact CatR.nil|exact CatR.last rfl|(apply CatR.one;exact rfl;exact rfl)|(apply CatR.agg;exact rfl)));exact rfl)|(apply zD;exact rfl;exact rfl;(focus first|exact rfl);exact rfl;(focus exact⟨_,k1 (.tail .head),by repeat with_reducible exact Take.nil⟩);rintro _ _ ⟨rfl,rfl⟩)|(apply zD;exact rfl;exact rfl;(focus first|exact rfl);exact rfl;(focus exact⟨_,k2 .head,by repeat with_reducible exact Take.nil⟩);rintro _ _ ⟨rfl,rfl⟩)|(apply zD;exact rfl;exact rfl;(focus first|exact rfl);exact rfl;(focus exact⟨_,k3 .head,by repeat with_reducible first|exact Take.nil|apply Take.c⟩);rintro _ _ ⟨rfl,rfl⟩)|(apply zD;exact rfl;exact rfl;(focus first|exact rfl);exact rfl;(focus exact⟨_,k4 _,by repeat with_reducible exact Take.nil⟩);rintro _ _ ⟨A9,fl9,ro9,h9,rfl,hp9,ht9⟩)|apply zA|((with_reducible apply Sd.mk);first|exact True.intro)|intro A)
 rename_i A1 A2 q
 obtain⟨hb,hpb,_⟩:=ht9.pick (.tail .head)
 have hl4:([I 1,S a,I 2,S b]:List Value).length=4:=rfl
 have f1:([I 1,S a,I 2,S b]:List Value)[0+(0:Int).toNat*2+1]?=some (S a):=rfl
 have f2:([I 1,S a,I 2,S b]:List Value)[0+(1:Int).toNat*2+1]?=some (S b):=rfl
 repeat'(first|apply zF|apply zB|apply zE|(apply o_g zC;exact rfl;exact rfl)|(apply zM zC;(iterate 3 exact rfl);(focus exact pk))|(apply zD;exact rfl;exact rfl;(focus first|exact rfl);exact rfl;(focus exact⟨_,k5 _,by repeat with_reducible exact Take.nil⟩);rintro _ _ ⟨A10,rfl,rfl⟩)|(apply zD;exact rfl;exact rfl;(focus first|exact rfl);exact rfl;(focus exact⟨_,k6 _,by repeat with_reducible exact Take.nil⟩);rintro _ _ ⟨A11,rfl,rfl⟩)|(apply zD;exact rfl;exact rfl;(focus first|exact rfl);exact rfl;(focus exact⟨_,k7 .head (.tail (.tail hpb)),by repeat with_reducible exact Take.nil⟩);rintro _ _ ⟨rfl,rfl⟩)|(apply zU;exact rfl;exact rfl)|(apply zS;exact rfl)|apply zA|apply zI|apply zN|((with_reducible apply Sd.mk);first|exact True.intro|omega)|((with_reducible apply Ln.mk);first|rfl)|((with_reducible apply Ce.mk);first|rfl)|exact True.intro|exact rfl)
 (apply zL;(exact(show ResS _ _ _ _ [_] from⟨rfl,trivial⟩));(focus exact⟨rfl,rfl⟩);(focus repeat with_reducible first|exact Take.nil|apply Take.c|apply Take.drop))
 all_goals exact ht9.trans (.drop (.drop (.drop .nil)))

theorem a_toString_dead {P:Program}{N:Fr}{o:Oper}{a:AF}{H:Heap}(T U:TypeId)(x:Operand){E:Nat}(ho:o.op=.convert T U x)(hx:ev a x=some sempty)
  (hT:P.underlying T=some (.slice E)) (hE:P.underlying E=some (.int .u8)) (hU:P.underlying U=some .string):APure P N o a H (S []):=by
 refine⟨fun B0 w0 φ w ac r hf=>?_⟩
 have hx':=zW hf hx
 refine⟨S [],.str _,fun w1 _=>?_⟩
 generalize hu:ac.eval x=u at hx'
 cases hx' with
 |sdead c cap hm =>
  have hload:=run_loadCells_list (P:=P) w1 c [] (by simp)
  have hrun:=run_bytesToString (P:=P) w1 c 0 cap [] (by simpa using hload)
  unfold execOp
  simp only[ho,hu,convert,Sem.run_bind,run_underlying hT,run_underlying hU,run_underlying hE,Result.andThen_ok,hrun,Sem.run_pure]
  rfl
theorem o_toString_dead {m:Gh.Mode}{P:Program}{sz:Nat}{ops:Array Oper}{Q:SPost}{rest:List Oper}{a:AF}{h:SH}{t:Nat}{ty:TypeId}{pos:String}{aft:Array Edge}{tt:TT}{T U:Nat}{x:Operand}{E s b:Nat}{z:Option Value}{e1 e2:TE}(ht:tt.Ok P)
  (hx:ev a x=some sempty) (hT:tt.get T=some ⟨.slice E,s,b,z⟩) (hE:tt.get E=some e1) (hU:tt.get U=some e2) (k1:e1.k=.int .u8) (k2:e2.k=.str)
  (hN:Nat.blt t sz=true) (k:GO m.next P sz ops Q rest ((t,S [])::a) h):GO m P sz ops Q (⟨some t,.convert T U x,ty,pos,aft,none⟩::rest) a h :=
 o_pure (fun _ _ _ hag=>a_toString_dead T U x rfl ((hag.ev (by simp[Op.operands,Call.operands])).trans hx) (te_slice (TT.get_ok ht hT) rfl) (te_int (TT.get_ok ht hE) k1) (te_str (TT.get_ok ht hU) k2)) hN k
theorem bytesV_seg (t:List UInt8)(o n:Nat):bytesV ((t.drop o).take n)=((bytesV t).drop o).take n:=by
 simp[bytesV,List.map_take,List.map_drop]
theorem subAt_seg {t:List UInt8}{o n:Nat}(h:o+n≤t.length):SubAt (bytesV t) (0+o*1) (bytesV ((t.drop o).take n)):=by
 rw[bytesV_seg,Nat.zero_add,Nat.mul_one]
 exact subAt_get (by simp;omega)
theorem subAt_tl {t:List UInt8}{o:Nat}(h:o≤t.length):SubAt (bytesV t) (0+o*1) (bytesV (t.drop o)):=by
 have:=subAt_seg (t:=t) (o:=o) (n:=t.length-o) (by omega)
 rwa [show(t.drop o).take (t.length-o)=t.drop o from List.take_of_length_le (by rw[List.length_drop];exact Nat.le_refl _)]at this
theorem subAt_hd {t:List UInt8}{n:Nat}(h:n≤t.length):SubAt (bytesV t) 0 (bytesV (t.take n)):=by
 have:=subAt_seg (t:=t) (o:=0) (n:=n) (by omega)
 exact this
theorem rFramesP_any (L:List Fr1)(k A2 fl2:Nat)(ro2:Bool)(v:Value)(h h2:SH)(hk:k≤L.length)(hL:L.length≤1000)(hv:Has h (recs frC (L.take k)) 2 k v)(hp2:Pick h A2 ⟨recs frC L,ro2⟩ h2) :
  SRun Tryz.prog 12 [v,gsl A2 0 (2*L.length) k fl2] h fun r q=>r=B true∧q=h:=by
 have hlb:=frC_len L
 have hlk:(L.take k).length=k:=by rw[List.length_take];omega
 have hlb2:=frC_len (L.take k)
 rw[hlk]at hlb2
 obtain⟨ad,fl,rfl,hh⟩:=hv
 refine zY Tryz.func12 rfl rfl ?_
 repeat'(first|apply zF|apply zB|apply zE|(apply o_g zC;exact rfl;exact rfl)|(apply yD;exact rfl;(focus first|omega))|apply zA|apply zI|apply zH|((with_reducible apply Sd.mk);first|exact True.intro))
 all_goals first|contradiction|(exfalso;omega)|skip
 refine zZ (S:=Nat) (fun i=>[(0,.slice ad k fl),(1,gsl A2 0 (2*L.length) k fl2),(5,I i)]) (fun _=>h) (fun i=>i≤k) (fun i=>k-i) 0 (Nat.zero_le _) (by repeat'(first|exact trivial|refine⟨rfl,?_⟩|refine⟨congrArg some ?_,?_⟩)) (by repeat with_reducible first|exact Take.nil|apply Take.c|apply Take.drop) ?_
 rintro i hi
 by_cases hik:i<k
 ·obtain⟨A',ro,h1,rfl,hp⟩:=hh (by omega)
  have e:(L.take k)[i]! = L[i]!:=by
   rw[getElem!_pos _ i (by omega),getElem!_pos L i (by omega),List.getElem_take]
  have hcf:cellsEqB (frC (L.take k)[i]!) (frC L[i]!)=true:=by rw[e];exact frEq.2 rfl
  repeat'(first|apply zF|apply zB|apply zE|(apply yH;(focus kernel_rfl);(focus kernel_rfl))|(apply o_g zC;exact rfl;exact rfl)|(apply o_ar zC;exact rfl;exact rfl)|(apply yQ zC;(iterate 3 exact rfl);(focus exact pk))|(apply o_neqs;(iterate 3 exact rfl);(focus kernel_rfl);exact rfl;exact rfl;(focus kernel_rfl);exact rfl)|(apply yC;exact rfl;(focus first|omega))|(apply yD;exact rfl;(focus first|exact fun g=>g hcf))|apply zA|apply zG|apply zI|apply zH|((with_reducible apply Sd.mk);first|exact True.intro|omega)|((with_reducible apply Ln.mk);first|rfl|omega)|((with_reducible apply Wr.mk);first|exact IntWalk.i64_in _ (by omega))|((with_reducible apply Su.mk);first|exact subAt_recZ (fun _=>rfl) (by omega))|exact True.intro|exact rfl)
  all_goals first
   |contradiction
   |(exfalso;omega)
   |(exfalso;exact hc hcf)
   |exact⟨i+1,hik,by omega,(by repeat'(first|exact trivial|refine⟨rfl,?_⟩|refine⟨congrArg some ?_,?_⟩)),(by repeat with_reducible first|exact Take.nil|apply Take.c|apply Take.drop)⟩
 ·repeat'(first|apply zF|apply zB|apply zE|(apply o_g zC;exact rfl;exact rfl)|(apply yD;exact rfl;(focus first|omega))|apply zA|apply zK|apply zJ|apply zN|apply zV|((with_reducible apply Sd.mk);first|exact True.intro))
  all_goals first
   |(exfalso;omega)
   |(apply zL;(exact(show ResS _ _ _ _ [_] from⟨rfl,trivial⟩));(focus exact⟨rfl,rfl⟩);(focus repeat with_reducible first|exact Take.nil|apply Take.c|apply Take.drop))
set_option maxHeartbeats 8000000 in
theorem Dam_main (L:List Fr1)(A1 fl:Nat)(ro1:Bool)(wh a:Int)(c k:Nat)(h g1:SH)(hp1:Pick h A1 ⟨recs frC L,ro1⟩ g1)(hv:Has h (recs frC L) 2 L.length (gsl A1 0 (2*L.length) L.length fl))(hok:okF L)(hl4:L.length≤4)(hc100:∀x∈L,(x.2.length:Int)≤100)
  (hwh:0≤wh∧wh<256) (ha:0≤a∧a<65536) (h0:c≠0) (hc:c<4294967296) (hk:k<L.length) (hkw:(k:Int)=wh%L.length) (hun:¬(lzE L[k]!.2).1.length<L[k]!.2.length) (h1:1≤L[k]!.2.length) (h8:8≤(wrp L[k]!.1 L[k]!.2).1.length) :
  SRun Tryz.prog 3 [gsl A1 0 (2*L.length) L.length fl,.int .u8 wh,.int .u16 a,.int .u32 (c:Int)] h fun r _=>r=B true:=by
 have hlb:=frC_len L
 have hSh:=fun h hv=>rShort_any L (gsl A1 0 (2*L.length) L.length fl) 4 100 h hv (by omega) (fun x hx=>by have:=hc100 x hx;omega)
 rw[decide_eq_true (show(L.length:Int)≤4∧∀x∈L,(x.2.length:Int)≤100 from⟨by omega,hc100⟩)]at hSh
 have hE:=fun h hv=>EncodeF_any L (gsl A1 0 (2*L.length) L.length fl) h hv (by omega) (fun x hx=>by have:=hc100 x hx;omega)
 rw[encF_cat [] hok,List.nil_append]at hE
 dsimp only at hE
 obtain⟨c7,c4⟩:=catF_len hok
 have hK:=fun h=>Walk_any (catF L) h (by omega)
 rw[show wkL (catF L) (catF L).length 0=fdsF 0 L from wkL_cat L [] _ hok (Nat.le_refl _)]at hK
 have hfl:=fdsF_len L 0
 have hfb:=fdC_len (fdsF 0 L)
 have hFk:=fdsF_at L 0 k hk
 rw[Nat.zero_add]at hFk
 rw[hfl]at hK hfb
 generalize fdsF 0 L=F at *
 have hwok:=hok _ (bang_mem hk)
 have hct:=hc100 _ (bang_mem hk)
 have hCo:=fun h=>Compressed_any ((catF L).drop (posF L k)) h (by rw[List.length_drop];omega)
 have hcm:cmpr ((catF L).drop (posF L k))=false:=by
  unfold cmpr
  rw[catF_drop hk,prs_wrp hwok]
  exact decide_eq_false hun
 rw[hcm]at hCo
 have hNc:L[k]!.2.length+7≤(wrp L[k]!.1 L[k]!.2).1.length:=by
  obtain⟨k1,k2,_⟩:=wrp_len hwok
  have hv:=vnum_len (n:=(L[k]!.2.length:Int)) (by omega)
  unfold wrp
  rw[if_neg (by omega),if_neg (by omega)]
  dsimp only
  rw[if_neg hun]
  unfold sl frm
  rw[List.length_append,List.length_append,List.length_append,le4_len,hd2_len]
  omega
 have hNu:(wrp L[k]!.1 L[k]!.2).1.length≤L[k]!.2.length+17:=by
  obtain⟨k1,k2,_⟩:=wrp_len hwok
  have hv:=vnum_len (n:=(L[k]!.2.length:Int)) (by omega)
  have hv2:=vk_ok (n:=(L[k]!.2.length:Int)) (by omega)
  unfold wrp
  rw[if_neg (by omega),if_neg (by omega)]
  dsimp only
  rw[if_neg hun]
  unfold sl frm
  rw[List.length_append,List.length_append,List.length_append,le4_len,hd2_len]
  omega
 have hrem:wh.tmod (L.length:Int)=(k:Int):=by rw[Int.tmod_eq_emod_of_nonneg (by omega)];exact hkw.symm
 have hdm:=fun(T:List UInt8) (i:Nat) hd hi hf=>top_dmg (L:=L) (k:=k) (i:=i) (c:=c) (T:=T) hok hk hun hd hi hf h0 hc
 have hPS:posF L k+(wrp L[k]!.1 L[k]!.2).1.length≤(catF L).length:=by
  have h1:=congrArg List.length (catF_drop hk)
  rw[List.length_drop,List.length_append]at h1
  have h2:posF L k≤(catF L).length:=by
   have e:catF L=catF (L.take k)++catF (L.drop k):=by rw[←catF_app,List.take_append_drop]
   rw[e,List.length_append]
   exact Nat.le_add_right _ _
  omega
 obtain⟨W,hW⟩:∃W,(wrp L[k]!.1 L[k]!.2).1=W:=⟨_,rfl⟩
 have hWs:crcF W (~~~ 0#32)=KK:=by
  rw[←hW]
  unfold wrp
  obtain⟨k1,k2,_⟩:=wrp_len hwok
  rw[if_neg (by omega),if_neg (by omega)]
  dsimp only
  rw[if_neg hun]
  exact sl_sealed _
 rw[hW]at h8 hNc hNu hdm hPS hFk
 obtain⟨N,hN⟩:∃N,W.length=N:=⟨_,rfl⟩
 obtain⟨P,hP⟩:∃P,posF L k=P:=⟨_,rfl⟩
 obtain⟨s,hs⟩:∃s,catF L=s:=⟨_,rfl⟩
 rw[hN]at h8 hNc hNu hdm hPS hFk
 rw[hP]at hdm hPS hFk hCo
 rw[hs]at hE c7 c4 hK hdm hPS hCo
 obtain⟨kd,ct,hkc⟩:∃kd ct,L[k]! = (kd,ct):=⟨_,_,rfl⟩
 rw[hkc]at h1 hct hNc hNu hdm hFk
 dsimp only at h1 hct hNc hNu hdm hFk
 obtain⟨r,hr⟩:∃r:Nat,(r:Int)=a%((ct.length:Int)+1):=⟨(a%((ct.length:Int)+1)).toNat,by have:=Int.emod_nonneg a (show(ct.length:Int)+1≠0 by omega);omega⟩
 have hr2:r≤ct.length:=by have:=Int.emod_lt_of_pos a (show 0<(ct.length:Int)+1 by omega);omega
 have hrem2:a.tmod ((P:Int)+(N:Int)-((P:Int)+(N:Int)-4-(ct.length:Int))-3)=(r:Int):=by
  rw[Int.tmod_eq_emod_of_nonneg (by omega),show(P:Int)+(N:Int)-((P:Int)+(N:Int)-4-(ct.length:Int))-3=(ct.length:Int)+1 by omega]
  exact hr.symm
 obtain⟨i0,hi0⟩:∃i0,i0=N-4-ct.length+r:=⟨_,rfl⟩
 have hcw:IntKind.i64.wrap wh=wh:=IntWalk.i64_in _ (by omega)
 have hca:IntKind.i64.wrap a=a:=IntWalk.i64_in _ (by omega)
 clear hW hwok hcm hun hr hkw hP hs hwh ha
 refine w_body4 Tryz.func3 rfl rfl ?_
 repeat'((fail_if_success (show SWp _ _ (Code.seq (Code.region 12 _ _) _) _ _ _));(fail_if_success (show SWp _ _ (Code.region 12 _ _) _ _ _));first|apply zF|apply zB|apply zE|(apply o_g zC;exact rfl;exact rfl)|(apply o_ar zC;exact rfl;exact rfl)|(apply o_ex;exact rfl;exact rfl)|(apply yR;exact rfl;exact rfl)|(apply zD;exact rfl;exact rfl;(focus first|exact rfl);exact rfl;(focus exact⟨_,awakeCodec_any _,by repeat with_reducible exact Take.nil⟩);rintro _ _ ⟨rfl,rfl⟩)|(apply zD;exact rfl;exact rfl;(focus first|exact rfl);exact rfl;(focus exact⟨_,hSh _ hv,by repeat with_reducible exact Take.nil⟩);rintro _ _ ⟨rfl,rfl⟩)|(apply zD;exact rfl;exact rfl;(focus first|exact rfl);exact rfl;(focus exact⟨_,hE _ hv,by repeat with_reducible exact Take.nil⟩);rintro _ _ ⟨rfl,rfl⟩)|(apply zD;exact rfl;exact rfl;(focus first|exact rfl);exact rfl;(focus exact⟨_,hK _,by repeat with_reducible exact Take.nil⟩);rintro _ _ ⟨⟨ad2,fl2,rfl,hh2⟩,ht2⟩)|(apply zU;exact rfl;exact rfl)|(apply o_gF;(iterate 3 exact rfl);(focus first|omega))|(apply zS;exact rfl)|(apply yD;exact rfl;(focus first|omega))|apply zA|apply zI|((with_reducible apply Sd.mk);first|exact True.intro|omega)|((with_reducible apply Wr.mk);first|exact hcw)|((with_reducible apply Ex.mk);first|exact hrem))
 all_goals first|contradiction|(exfalso;omega)|skip
 rename_i q0 q2
 obtain⟨A2,ro2,g2,rfl,hp2⟩:=hh2 (by omega)
 obtain⟨g3,hp3,-⟩:=ht2.pick hp1
 clear hSh hE hK hh2 ht2 hv hp1
 have hsub:SubAt (recs fdC F) (0+((k:Nat):Int).toNat*4) [I P,I N,I kd,S ct]:=by
  have:=subAt_recZ (f:=fdC) (w:=4) (l:=F) (i:=k) (fun _=>rfl) (by omega)
  rw[hFk]at this
  exact this
 repeat'(first|apply zF|apply zB|apply zE|(apply o_g zC;exact rfl;exact rfl)|(apply o_ar zC;exact rfl;exact rfl)|(apply o_ex;exact rfl;exact rfl)|(apply zM zC;(iterate 3 exact rfl);(focus exact pk))|(apply yQ zC;(iterate 3 exact rfl);(focus exact pk))|(apply yE zC;(iterate 4 exact rfl);(focus exact⟨rfl⟩);(focus exact up))|(apply yG zC;iterate 5 exact rfl)|(apply o_toBytes zC;iterate 7 exact rfl)|(apply zD;exact rfl;exact rfl;(focus first|exact rfl);exact rfl;(focus exact⟨_,hCo _,by repeat with_reducible exact Take.nil⟩);rintro _ _ ⟨rfl,rfl⟩)|(apply zU;exact rfl;exact rfl)|(apply o_gF;(iterate 3 exact rfl);(focus first|omega))|(apply yD;exact rfl;(focus first|omega))|apply zA|apply zI|apply zH|((with_reducible apply Sd.mk);first|exact True.intro|omega|(unfold maxLen;omega))|((with_reducible apply Ln.mk);first|rfl|omega)|((with_reducible apply Wr.mk);first|exact hca|exact IntWalk.i64_in _ (by omega))|((with_reducible apply Ex.mk);first|exact hrem2)|((with_reducible apply Ce.mk);first|rfl)|((with_reducible apply Pu.mk);first|exact yA rfl)|((with_reducible apply Su.mk);first|exact hsub)|exact True.intro|intro A|exact rfl)
 all_goals first|contradiction|(exfalso;omega)|skip
 rename_i X
 obtain⟨T0,rfl⟩:∃m,m=A:=⟨_,rfl⟩
 have hi4:i0+4≤N:=by omega
 have hif:N≤i0+4+ct.length:=by omega
 refine zZ (S:=Nat × List UInt8) (fun x=>[(0,gsl A1 0 (2*L.length) L.length fl),(3,.int .u32 (c:Int)),(9,S s),(12,I k),(13,gptr X 0 4),(15,I ((P+i0:Nat):Int)),(16,gsl T0 0 s.length s.length 1),(110,I x.1)])
  (fun x=>(T0,⟨bytesV x.2,false⟩)::(X,⟨[I P,I N,I kd,S ct],false⟩)::q2)
  (fun x=>x.1≤4∧Dmg s (P+i0) (c:Int) x.1 x.2) (fun x=>4-x.1) (0,s) ⟨Nat.zero_le _,rfl,fun j hj=>by rw[if_neg (by omega)]⟩
  ⟨rfl,rfl,rfl,rfl,rfl,congrArg some (congrArg (Value.int .i64) (by omega)),rfl,rfl,trivial⟩ (by repeat with_reducible first|exact Take.nil|apply Take.c|apply Take.drop) ?_
 rintro⟨j,t⟩ ⟨hj,hd⟩
 dsimp only at hj hd ⊢
 have htl:=hd.1
 have hlt:(bytesV t).length=s.length:=by simp[htl]
 by_cases hj4:j<4
 ·have hstep:=hd.step (by omega)
  have hb0:=hd.2 (P+i0+j) (by omega)
  rw[if_neg (by omega)]at hb0
  have hb255:=bat_255 s ((P+i0+j:Nat):Int)
  have hik:(((P+i0:Nat):Int)+(j:Int))=((P+i0+j:Nat):Int):=by omega
  rw[←hik]at hb0 hb255 hstep
  have hxi:=xbt_in (bat s (((P+i0:Nat):Int)+(j:Int))) ((c:Int)/256^j%256)
  have hcell:(bytesV t)[0+(((P+i0:Nat):Int)+(j:Int)).toNat*1]?=some (Y (bat s (((P+i0:Nat):Int)+(j:Int)))):=by
   rw[←hb0];exact cell_bytes (by omega)
  have hset:SetAt (bytesV t) (0+(((P+i0:Nat):Int)+(j:Int)).toNat*1) (Y (xbt (bat s (((P+i0:Nat):Int)+(j:Int))) ((c:Int)/256^j%256))) (bytesV (t.set (P+i0+j) (b8 (xbt (bat s (((P+i0:Nat):Int)+(j:Int))) ((c:Int)/256^j%256))))):=by
   have:=setAt_bytes (l:=t) (i:=((P+i0:Nat):Int)+(j:Int)) (n:=xbt (bat s (((P+i0:Nat):Int)+(j:Int))) ((c:Int)/256^j%256)) (by omega) hxi
   rw[show(((P+i0:Nat):Int)+(j:Int)).toNat=P+i0+j by omega]at this ⊢
   exact this
  have hsh:=shr256 (c:Int) hj4
  repeat'(first|apply zF|apply zB|apply zE|(apply yH;(focus kernel_rfl);(focus kernel_rfl))|(apply o_g zC;exact rfl;exact rfl)|(apply o_ar zC;exact rfl;exact rfl)|(apply o_ex;exact rfl;exact rfl)|(apply zM zC;(iterate 3 exact rfl);(focus exact pk))|(apply zX zC;(iterate 4 exact rfl);(focus exact up))|(apply yC;exact rfl;(focus first|omega))|apply zA|apply zG|apply zI|apply zH|((with_reducible apply Sd.mk);first|exact True.intro|omega)|((with_reducible apply Ln.mk);first|omega)|((with_reducible apply Wr.mk);first|exact bw8 _|exact IntKind.wrap_u8 _|exact IntWalk.i64_in _ (by omega))|((with_reducible apply Ex.mk);first|exact hsh)|((with_reducible apply Ce.mk);first|exact hcell)|((with_reducible apply Se.mk);first|exact hset)|exact True.intro|exact Or.inl rfl|apply And.intro|exact rfl)
  all_goals first|contradiction|(exfalso;omega)|skip
  exact⟨(j+1,_),⟨hj4,hstep⟩,by show 4-(j+1)<4-j;omega,(by repeat'(first|exact trivial|refine⟨rfl,?_⟩|refine⟨congrArg some ?_,?_⟩)),(by repeat with_reducible first|exact Take.nil|apply Take.c|apply Take.drop)⟩
 obtain rfl:j=4:=by omega
 obtain⟨D1,D2,D3,D4,D5,-⟩:=hdm t i0 hd hi4 hif
 clear hdm hsub hp2 hrem hrem2 hcw hca hCo hFk hd hj hj4 hfb hfl
 have hlL:(L.drop (k+1)).length=L.length-(k+1):=List.length_drop
 have hU:=fun h=>Unwrap_any (t.drop P) h (by rw[List.length_drop];omega)
 rw[D1]at hU
 have hU:∀h,SRun Tryz.prog 10 [S (t.drop P)] h fun r q=>r=.tuple ⟨[frV 0 [],I 0,I 12]⟩∧q=h:=hU
 have hK2:=fun h=>Walk_any (t.drop (P+N)) h (by rw[List.length_drop];omega)
 rw[D2,show wkL (catF (L.drop (k+1))) (catF (L.drop (k+1))).length 0=fdsF 0 (L.drop (k+1))from wkL_cat (L.drop (k+1)) [] _ (okF_drop hok _) (Nat.le_refl _),←D2]at hK2
 have hF2:=fdsF_len (L.drop (k+1)) 0
 have hFb2:=fdC_len (fdsF 0 (L.drop (k+1)))
 have hFa:=fun i hi=>fdsF_at (L.drop (k+1)) 0 i hi
 generalize fdsF 0 (L.drop (k+1))=F2 at *
 have hs1:SubAt (bytesV t) (0+((P:Nat):Int).toNat*1) (bytesV (t.drop P)):=subAt_tl (by omega)
 have hs2:SubAt (bytesV t) (0+((P:Int)+(N:Int)).toNat*1) (bytesV (t.drop (P+N))):=by
  rw[show((P:Int)+(N:Int)).toNat=P+N by omega]
  exact subAt_tl (by omega)
 repeat'((fail_if_success (show SWp _ _ (Code.seq (Code.region 26 _ _) _) _ _ _));(fail_if_success (show SWp _ _ (Code.region 26 _ _) _ _ _));first|apply zF|apply zB|apply zE|(apply o_g zC;exact rfl;exact rfl)|(apply zM zC;(iterate 3 exact rfl);(focus exact pk))|(apply yE zC;(iterate 4 exact rfl);(focus exact⟨rfl⟩);(focus exact up))|(apply yG zC;iterate 5 exact rfl)|(apply o_toString zC;(iterate 6 exact rfl);(focus exact pk))|(apply zD;exact rfl;exact rfl;(focus first|exact rfl);exact rfl;(focus exact⟨_,hU _,by repeat with_reducible exact Take.nil⟩);rintro _ _ ⟨rfl,rfl⟩)|(apply zS;exact rfl)|apply zA|apply zK|apply zJ|apply zI|apply zV|((with_reducible apply Sd.mk);first|exact True.intro|omega)|((with_reducible apply Ln.mk);first|rfl|omega|(simp[hlt,hFb2];first|done|omega))|((with_reducible apply Ce.mk);first|rfl)|((with_reducible apply Pu.mk);first|exact yA rfl)|((with_reducible apply Su.mk);first|exact hs1)|exact True.intro|intro A|exact rfl)
 all_goals first|contradiction|(exfalso;omega)|skip
 apply zF
 refine w_meet (S:=Option Addr × Nat × SH) (fun x=>[(0,gsl A1 0 (2*L.length) L.length fl),(3,.int .u32 (c:Int)),(9,S s),(12,I k),(13,gptr X 0 4),(16,gsl T0 0 s.length s.length 1),(21,.slice x.1 F2.length x.2.1)]) (fun x=>x.2.2)
  (fun x=>(F2.length≠0→∃A ro h1,x.1=some ⟨A,0,some (4*F2.length)⟩∧Pick x.2.2 A ⟨recs fdC F2,ro⟩ h1)∧Take x.2.2 ((T0,⟨bytesV t,false⟩)::(X,⟨[I P,I N,I kd,S ct],false⟩)::q2)) ?_ ?_
 ·by_cases hend:P+N=s.length
  ·rw[show t.drop (P+N)=[] from List.drop_of_length_le (by omega)]at hK2
   repeat'(first|apply zB|(apply o_cutend zC;(iterate 4 exact rfl);(focus omega);exact rfl)|(apply o_g zC;exact rfl;exact rfl)|(apply o_ar zC;exact rfl;exact rfl)|(apply zM zC;(iterate 3 exact rfl);(focus exact pk))|((with_reducible apply Sd.mk);first|exact True.intro)|((with_reducible apply Ln.mk);first|rfl)|((with_reducible apply Wr.mk);first|exact IntWalk.i64_in _ (by omega))|((with_reducible apply Ce.mk);first|rfl)|exact True.intro|exact rfl)
   refine o_toString_dead zC rfl rfl rfl rfl rfl rfl rfl ?_
   repeat'(first|apply zE|(apply o_g zC;exact rfl;exact rfl)|(apply zD;exact rfl;exact rfl;(focus first|exact rfl);exact rfl;(focus exact⟨_,hK2 _,by repeat with_reducible exact Take.nil⟩);rintro _ _ ⟨⟨ad3,fl3,rfl,hh3⟩,ht3⟩)|apply zA|((with_reducible apply Sd.mk);first|exact True.intro))
   all_goals first|contradiction|(exfalso;omega)|skip
   exact⟨(ad3,fl3,_),⟨hh3,ht3.trans (.drop .nil)⟩,(by repeat'(first|exact trivial|refine⟨rfl,?_⟩|refine⟨congrArg some ?_,?_⟩)),Take.nil⟩
  ·have hlt2:P+N<s.length:=by omega
   repeat'(first|apply zB|apply zE|(apply o_g zC;exact rfl;exact rfl)|(apply o_ar zC;exact rfl;exact rfl)|(apply zM zC;(iterate 3 exact rfl);(focus exact pk))|(apply o_toString zC;(iterate 6 exact rfl);(focus exact pk))|(apply zD;exact rfl;exact rfl;(focus first|exact rfl);exact rfl;(focus exact⟨_,hK2 _,by repeat with_reducible exact Take.nil⟩);rintro _ _ ⟨⟨ad3,fl3,rfl,hh3⟩,ht3⟩)|apply zA|((with_reducible apply Sd.mk);first|exact True.intro|omega)|((with_reducible apply Ln.mk);first|rfl|omega|(simp[hlt,hFb2];first|done|omega))|((with_reducible apply Wr.mk);first|exact IntWalk.i64_in _ (by omega))|((with_reducible apply Ce.mk);first|rfl)|((with_reducible apply Su.mk);first|exact hs2)|exact True.intro|exact rfl)
   all_goals first|contradiction|(exfalso;omega)|skip
   exact⟨(ad3,fl3,_),⟨hh3,ht3.trans (.drop .nil)⟩,(by repeat'(first|exact trivial|refine⟨rfl,?_⟩|refine⟨congrArg some ?_,?_⟩)),Take.nil⟩
 clear hs1 hs2 hU hK2
 rintro⟨ad3,fl3,q3⟩ ⟨hh3,ht3⟩
 dsimp only at hh3 ht3 ⊢
 obtain⟨u1,pT,-⟩:=ht3.pick (.head:Pick ((T0,⟨bytesV t,false⟩)::(X,⟨[I P,I N,I kd,S ct],false⟩)::q2) T0 ⟨bytesV t,false⟩ _)
 obtain⟨u2,pX,-⟩:=ht3.pick (.tail .head:Pick ((T0,⟨bytesV t,false⟩)::(X,⟨[I P,I N,I kd,S ct],false⟩)::q2) X ⟨[I P,I N,I kd,S ct],false⟩ _)
 obtain⟨u3,pL,-⟩:=ht3.pick (.tail (.tail hp3):Pick ((T0,⟨bytesV t,false⟩)::(X,⟨[I P,I N,I kd,S ct],false⟩)::q2) A1 ⟨recs frC L,ro1⟩ _)
 clear ht3 hp3
 repeat'(first|apply zF|apply zB|apply zE|(apply o_g zC;exact rfl;exact rfl)|(apply o_ar zC;exact rfl;exact rfl)|(apply yD;exact rfl;(focus first|omega))|apply zA|apply zI|apply zH|((with_reducible apply Sd.mk);first|exact True.intro)|((with_reducible apply Wr.mk);first|exact IntWalk.i64_in _ (by omega)))
 all_goals first|contradiction|(exfalso;omega)|skip
 refine zZ (S:=Nat) (fun j=>[(0,gsl A1 0 (2*L.length) L.length fl),(3,.int .u32 (c:Int)),(9,S s),(12,I k),(13,gptr X 0 4),(16,gsl T0 0 s.length s.length 1),(156,.slice ad3 F2.length fl3),(157,I F2.length),(158,I j)])
  (fun _=>q3) (fun j=>j≤F2.length) (fun j=>F2.length-j) 0 (Nat.zero_le _) (by repeat'(first|exact trivial|refine⟨rfl,?_⟩|refine⟨congrArg some ?_,?_⟩)) (by repeat with_reducible first|exact Take.nil|apply Take.c|apply Take.drop) ?_
 intro j hj
 by_cases hjF:j<F2.length
 ·obtain⟨A3,ro3,g4,rfl,hp4⟩:=hh3 (by omega)
  have hfj:=hFa j (by omega)
  have hLj:(L.drop (k+1))[j]! = L[k+1+j]!:=by
   rw[getElem!_pos _ j (by omega),getElem!_pos L (k+1+j) (by omega),List.getElem_drop]
  rw[hLj]at hfj
  have hsL:SubAt (recs frC L) (0+((k:Int)+1+(j:Int)).toNat*2) (frC L[k+1+j]!):=by
   rw[show((k:Int)+1+(j:Int)).toNat=k+1+j by omega]
   exact subAt_rec (fun _=>rfl) (by omega)
  have hcf:cellsEqB [I F2[j]!.2.2.1,S F2[j]!.2.2.2] (frC L[k+1+j]!)=true:=by rw[hfj];exact frEq.2 rfl
  have hsF:SubAt (fdC F2[j]!) (0+2) [I F2[j]!.2.2.1,S F2[j]!.2.2.2]:=fun i v hv=>match i,hv with
   |0,h=>h
   |1,h=>h
  repeat'(first|apply zF|apply zB|apply zE|(apply yH;(focus kernel_rfl);(focus kernel_rfl))|(apply o_g zC;exact rfl;exact rfl)|(apply o_ar zC;exact rfl;exact rfl)|(apply yQ zC;(iterate 3 exact rfl);(focus exact pk))|(apply yE zC;(iterate 4 exact rfl);(focus exact⟨rfl⟩);(focus exact up))|(apply yG zC;iterate 5 exact rfl)|(apply o_neqs;(iterate 3 exact rfl);(focus kernel_rfl);exact rfl;exact rfl;(focus kernel_rfl);exact rfl)|(apply yC;exact rfl;(focus first|omega))|(apply yD;exact rfl;(focus first|exact fun g=>g hcf))|apply zA|apply zG|apply zI|apply zH|((with_reducible apply Sd.mk);first|exact True.intro|omega)|((with_reducible apply Ln.mk);first|rfl|omega)|((with_reducible apply Wr.mk);first|exact IntWalk.i64_in _ (by omega))|((with_reducible apply Pu.mk);first|exact yA rfl)|((with_reducible apply Su.mk);first|exact hsF|exact hsL|exact subAt_recZ (fun _=>rfl) (by omega))|exact True.intro|intro A|exact rfl)
  all_goals first
   |contradiction
   |(exfalso;omega)
   |(exfalso;exact hc hcf)
   |exact⟨j+1,hjF,by omega,(by repeat'(first|exact trivial|refine⟨rfl,?_⟩|refine⟨congrArg some ?_,?_⟩)),(by repeat with_reducible first|exact Take.nil|apply Take.c|apply Take.drop)⟩
 obtain rfl:j=F2.length:=by omega
 clear hFa hh3 hj hjF hFb2
 have hlk:(L.take k).length=k:=by rw[List.length_take];omega
 have hD:=fun h=>DecodeF_any (t.take P) h (by rw[List.length_take];omega)
 rw[show decF (t.take P).length (t.take P) []=some (L.take k)by rw[D3];exact decF_cat (L.take k) _ [] (okF_take hok k) (Nat.le_refl _)]at hD
 have hD:∀h,SRun Tryz.prog 11 [S (t.take P)] h fun r q=>∃v,r=.tuple #[v,I 0]∧Has q (recs frC (L.take k)) 2 k v∧Take q h:=fun h=>by
  have:=hD h
  dsimp only at this
  rwa [hlk]at this
 have hFr:∀fl2 v q g,Has q (recs frC (L.take k)) 2 k v→(∃h',Pick q A1 ⟨recs frC L,ro1⟩ h'∧Take h' g)→SRun Tryz.prog 12 [v,gsl A1 0 (2*L.length) k fl2] q fun r q'=>r=B true∧q'=q :=
  fun fl2 v q g hv ⟨h',hp,_⟩=>rFramesP_any L k A1 fl2 ro1 v q h' (by omega) (by omega) hv hp
 have hs3:SubAt (bytesV t) 0 (bytesV (t.take P)):=subAt_hd (by omega)
 repeat'((fail_if_success (show SWp _ _ (Code.seq (Code.region 38 _ _) _) _ _ _));(fail_if_success (show SWp _ _ (Code.region 38 _ _) _ _ _));first|apply zF|apply zB|apply zE|(apply o_g zC;exact rfl;exact rfl)|(apply yR;exact rfl;exact rfl)|(apply zM zC;(iterate 3 exact rfl);(focus exact pk))|(apply o_toString zC;(iterate 6 exact rfl);(focus exact pk))|(apply zD;exact rfl;exact rfl;(focus first|exact rfl);exact rfl;(focus exact⟨_,hD _,by repeat with_reducible exact Take.nil⟩);rintro _ _ ⟨w,rfl,hw,ht4⟩)|(apply zD;exact rfl;exact rfl;(focus first|exact rfl);exact rfl;(focus exact⟨_,hFr _ _ _ _ hw (ht4.pick pL),by repeat with_reducible exact Take.nil⟩);rintro _ _ ⟨rfl,rfl⟩)|(apply zU;exact rfl;exact rfl)|(apply zS;exact rfl)|(apply yD;exact rfl;(focus first|omega))|apply zA|apply zK|apply zJ|apply zI|apply zV|((with_reducible apply Sd.mk);first|exact True.intro|omega)|((with_reducible apply Ln.mk);first|rfl|omega|(simp[hlt];first|done|omega))|((with_reducible apply Ce.mk);first|rfl)|((with_reducible apply Su.mk);first|exact hs3)|exact True.intro|exact rfl)
 all_goals first|contradiction|(exfalso;omega)|skip
 rename_i q4
 obtain⟨v1,pT4,-⟩:=ht4.pick pT
 obtain⟨v2,pX4,-⟩:=ht4.pick pX
 clear pT pX pL ht4 hw hD hFr hs3
 have hand:BitVec.ofInt 32 (c:Int)&&&BitVec.ofInt 32 ((c:Int)-1)=BitVec.ofNat 32 (c&&&(c-1)):=by
  rw[show(c:Int)-1=((c-1:Nat):Int)by omega,BitVec.ofInt_natCast,BitVec.ofInt_natCast]
  apply BitVec.eq_of_toNat_eq
  rw[BitVec.toNat_and,BitVec.toNat_ofNat,BitVec.toNat_ofNat,BitVec.toNat_ofNat,Nat.mod_eq_of_lt (show c<2^32 by omega),Nat.mod_eq_of_lt (show c-1<2^32 by omega),Nat.mod_eq_of_lt]
  exact Nat.lt_of_le_of_lt Nat.and_le_left hc
 have hlz:c&&&(c-1)<4294967296:=Nat.lt_of_le_of_lt Nat.and_le_left hc
 have hwz:IntKind.u32.wrap (((BitVec.ofInt 32 (c:Int)&&&BitVec.ofInt 32 ((c:Int)-1)).toNat:Nat):Int)=((c&&&(c-1):Nat):Int):=by
  rw[bw,hand,BitVec.toNat_ofNat,Nat.mod_eq_of_lt hlz]
 by_cases hz:c&&&(c-1)=0
 case neg =>
  generalize c&&&(c-1)=z at *
  repeat'(first|apply zF|apply zB|apply zE|(apply o_g zC;exact rfl;exact rfl)|(apply o_ar zC;exact rfl;exact rfl)|(apply yC;exact rfl;(focus first|omega))|apply zA|apply zP|apply zN|((with_reducible apply Sd.mk);first|exact True.intro)|((with_reducible apply Wr.mk);first|exact IntWalk.u32_in _ (by omega)|exact hwz))
  all_goals first
   |contradiction
   |(exfalso;omega)
   |(apply zL;(exact(show ResS _ _ _ _ [_] from⟨rfl,trivial⟩));(focus rfl);(focus repeat with_reducible first|exact Take.nil|apply Take.c|apply Take.drop))
 obtain⟨p,hp⟩:=(Nat.and_sub_one_eq_zero_iff_isPowerOfTwo h0).1 hz
 have hp32:p<32:=by
  rw[hp]at hc
  exact(Nat.pow_lt_pow_iff_right (by decide)).1 (show 2^p<2^32 from hc)
 rw[hz]at hwz
 have hTl:((t.drop P).take N).length=N:=by rw[List.length_take,List.length_drop];omega
 have D4':Dmg W i0 ((2^p:Nat):Int) 4 ((t.drop P).take N):=by rw[←hp];exact D4
 have hwr:=wrong_pow (k:=N-4) (by omega) hWs D4' (by omega) hp32
 have hLo:=fun h=>Locate_any ((t.drop P).take N) (N-4) (8*(N-4-i0)+31-p) (i0+p/8) (p%8) h (by omega) (by omega) hwr (by omega) (by omega) (by omega)
 have hFl:=fun h=>Flip_any ((t.drop P).take N) (i0+p/8) (p%8) h (by omega) (by omega) (by omega)
 rw[flip_back D4' (by omega) hp32]at hFl
 generalize (8*((i0+p/8:Nat):Int)+7-((p%8:Nat):Int))=bt at *
 have hs4:SubAt (bytesV t) (0+((P:Nat):Int).toNat*1) (bytesV ((t.drop P).take N)):=subAt_seg (by omega)
 generalize (t.drop P).take N=Tk at *
 clear hwr D4 D4' hWs
 repeat'(first|apply zF|apply zB|apply zE|(apply o_g zC;exact rfl;exact rfl)|(apply o_ar zC;exact rfl;exact rfl)|(apply zM zC;(iterate 3 exact rfl);(focus exact pk))|(apply o_toString zC;(iterate 6 exact rfl);(focus exact pk))|(apply zD;exact rfl;exact rfl;(focus first|exact rfl);exact rfl;(focus exact⟨_,hLo _,by repeat with_reducible exact Take.nil⟩);rintro _ _ ⟨rfl,rfl⟩)|(apply zD;exact rfl;exact rfl;(focus first|exact rfl);exact rfl;(focus exact⟨_,hFl _,by repeat with_reducible exact Take.nil⟩);rintro _ _ ⟨rfl,rfl⟩)|(apply zU;exact rfl;exact rfl)|(apply zS;exact rfl)|apply zA|apply zI|apply zN|((with_reducible apply Sd.mk);first|exact True.intro|omega)|((with_reducible apply Ln.mk);first|rfl|omega)|((with_reducible apply Wr.mk);first|exact IntWalk.u32_in _ (by omega)|exact hwz|exact IntWalk.i64_in _ (by omega))|((with_reducible apply Ce.mk);first|rfl)|((with_reducible apply Su.mk);first|exact hs4)|exact True.intro|exact rfl)
 all_goals first|contradiction|(exfalso;omega)|skip
 have heq:W=List.drop ((P:Nat):Int).toNat (List.take ((P:Int)+(N:Int)).toNat s):=by
  rw[show((P:Int)+(N:Int)).toNat=P+N by omega,Int.toNat_natCast,List.drop_take,show P+N-P=N by omega]
  exact D5.symm
 (apply zL;(exact(show ResS _ _ _ _ [_] from⟨rfl,trivial⟩));(focus exact congrArg Value.bool (decide_eq_true heq));(focus repeat with_reducible first|exact Take.nil|apply Take.c|apply Take.drop))
set_option maxHeartbeats 8000000 in
theorem Dam_skip (L:List Fr1)(A1 fl:Nat)(ro1:Bool)(wh a:Int)(c k:Nat)(h g1:SH)(hp1:Pick h A1 ⟨recs frC L,ro1⟩ g1)(hv:Has h (recs frC L) 2 L.length (gsl A1 0 (2*L.length) L.length fl))(hok:okF L)(hl4:L.length≤4)(hc100:∀x∈L,(x.2.length:Int)≤100)
  (hwh:0≤wh∧wh<256) (h0:c≠0) (hk:k<L.length) (hkw:(k:Int)=wh%L.length) (hsk:(lzE L[k]!.2).1.length<L[k]!.2.length∨L[k]!.2.length<1∨(wrp L[k]!.1 L[k]!.2).1.length<8) :
  SRun Tryz.prog 3 [gsl A1 0 (2*L.length) L.length fl,.int .u8 wh,.int .u16 a,.int .u32 (c:Int)] h fun r _=>r=B true:=by
 have hlb:=frC_len L
 have hSh:=fun h hv=>rShort_any L (gsl A1 0 (2*L.length) L.length fl) 4 100 h hv (by omega) (fun x hx=>by have:=hc100 x hx;omega)
 rw[decide_eq_true (show(L.length:Int)≤4∧∀x∈L,(x.2.length:Int)≤100 from⟨by omega,hc100⟩)]at hSh
 have hE:=fun h hv=>EncodeF_any L (gsl A1 0 (2*L.length) L.length fl) h hv (by omega) (fun x hx=>by have:=hc100 x hx;omega)
 rw[encF_cat [] hok,List.nil_append]at hE
 dsimp only at hE
 obtain⟨c7,c4⟩:=catF_len hok
 have hK:=fun h=>Walk_any (catF L) h (by omega)
 rw[show wkL (catF L) (catF L).length 0=fdsF 0 L from wkL_cat L [] _ hok (Nat.le_refl _)]at hK
 have hfl:=fdsF_len L 0
 have hfb:=fdC_len (fdsF 0 L)
 have hFk:=fdsF_at L 0 k hk
 rw[Nat.zero_add]at hFk
 rw[hfl]at hK hfb
 generalize fdsF 0 L=F at *
 have hwok:=hok _ (bang_mem hk)
 have hct:=hc100 _ (bang_mem hk)
 have hCo:=fun h=>Compressed_any ((catF L).drop (posF L k)) h (by rw[List.length_drop];omega)
 have hcm:cmpr ((catF L).drop (posF L k))=decide ((lzE L[k]!.2).1.length<L[k]!.2.length):=by
  unfold cmpr
  rw[catF_drop hk,prs_wrp hwok]
 rw[hcm]at hCo
 have hrem:wh.tmod (L.length:Int)=(k:Int):=by rw[Int.tmod_eq_emod_of_nonneg (by omega)];exact hkw.symm
 have hPS:posF L k≤(catF L).length:=by
  have e:catF L=catF (L.take k)++catF (L.drop k):=by rw[←catF_app,List.take_append_drop]
  rw[e,List.length_append]
  exact Nat.le_add_right _ _
 have hsub:SubAt (recs fdC F) (0+((k:Nat):Int).toNat*4) [I (posF L k),I (wrp L[k]!.1 L[k]!.2).1.length,I L[k]!.1,S L[k]!.2]:=by
  have:=subAt_recZ (f:=fdC) (w:=4) (l:=F) (i:=k) (fun _=>rfl) (by omega)
  rw[hFk]at this
  exact this
 generalize (wrp L[k]!.1 L[k]!.2).1.length=N at *
 generalize posF L k=P at *
 generalize catF L=s at *
 have hcw:IntKind.i64.wrap wh=wh:=IntWalk.i64_in _ (by omega)
 clear hkw hwh hwok hcm
 by_cases hcp:(lzE L[k]!.2).1.length<L[k]!.2.length
 ·rw[decide_eq_true hcp]at hCo
  generalize L[k]! = x at *
  refine w_body4 Tryz.func3 rfl rfl ?_
  repeat'((fail_if_success (show SWp _ _ (Code.seq (Code.region 12 _ _) _) _ _ _));(fail_if_success (show SWp _ _ (Code.region 12 _ _) _ _ _));first|apply zF|apply zB|apply zE|(apply o_g zC;exact rfl;exact rfl)|(apply o_ar zC;exact rfl;exact rfl)|(apply o_ex;exact rfl;exact rfl)|(apply yR;exact rfl;exact rfl)|(apply zD;exact rfl;exact rfl;(focus first|exact rfl);exact rfl;(focus exact⟨_,awakeCodec_any _,by repeat with_reducible exact Take.nil⟩);rintro _ _ ⟨rfl,rfl⟩)|(apply zD;exact rfl;exact rfl;(focus first|exact rfl);exact rfl;(focus exact⟨_,hSh _ hv,by repeat with_reducible exact Take.nil⟩);rintro _ _ ⟨rfl,rfl⟩)|(apply zD;exact rfl;exact rfl;(focus first|exact rfl);exact rfl;(focus exact⟨_,hE _ hv,by repeat with_reducible exact Take.nil⟩);rintro _ _ ⟨rfl,rfl⟩)|(apply zD;exact rfl;exact rfl;(focus first|exact rfl);exact rfl;(focus exact⟨_,hK _,by repeat with_reducible exact Take.nil⟩);rintro _ _ ⟨⟨ad2,fl2,rfl,hh2⟩,ht2⟩)|(apply zU;exact rfl;exact rfl)|(apply o_gF;(iterate 3 exact rfl);(focus first|omega))|(apply zS;exact rfl)|(apply yD;exact rfl;(focus first|omega))|apply zA|apply zI|((with_reducible apply Sd.mk);first|exact True.intro|omega)|((with_reducible apply Wr.mk);first|exact hcw)|((with_reducible apply Ex.mk);first|exact hrem))
  all_goals first|contradiction|(exfalso;omega)|skip
  obtain⟨A2,ro2,g2,rfl,hp2⟩:=hh2 (by omega)
  repeat'(first|apply zF|apply zB|apply zE|(apply o_g zC;exact rfl;exact rfl)|(apply zM zC;(iterate 3 exact rfl);(focus exact pk))|(apply yQ zC;(iterate 3 exact rfl);(focus exact pk))|(apply yE zC;(iterate 4 exact rfl);(focus exact⟨rfl⟩);(focus exact up))|(apply yG zC;iterate 5 exact rfl)|(apply zD;exact rfl;exact rfl;(focus first|exact rfl);exact rfl;(focus exact⟨_,hCo _,by repeat with_reducible exact Take.nil⟩);rintro _ _ ⟨rfl,rfl⟩)|(apply yF;iterate 4 exact rfl)|(apply yB;exact rfl)|apply zA|apply zP|apply zN|((with_reducible apply Sd.mk);first|exact True.intro|omega)|((with_reducible apply Ln.mk);first|rfl|omega)|((with_reducible apply Ce.mk);first|rfl)|((with_reducible apply Pu.mk);first|exact yA rfl)|((with_reducible apply Su.mk);first|exact hsub)|exact True.intro|intro A|exact rfl)
  all_goals first
   |contradiction
   |(exfalso;omega)
   |(apply zL;(exact(show ResS _ _ _ _ [_] from⟨rfl,trivial⟩));(focus rfl);(focus repeat with_reducible first|exact Take.nil|apply Take.c|apply Take.drop))
 ·rw[decide_eq_false hcp]at hCo
  generalize L[k]! = x at *
  refine w_body4 Tryz.func3 rfl rfl ?_
  repeat'((fail_if_success (show SWp _ _ (Code.seq (Code.region 12 _ _) _) _ _ _));(fail_if_success (show SWp _ _ (Code.region 12 _ _) _ _ _));first|apply zF|apply zB|apply zE|(apply o_g zC;exact rfl;exact rfl)|(apply o_ar zC;exact rfl;exact rfl)|(apply o_ex;exact rfl;exact rfl)|(apply yR;exact rfl;exact rfl)|(apply zD;exact rfl;exact rfl;(focus first|exact rfl);exact rfl;(focus exact⟨_,awakeCodec_any _,by repeat with_reducible exact Take.nil⟩);rintro _ _ ⟨rfl,rfl⟩)|(apply zD;exact rfl;exact rfl;(focus first|exact rfl);exact rfl;(focus exact⟨_,hSh _ hv,by repeat with_reducible exact Take.nil⟩);rintro _ _ ⟨rfl,rfl⟩)|(apply zD;exact rfl;exact rfl;(focus first|exact rfl);exact rfl;(focus exact⟨_,hE _ hv,by repeat with_reducible exact Take.nil⟩);rintro _ _ ⟨rfl,rfl⟩)|(apply zD;exact rfl;exact rfl;(focus first|exact rfl);exact rfl;(focus exact⟨_,hK _,by repeat with_reducible exact Take.nil⟩);rintro _ _ ⟨⟨ad2,fl2,rfl,hh2⟩,ht2⟩)|(apply zU;exact rfl;exact rfl)|(apply o_gF;(iterate 3 exact rfl);(focus first|omega))|(apply zS;exact rfl)|(apply yD;exact rfl;(focus first|omega))|apply zA|apply zI|((with_reducible apply Sd.mk);first|exact True.intro|omega)|((with_reducible apply Wr.mk);first|exact hcw)|((with_reducible apply Ex.mk);first|exact hrem))
  all_goals first|contradiction|(exfalso;omega)|skip
  obtain⟨A2,ro2,g2,rfl,hp2⟩:=hh2 (by omega)
  repeat'(first|apply zF|apply zB|apply zE|(apply o_g zC;exact rfl;exact rfl)|(apply zM zC;(iterate 3 exact rfl);(focus exact pk))|(apply yQ zC;(iterate 3 exact rfl);(focus exact pk))|(apply yE zC;(iterate 4 exact rfl);(focus exact⟨rfl⟩);(focus exact up))|(apply yG zC;iterate 5 exact rfl)|(apply zD;exact rfl;exact rfl;(focus first|exact rfl);exact rfl;(focus exact⟨_,hCo _,by repeat with_reducible exact Take.nil⟩);rintro _ _ ⟨rfl,rfl⟩)|(apply zU;exact rfl;exact rfl)|(apply yF;iterate 4 exact rfl)|(apply o_guardF;(iterate 3 exact rfl);all_goals intro hc)|(apply yB;exact rfl)|(apply yC;exact rfl;(focus first|omega))|apply zA|apply zP|apply zN|((with_reducible apply Sd.mk);first|exact True.intro|omega)|((with_reducible apply Ln.mk);first|rfl|omega)|((with_reducible apply Ce.mk);first|rfl)|((with_reducible apply Pu.mk);first|exact yA rfl)|((with_reducible apply Su.mk);first|exact hsub)|exact True.intro|intro A|exact rfl)
  all_goals first
   |contradiction
   |(exfalso;omega)
   |(apply zL;(exact(show ResS _ _ _ _ [_] from⟨rfl,trivial⟩));(focus rfl);(focus repeat with_reducible first|exact Take.nil|apply Take.c|apply Take.drop))
theorem Dam_law (L:List Fr1)(v:Value)(wh a c:Int)(h:SH)(hv:Has h (recs frC L) 2 L.length v)(hof:∀x∈L,(Lit.int .i64 x.1).wf=true∧x.2.length≤9223372036854775807)(hm:L.length≤maxLen)(hwh:0≤wh∧wh<256)(ha:0≤a∧a<65536)(hc:0≤c∧c<4294967296) :
  SRun Tryz.prog 3 [v,.int .u8 wh,.int .u16 a,.int .u32 c] h fun r _=>r=B true:=by
 have hv0:=hv
 have hlb:=frC_len L
 obtain⟨ad,fl,rfl,hh⟩:=hv
 have hSh:=fun h hv=>rShort_any L (.slice ad L.length fl) 4 100 h hv hm (fun x hx=>(hof x hx).2)
 by_cases hbig:(L.length:Int)≤4∧∀x∈L,(x.2.length:Int)≤100
 case neg =>
  rw[decide_eq_false hbig]at hSh
  refine w_body4 Tryz.func3 rfl rfl ?_
  repeat'(first|apply zF|apply zB|apply zE|(apply o_g zC;exact rfl;exact rfl)|(apply yR;exact rfl;exact rfl)|(apply zD;exact rfl;exact rfl;(focus first|exact rfl);exact rfl;(focus exact⟨_,awakeCodec_any _,by repeat with_reducible exact Take.nil⟩);rintro _ _ ⟨rfl,rfl⟩)|(apply zD;exact rfl;exact rfl;(focus first|exact rfl);exact rfl;(focus exact⟨_,hSh _ hv0,by repeat with_reducible exact Take.nil⟩);rintro _ _ ⟨rfl,rfl⟩)|(apply yF;iterate 4 exact rfl)|(apply yB;exact rfl)|(apply zS;exact rfl)|apply zA|apply zP|apply zI|apply zN|((with_reducible apply Sd.mk);first|exact True.intro))
  all_goals first
   |contradiction
   |(exfalso;omega)
   |(apply zL;(exact(show ResS _ _ _ _ [_] from⟨rfl,trivial⟩));(focus rfl);(focus repeat with_reducible first|exact Take.nil|apply Take.c|apply Take.drop))
 rw[decide_eq_true hbig]at hSh
 obtain⟨hl4,hc100⟩:=hbig
 by_cases hz:L.length=0∨c=0
 ·refine w_body4 Tryz.func3 rfl rfl ?_
  repeat'(first|apply zF|apply zB|apply zE|(apply o_g zC;exact rfl;exact rfl)|(apply yR;exact rfl;exact rfl)|(apply zD;exact rfl;exact rfl;(focus first|exact rfl);exact rfl;(focus exact⟨_,awakeCodec_any _,by repeat with_reducible exact Take.nil⟩);rintro _ _ ⟨rfl,rfl⟩)|(apply zD;exact rfl;exact rfl;(focus first|exact rfl);exact rfl;(focus exact⟨_,hSh _ hv0,by repeat with_reducible exact Take.nil⟩);rintro _ _ ⟨rfl,rfl⟩)|(apply zU;exact rfl;exact rfl)|(apply yF;iterate 4 exact rfl)|(apply o_guardF;(iterate 3 exact rfl);all_goals intro hc)|(apply yB;exact rfl)|(apply zS;exact rfl)|(apply yC;exact rfl;(focus first|omega))|apply zA|apply zP|apply zI|apply zN|((with_reducible apply Sd.mk);first|exact True.intro))
  all_goals first
   |contradiction
   |(exfalso;omega)
   |(apply zL;(exact(show ResS _ _ _ _ [_] from⟨rfl,trivial⟩));(focus rfl);(focus repeat with_reducible first|exact Take.nil|apply Take.c|apply Take.drop))
 by_cases hbad:∃x∈L,x.1<0∨15<x.1
 ·have hE:=fun h hv=>EncodeF_any L (.slice ad L.length fl) h hv (by omega) (fun x hx=>(hof x hx).2)
  rw[encF_bad [] (fun x hx=>by have:=hc100 x hx;omega) hbad]at hE
  refine w_body4 Tryz.func3 rfl rfl ?_
  repeat'(first|apply zF|apply zB|apply zE|(apply o_g zC;exact rfl;exact rfl)|(apply yR;exact rfl;exact rfl)|(apply zD;exact rfl;exact rfl;(focus first|exact rfl);exact rfl;(focus exact⟨_,awakeCodec_any _,by repeat with_reducible exact Take.nil⟩);rintro _ _ ⟨rfl,rfl⟩)|(apply zD;exact rfl;exact rfl;(focus first|exact rfl);exact rfl;(focus exact⟨_,hSh _ hv0,by repeat with_reducible exact Take.nil⟩);rintro _ _ ⟨rfl,rfl⟩)|(apply zD;exact rfl;exact rfl;(focus first|exact rfl);exact rfl;(focus exact⟨_,hE _ hv0,by repeat with_reducible exact Take.nil⟩);rintro _ _ ⟨rfl,rfl⟩)|(apply zU;exact rfl;exact rfl)|(apply o_gF;(iterate 3 exact rfl);(focus first|omega))|(apply yB;exact rfl)|(apply zS;exact rfl)|(apply yD;exact rfl;(focus first|omega))|apply zA|apply zP|apply zI|apply zN|((with_reducible apply Sd.mk);first|exact True.intro))
  all_goals first
   |contradiction
   |(exfalso;omega)
   |(apply zL;(exact(show ResS _ _ _ _ [_] from⟨rfl,trivial⟩));(focus rfl);(focus repeat with_reducible first|exact Take.nil|apply Take.c|apply Take.drop))
 have hok:okF L:=fun x hx=>by
  have h1:¬(x.1<0∨15<x.1):=fun g=>hbad ⟨x,hx,g⟩
  have h2:=hc100 x hx
  unfold wrp
  rw[if_neg (by omega),if_neg (by omega)]
 obtain⟨A1,ro1,g1,rfl,hp1⟩:=hh (by omega)
 obtain⟨n,rfl⟩:=Int.eq_ofNat_of_zero_le hc.1
 have hm1:=Int.emod_nonneg wh (show(L.length:Int)≠0 by omega)
 have hm2:=Int.emod_lt_of_pos wh (show 0<(L.length:Int)by omega)
 obtain⟨k,hk⟩:∃k:Nat,(k:Int)=wh%L.length:=⟨(wh%L.length).toNat,by omega⟩
 by_cases hsk:(lzE L[k]!.2).1.length<L[k]!.2.length∨L[k]!.2.length<1∨(wrp L[k]!.1 L[k]!.2).1.length<8
 ·exact Dam_skip L A1 fl ro1 wh a n k h g1 hp1 hv0 hok (by omega) hc100 hwh (by omega) (by omega) hk hsk
 ·exact Dam_main L A1 fl ro1 wh a n k h g1 hp1 hv0 hok (by omega) hc100 hwh ha (by omega) (by omega) (by omega) hk (by omega) (by omega) (by omega)
end Go.Proofs.YteddogfolceahaaGreat
end
