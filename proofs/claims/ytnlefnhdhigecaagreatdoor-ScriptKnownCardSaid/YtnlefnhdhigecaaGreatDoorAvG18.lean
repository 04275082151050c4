/- Texts put together: AvMulB, AvWReq, AvMulC, AvWEqS, AvRepB. -/
import Derived.Test.YtnlefnhdhigecaaGreatDoorAvG17
import Derived.Test.YtnlefnhdhigecaaGreatDoorAvG12
import Derived.Test.YtnlefnhdhigecaaGreatDoorAvG11
import Derived.Test.YtnlefnhdhigecaaGreatDoorAvG14
import Derived.Test.YtnlefnhdhigecaaGreatDoorAvG2
import Derived.Test.YtnlefnhdhigecaaGreatDoorShelfE
import Derived.Shelf.Slices.Equal
import Derived.Shelf.Slices.Empties2
import Derived.Shelf.AbstractIn
namespace Go.Proofs.YtnlefnhdhigecaaGreatDoor
set_option maxRecDepth 100000
open Go.RowKit Av
abbrev rpZ:Array Value:=#[.int .i64 0, .int .i64 0, .int .i64 0, .int .i64 0, .slice none 0 0]
def MulPost (w0 w:World) (b m:Nat) (room:Int) (K:Nat) (t:Tr) (X:RL×RpV×Bool) (e:Ending) (w':World):Prop:=
 (∀ x∈X.2.1.res,RpB 100000 x)∧∃ u m' t',e=.returned (.tuple #[.agg (rplA X.2.1 u), .bool X.2.2])∧RpAt w' w.heap.size u X.2.1∧TrA w0 w' b m' room (K+16) t' X.1∧Kp (fun i=>i=b) w w'∧(m'=m∨w.heap.size≤m')∧∀ i,TOwn b m' t' i→TOwn b m t i∨w.heap.size≤i
def MuRel (w:World) (b' m' rb:Nat) (room:Int) (K:Nat) (L:RL) (sess z:Int) (ops:List OpV) (s31:Value) (wr:World):Prop:=
 ∃ (k:Nat) (c:Tr) (v:Value) (xs:List RsE),k≤ops.length∧s31=.int .i64 k∧(runL room sess z L (ops.take k)).2.2=0∧TrA w wr b' m' room (K+k) c (runL room sess z L (ops.take k)).1∧
   RsAt wr (rb+1) v xs∧xs.map (·.r)=(runL room sess z L (ops.take k)).2.1∧(∀ x∈xs,RpB 100000 x.r)∧Blk wr rb #[.int .i64 0, .int .i64 z, .int .i64 0, .int .i64 (-1),v] rplT∧Blk wr w.heap.size rpZ rplT
theorem failB (num e at_ n:Int):∀ x∈(failRp num e at_ n).res,RpB 100000 x:=by
 intro x hx
 unfold failRp at hx
 simp only at hx
 split at hx
 ·cases hx
 ·unfold failRs at hx
  obtain ⟨i,_,rfl⟩:=List.mem_map.1 hx
  exact RpB.fail _ _
def OpsS (ops:List OpV):Prop:=∀ o∈ops,o.path.size≤1000000∧o.data.size≤1000000
theorem multi_stop {room sess z:Int} {L:RL} {ops:List OpV} {k:Nat} (hk:k<ops.length) (h16:ops.length≤16) (h0:(runL room sess z L (ops.take k)).2.2=0) {P:RL×Rp} (hP:doL room (runL room sess z L (ops.take k)).1 ops[k] sess z=P) (he:P.2.err≠0) :
  multiL room L sess z ops=(L,failRp 0 P.2.err k ops.length,false):=by
 have h1:=runL_stop room sess z hk h0 (by rw [hP];exact he)
 rw [hP] at h1
 unfold multiL
 rw [if_neg (by omega),if_neg (by omega),if_pos (by rw [h1.1];exact he),h1.1,h1.2]
theorem multi_go {room sess z:Int} {L:RL} {ops:List OpV} {k:Nat} (hk:k<ops.length) (h0:(runL room sess z L (ops.take k)).2.2=0) {P:RL×Rp} (hP:doL room (runL room sess z L (ops.take k)).1 ops[k] sess z=P) (he:P.2.err=0) :
  runL room sess z L (ops.take (k+1))=(P.1,(runL room sess z L (ops.take k)).2.1++[P.2],0):=by
 rw [List.take_succ_eq_append_getElem hk,runL_snoc room sess z L _ _ h0,hP,if_neg (by rw [he];simp)]
theorem multi_end {room sess z:Int} {L:RL} {ops:List OpV} (h16:ops.length≤16) (h1:ops.length≠0) (h0:(runL room sess z L ops).2.2=0) :
  multiL room L sess z ops=((runL room sess z L ops).1,⟨0,z,0, -1,(runL room sess z L ops).2.1⟩,true):=by
 unfold multiL
 rw [if_neg (by omega),if_neg h1,if_neg (by rw [h0];simp)]
theorem TrA.take {w0 w wr:World} {b m b' m':Nat} {room:Int} {K M:Nat} {t c:Tr} {L L':RL} (h:TrA w0 w b m room K t L) (hx:Ext w wr) (hc:TrA w wr b' m' room M c L') :
  TrA w0 ((wr.setCell ⟨b,0,none⟩ (.int .i64 room)).setCell ⟨b,1,none⟩ (.map (some m'))) b m' room M c L'∧Kp (fun i=>i=b) wr ((wr.setCell ⟨b,0,none⟩ (.int .i64 room)).setCell ⟨b,1,none⟩ (.map (some m')))∧∀ i,TOwn b m' c i→TOwn b m t i∨w.heap.size≤i:=by
 have hk:Kp (fun i=>i=b) wr ((wr.setCell ⟨b,0,none⟩ (.int .i64 room)).setCell ⟨b,1,none⟩ (.map (some m'))):=((Kp.refl (fun i=>i=b) _).set1 _ 0 _ rfl).set1 _ 1 _ rfl
 have hb:Blk wr b #[.int .i64 room, .map (some m)] trT:=h.ts.tr.blk.kp hx (fun f=>f)
 have hb2:Blk ((wr.setCell ⟨b,0,none⟩ (.int .i64 room)).setCell ⟨b,1,none⟩ (.map (some m'))) b #[.int .i64 room, .map (some m')] trT:=(hb.set 0 _).set 1 _
 have hlt:=h.ts.tr.blk.lt
 have hsz:=h.ts.ex.size
 have htc:=hc.ts.tr
 have hne:m'≠b:=by have:=htc.low.2.1;omega
 refine ⟨⟨⟨⟨⟨h.ts.tr.low.1,Nat.le_trans hsz htc.low.2.1,fun e he=>Nat.le_trans hsz (htc.low.2.2 e he)⟩,hb2,htc.map.kp hk hne,fun e he=>(htc.nod e he).kp hk (by have:=htc.low.2.2 e he;omega) (fun i cur f hi hc2=>?_),htc.inj⟩,hc.ts.pk, ?_⟩,hc.srt,hc.good⟩,hk,fun i hi=>?_⟩
 ·have e2:i=b:=hi
  subst e2
  have h1:wr.heap[i]? = some (.cells #[.int .i64 room, .map (some m)] trT (0,0)):=hb
  rw [h1] at hc2
  simp only [Option.some.injEq,Obj.cells.injEq] at hc2
  exact absurd hc2.2.1 (by decide)
 ·exact (h.ts.ex.trans hx).next hk (fun i hi e=>by have:=h.ts.tr.low.1;omega)
 ·rcases hi with rfl|rfl|⟨e,he,rfl⟩
  ·exact .inl (.inl rfl)
  ·exact .inr htc.low.2.1
  ·exact .inr (htc.low.2.2 e he)
set_option maxHeartbeats 6400000 in
theorem multiDo_any {w0 w:World} {b m:Nat} {room:Int} {K:Nat} {t:Tr} {L:RL} (h:TrA w0 w b m room K t L) (hG:GT w0) (hK:K≤90000) (v:Value) (ops:List OpV) (sess z:Int) (ho:OpsAt w v ops) (hsz:OpsS ops) :
  Calls Tryz.prog 131 #[.pointer (some ⟨b,0,none⟩), .int .i64 sess, .int .i64 z,v] w (MulPost w0 w b m room K t (multiL room L sess z ops)):=by
 obtain ⟨wB,hWB⟩:∃ wB,w.alloc (.cells rpZ rplT)=wB:=⟨_,rfl⟩
 have hxB:Ext w wB:=by rw [← hWB];exact (Kp.refl _ _).alloc _
 have hB:Blk wB w.heap.size rpZ rplT:=by rw [← hWB];exact heap_alloc_new w _
 have hsB:wB.heap.size=w.heap.size+1:=by rw [← hWB];simp
 have HB:=Lib.hid hB
 have HXB:=Lib.hid hxB
 have HWB:=Lib.hid hWB
 have HH:=Lib.hid h
 obtain ⟨va,vc,rfl,hcc,hm,hop⟩:=OpsAt.open ho
 unfold maxLen at hm
 by_cases h16:16<ops.length
 ·have HE:Hid (multiL room L sess z ops=(L,failRp 0 2 (-1) 0,false)):=by show _=_;unfold multiL;rw [if_pos h16]
  have h16I:16<(ops.length:Int):=by omega
  clear h ho hop hWB hxB hB hsB h16
  go_enter Tryz.func131,Tryz.ntmps131
  go_upto_region 1 with (fail)
  rw [HWB.out]
  go_wp2_with (fail)
  refine (repFail_any 0 2 (-1) 0 _).mono ?_
  rintro e1 w2 ⟨u,rfl,hu,hx2⟩
  have hB2:=HB.out.kp hx2 (fun f=>f)
  have HU:=Lib.hid hu
  have HB2:=Lib.hid hB2
  have HX2:=Lib.hid (HXB.out.trans hx2)
  obtain ⟨xs,hxs,_⟩:=hu
  obtain ⟨ua,uc,rfl⟩:=hxs.slice
  generalize xs.length=un at *
  have c0:=hB2.cell 0 _ rfl
  have c1:=hB2.cell 1 _ rfl
  have c2:=hB2.cell 2 _ rfl
  have c3:=hB2.cell 3 _ rfl
  have c4:=hB2.cell 4 _ rfl
  have fc0:=hB2.free 0
  have fc1:=hB2.free 1
  have fc2:=hB2.free 2
  have fc3:=hB2.free 3
  have fc4:=hB2.free 4
  clear hB2 hx2 hxs
  unfold rplA failRp
  simp only
  go_wp2_with (fail)
  go_light
  refine bodyPost_ret (v:=.tuple #[.agg #[.int .i64 0, .int .i64 0, .int .i64 2, .int .i64 (-1), .slice ua un uc], .bool false]) (by simp [results,Tryz.results131,go_sem,c0,c1,c2,c3,c4]) rfl ?_
  rw [HE.out]
  have k5:=kp_set5 w2 w.heap.size (.int .i64 0) (.int .i64 0) (.int .i64 2) (.int .i64 (-1)) (.slice ua un uc)
  exact ⟨failB _ _ _ _, .slice ua un uc,m,t,rfl,(HU.out.kpT k5 (noT_blk HB2.out (by decide)) (noT_blk HB2.out (by decide))).less (by have:=HXB.out.size;omega),(HH.out.ext (HX2.out.next k5 (fun i hi e=>by omega))).mono (by omega),Ext.kp (HX2.out.next k5 (fun i hi e=>by omega)), .inl rfl,fun i hi=>.inl hi⟩
 ·by_cases h1:ops.length=0
  ·have HE:Hid (multiL room L sess z ops=(L,failRp 0 1 (-1) 0,false)):=by show _=_;unfold multiL;rw [if_neg h16,if_pos h1]
   have h16I:¬ 16<(ops.length:Int):=by omega
   have h1I:((ops.length:Int) == 0)=true:=by simp [h1]
   clear h ho hop hWB hxB hB hsB h16 h1
   go_enter Tryz.func131,Tryz.ntmps131
   go_upto_region 1 with (fail)
   rw [HWB.out]
   go_wp2_with (fail)
   refine (repFail_any 0 1 (-1) 0 _).mono ?_
   rintro e1 w2 ⟨u,rfl,hu,hx2⟩
   have hB2:=HB.out.kp hx2 (fun f=>f)
   have HU:=Lib.hid hu
   have HB2:=Lib.hid hB2
   have HX2:=Lib.hid (HXB.out.trans hx2)
   obtain ⟨xs,hxs,_⟩:=hu
   obtain ⟨ua,uc,rfl⟩:=hxs.slice
   generalize xs.length=un at *
   have c0:=hB2.cell 0 _ rfl
   have c1:=hB2.cell 1 _ rfl
   have c2:=hB2.cell 2 _ rfl
   have c3:=hB2.cell 3 _ rfl
   have c4:=hB2.cell 4 _ rfl
   have fc0:=hB2.free 0
   have fc1:=hB2.free 1
   have fc2:=hB2.free 2
   have fc3:=hB2.free 3
   have fc4:=hB2.free 4
   clear hB2 hx2 hxs
   unfold rplA failRp
   simp only
   go_wp2_with (fail)
   go_light
   refine bodyPost_ret (v:=.tuple #[.agg #[.int .i64 0, .int .i64 0, .int .i64 1, .int .i64 (-1), .slice ua un uc], .bool false]) (by simp [results,Tryz.results131,go_sem,c0,c1,c2,c3,c4]) rfl ?_
   rw [HE.out]
   have k5:=kp_set5 w2 w.heap.size (.int .i64 0) (.int .i64 0) (.int .i64 1) (.int .i64 (-1)) (.slice ua un uc)
   exact ⟨failB _ _ _ _, .slice ua un uc,m,t,rfl,(HU.out.kpT k5 (noT_blk HB2.out (by decide)) (noT_blk HB2.out (by decide))).less (by have:=HXB.out.size;omega),(HH.out.ext (HX2.out.next k5 (fun i hi e=>by omega))).mono (by omega),Ext.kp (HX2.out.next k5 (fun i hi e=>by omega)), .inl rfl,fun i hi=>.inl hi⟩
  ·have h16I:¬ 16<(ops.length:Int):=by omega
   have h1I:((ops.length:Int) == 0)=false:=by simp [h1]
   have hn16:ops.length≤16:=by omega
   have HOP:=Lib.hid hop
   have HN:=Lib.hid h1
   have HSZ:=Lib.hid hsz
   have HCP:=Lib.hid (trCopy (h.ext hxB) (by omega))
   have HG:=Lib.hid (hG.ext h.ts.ex)
   clear h ho hop hWB hxB hB h16 h1
   go_enter Tryz.func131,Tryz.ntmps131
   go_upto_region 1 with (fail)
   rw [HWB.out]
   go_wp2_with (fail)
   refine HCP.out.mono ?_
   rintro e w1 ⟨b',m',c0,rfl,hc0,_,hx1⟩
   obtain ⟨w2,hW2⟩:∃ w2,w1.alloc (.cells #[.int .i64 0, .int .i64 z, .int .i64 0, .int .i64 (-1), .slice none 0 0] rplT)=w2:=⟨_,rfl⟩
   have hx2:Ext w1 w2:=by rw [← hW2];exact (Kp.refl _ _).alloc _
   have hR2:Blk w2 w1.heap.size #[.int .i64 0, .int .i64 z, .int .i64 0, .int .i64 (-1), .slice none 0 0] rplT:=by rw [← hW2];exact heap_alloc_new w1 _
   have hts:=hc0.ts
   have HC0:Hid (TrA w w2 b' m' room K c0 L):=⟨⟨(hts.tr.ext hx2).less (by omega),hts.pk,(HXB.out.trans hx1).trans hx2⟩,hc0.srt,hc0.good⟩
   have HR2:=Lib.hid hR2
   have HB2:=Lib.hid ((HB.out.kp hx1 (fun f=>f)).kp hx2 (fun f=>f))
   have HW2:=Lib.hid hW2
   have HSR:Hid (w.heap.size<w1.heap.size):=by have:=hx1.size;show _<_;omega
   obtain ⟨rb,hrb⟩:∃ rb,w1.heap.size=rb:=⟨_,rfl⟩
   rw [hrb] at HR2 HSR
   have HRB:=Lib.hid hrb
   clear hx1 hx2 hR2 hts hc0 hW2 hrb HCP
   go_upto_region 7 with (fail)
   rw [HW2.out]
   rw [HRB.out]
   go_wp2_with (fail)
   go_loopw [31] (fun s31 wr=>MuRel w b' m' rb room K L sess z ops s31 wr) (fun s31 _=>ops.length - (intOf s31).toNat)
   case atStart=>exact ⟨0,c0, .slice none 0 0,[],Nat.zero_le _,rfl,rfl,HC0.out,RsAt.nil _ _,rfl,fun _ h=>by (cases h),HR2.out,HB2.out⟩
   case round=>
    clear HC0 HR2 HB2 HB HXB HWB HW2
    obtain ⟨k,c,v,xs,hk,rfl,h0,hc,hrs,hxs,hbd,hR,hB⟩:=hrel
    have HBD:=Lib.hid hbd
    obtain ⟨xa,xc,rfl⟩:=hrs.slice
    have hxl:xs.length=k:=by
     have h1:=congrArg List.length hxs
     rw [List.length_map,runL_len room sess z _ _ h0,List.length_take] at h1
     omega
    have HXL:=Lib.hid hxl
    have HRS:=Lib.hid hrs
    have HXS:=Lib.hid hxs
    have HR:=Lib.hid hR
    have HB:=Lib.hid hB
    have HC:=Lib.hid hc
    have hxr:=hc.ts.ex
    have HXR:=Lib.hid hxr
    by_cases hlt:k<ops.length
    ·obtain ⟨g,off,rfl,hg,hcl⟩:=HOP.out (by omega)
     have hcells:=hcl k hlt
     obtain ⟨o,hoo⟩:∃ o,ops[k]=o:=⟨_,rfl⟩
     have hso:=HSZ.out _ (List.getElem_mem hlt)
     rw [hoo] at hcells hso
     obtain ⟨P,hP⟩:∃ P,doL room (runL room sess z L (ops.take k)).1 o sess z=P:=⟨_,rfl⟩
     have HD:=Lib.hid (fun W (hW:Ext wr W)=>trDo (hc.ext hW) HG.out (by omega) o sess z hso.1 hso.2)
     simp only [hP] at HD
     have HSTOP:Hid (P.2.err≠0→multiL room L sess z ops=(L,failRp 0 P.2.err k ops.length,false)):=fun he=>multi_stop hlt hn16 h0 (by rw [hoo];exact hP) he
     have HGO:Hid (P.2.err=0→runL room sess z L (ops.take (k+1))=(P.1,(runL room sess z L (ops.take k)).2.1++[P.2],0)):=fun he=>multi_go hlt h0 (by rw [hoo];exact hP) he
     obtain ⟨ok,op,od,ov,of⟩:=o
     simp only at hcells HD
     have e0:=hxr.cell hcells.1 (fun f=>f)
     have e1:=hxr.cell hcells.2.1 (fun f=>f)
     have e2:=hxr.cell hcells.2.2.1 (fun f=>f)
     have e3:=hxr.cell hcells.2.2.2.1 (fun f=>f)
     have e4:=hxr.cell hcells.2.2.2.2 (fun f=>f)
     obtain ⟨wC,hWC⟩:∃ wC,wr.alloc (.cells #[.int .i64 ok, .string op, .string od, .int .i64 ov, .int .i64 of] 33)=wC:=⟨_,rfl⟩
     have hxC:Ext wr wC:=by rw [← hWC];exact (Kp.refl _ _).alloc _
     have hoC:Blk wC wr.heap.size #[.int .i64 ok, .string op, .string od, .int .i64 ov, .int .i64 of] 33:=by rw [← hWC];exact heap_alloc_new wr _
     have HXC:=Lib.hid hxC
     have HWC:=Lib.hid hWC
     have HOC:=Lib.hid hoC
     have hI1:(0:Int)≤(k:Int):=by omega
     have hI2:(k:Int)<(ops.length:Int):=by omega
     clear hcl hcells hoo hso hP hWC hxC hoC h0 hc hrs hxs hR hB hxl hg hxr hbd
     go_upto_region 10 with (fail)
     rw [HWC.out]
     clear e0 e1 e2 e3 e4
     have hoC:=HOC.out
     have a0:=hoC.cell 0 _ rfl
     have a1:=hoC.cell 1 _ rfl
     have a2:=hoC.cell 2 _ rfl
     have a3:=hoC.cell 3 _ rfl
     have a4:=hoC.cell 4 _ rfl
     clear hoC
     go_wp2_with (fail)
     refine (HD.out wC HXC.out).mono ?_
     rintro e w5 ⟨hbp,c',nv,rfl,hnm,hc',hk5,_⟩
     have HBP:=Lib.hid (hbp.mono (show K+k≤100000 by omega))
     clear hbp
     obtain ⟨na,nc,rfl⟩:=hnm.slice
     have htr:=HC.out.ts.tr.ext HXC.out
     obtain ⟨PL,⟨per,ppa,pda,pnm,pst⟩⟩:=P
     simp only at hnm hc' HSTOP HGO ⊢
     have HR5:=Lib.hid (htr.blk' hk5 (HR.out.kp HXC.out (fun f=>f)) (by decide))
     have HB5:=Lib.hid (htr.blk' hk5 (HB.out.kp HXC.out (fun f=>f)) (by decide))
     have HS5:=Lib.hid ((HRS.out.ext HXC.out).kpT hk5 (htr.noT (by decide)) (htr.noT (by decide)))
     have HC5:=Lib.hid hc'
     have HN5:=Lib.hid hnm
     obtain ⟨wE,hWE⟩:∃ wE,w5.alloc (.cells #[.int .i64 per, .string ppa, .string pda, .slice na pnm.length nc, .int .i64 pst.made, .int .i64 pst.chg, .int .i64 pst.ver, .int .i64 pst.kids, .int .i64 pst.own, .int .i64 pst.len, .int .i64 pst.cnt] rsuT)=wE:=⟨_,rfl⟩
     have hxE:Ext w5 wE:=by rw [← hWE];exact (Kp.refl _ _).alloc _
     have hE:Blk wE w5.heap.size #[.int .i64 per, .string ppa, .string pda, .slice na pnm.length nc, .int .i64 pst.made, .int .i64 pst.chg, .int .i64 pst.ver, .int .i64 pst.kids, .int .i64 pst.own, .int .i64 pst.len, .int .i64 pst.cnt] rsuT:=by rw [← hWE];exact heap_alloc_new w5 _
     have HXE:=Lib.hid hxE
     have HEE:=Lib.hid hE
     have HWE:=Lib.hid hWE
     unfold resA
     clear hnm hc' hk5 htr hWE hxE hE a0 a1 a2 a3 a4 HR HB HRS HC HD HWC HOC HXR
     go_upto_region 11 with (fail)
     rw [HWE.out]
     have hE:=HEE.out
     have x0:=hE.cell 0 _ rfl
     have x1:=hE.cell 1 _ rfl
     have x2:=hE.cell 2 _ rfl
     have x3:=hE.cell 3 _ rfl
     have x4:=hE.cell 4 _ rfl
     have x5:=hE.cell 5 _ rfl
     have x6:=hE.cell 6 _ rfl
     have x7:=hE.cell 7 _ rfl
     have x8:=hE.cell 8 _ rfl
     have x9:=hE.cell 9 _ rfl
     have x10:=hE.cell 10 _ rfl
     clear hE
     by_cases hper:per=0
     ·subst hper
      have hgo:=HGO.out rfl
      have HG0:=Lib.hid hgo
      have hRE:=HR5.out.kp HXE.out (fun f=>f)
      have b4:=hRE.cell 4 _ rfl
      have HRE:=Lib.hid hRE
      have HSE:=Lib.hid (HS5.out.ext HXE.out)
      have HNE:=Lib.hid (HN5.out.extO HXE.out)
      have HBE:=Lib.hid (HB5.out.kp HXE.out (fun f=>f))
      have HONE:=Lib.hid (rsE_one (w:=wE) (x:=⟨⟨0,ppa,pda,pnm,pst⟩, .slice na pnm.length nc⟩) HNE.out)
      have HSZE:Hid (rb+1≤wE.heap.size):=by have:=hRE.lt;show _≤_;omega
      clear hgo hRE HGO HSTOP HR5 HS5 HN5 HB5
      go_wp2_with (at_builtin;refine wpList_appK rssT rsuT 11 (by decide) rss_facts rfl _ _ rfl (rb+1) _ _ _ rfl (ownsRow.ext HSE.out.row ((Kp.refl _ _).alloc _)) _ 1 (rsE ⟨⟨0,ppa,pda,pnm,pst⟩, .slice na pnm.length nc⟩) rfl (Sl.of_block (heap_alloc_new wE _) rfl (by decide) (Nat.le_refl _)) Shp.some HONE.out ?c1 ?c2 ?_)
      case c1=>have:=HXL.out;omega
      case c2=>have:=HSZE.out;simp;omega
      intro v' w' h1 k2
      obtain ⟨a4,l4,c4,hv4⟩:∃ a4 l4 c4,v'=.slice a4 l4 c4:=by obtain ⟨a4,c4,e,_⟩:=Sl.open (Sl.of_owns h1);exact ⟨_,_,_,e⟩
      subst hv4
      have hlow:∀ i,(Value.slice xa xs.length xc).ownBlock=some i→rb+1≤i:=fun i hi=>(own_in HSE.out.row hi).1
      have hbF:Blk w' rb #[.int .i64 0, .int .i64 z, .int .i64 0, .int .i64 (-1), .slice xa xs.length xc] rplT:=(HRE.out.kp (S:=fun _=>False) ((Kp.refl _ _).alloc _) (fun f=>f)).kp k2 (fun h=>by have:=hlow _ h;omega)
      have haF:Blk w' w.heap.size rpZ rplT:=(HBE.out.kp (S:=fun _=>False) ((Kp.refl _ _).alloc _) (fun f=>f)).kp k2 (fun h=>by have:=hlow _ h;have:=HSR.out;omega)
      have hrF:RsAt w' (rb+1) (.slice a4 l4 c4) (xs++[⟨⟨0,ppa,pda,pnm,pst⟩, .slice na pnm.length nc⟩]):=(HSE.out.ext ((Kp.refl _ _).alloc _)).snoc (HNE.out.extO ((Kp.refl _ _).alloc _)) h1 k2 (HSE.out.ext ((Kp.refl _ _).alloc _)).noStr
      have hcE:TrA w (wE.alloc (.cells (rsE ⟨⟨0,ppa,pda,pnm,pst⟩, .slice na pnm.length nc⟩).toArray rsuT)) b' m' room (K+k+1) c' PL:=(HC5.out.ext HXE.out).ext ((Kp.refl _ _).alloc _)
      have hcF:=hcE.aside k2 (fun i hi=>by have:=hlow i hi;have:=HSR.out;omega) (Other.row (HSE.out.ext (Kp.alloc (Kp.refl (fun _=>False) _) _)).row (by decide) (by decide) (by decide))
      have o4:=hbF.cell 4 _ rfl
      have f4:=hbF.free 4
      have HBF:=Lib.hid hbF
      have HAF:=Lib.hid haF
      have HRF:=Lib.hid hrF
      have HCF:=Lib.hid hcF
      clear h1 k2 hlow hbF haF hrF hcE hcF x0 x1 x2 x3 x4 x5 x6 x7 x8 x9 x10 b4 HXE HEE HWE HC5
      go_wp2_with (fail)
      go_light
      have hst:Kp (fun i=>i=rb) w' (w'.setCell ⟨rb,4,none⟩ (.slice a4 l4 c4)):=Kp.set1 (S:=fun i=>i=rb) (Kp.refl _ _) _ 4 _ rfl
      refine ⟨⟨k+1,c', .slice a4 l4 c4,xs++[⟨⟨0,ppa,pda,pnm,pst⟩, .slice na pnm.length nc⟩], ?_, ?_, ?_, ?_,HRF.out.kpT hst (noT_blk HBF.out (by decide)) (noT_blk HBF.out (by decide)), ?_, ?_,HBF.out.set 4 _,HAF.out.kp hst (by have:=HSR.out;omega)⟩, ?_⟩
      ·omega
      ·go_num
      ·rw [HG0.out]
      ·rw [HG0.out,← Nat.add_assoc]
       exact HCF.out.aside hst (fun i hi=>by have e:i=rb:=hi;have:=HSR.out;omega) (Other.blk HBF.out (by decide) (by decide) (by decide))
      ·rw [HG0.out,List.map_append,HXS.out];rfl
      ·intro x hx
       rcases List.mem_append.1 hx with hx|hx
       ·exact HBD.out x hx
       ·simp only [List.mem_singleton] at hx
        subst hx
        exact HBP.out
      ·simp [intOf];omega
     ·have hst:=HSTOP.out hper
      have HE:=Lib.hid hst
      clear hst HGO HSTOP HS5 HN5
      have HXW:Hid (Ext w wE):=HC5.out.ts.ex.trans HXE.out
      have HBE:=Lib.hid (HB5.out.kp HXE.out (fun f=>f))
      clear HB5 HR5 HC5 HEE HWE
      go_wp2_with (fail)
      refine (repFail_any 0 per k ops.length _).mono ?_
      rintro e w6 ⟨u,rfl,hu,hx6⟩
      have hB6:=HBE.out.kp hx6 (fun f=>f)
      have HU:=Lib.hid hu
      have HB6:=Lib.hid hB6
      have HX6:=Lib.hid (HXW.out.trans hx6)
      obtain ⟨us,hus,_⟩:=hu
      obtain ⟨ua,uc,rfl⟩:=hus.slice
      generalize us.length=un at *
      have c0:=hB6.cell 0 _ rfl
      have c1:=hB6.cell 1 _ rfl
      have c2:=hB6.cell 2 _ rfl
      have c3:=hB6.cell 3 _ rfl
      have c4:=hB6.cell 4 _ rfl
      have fc0:=hB6.free 0
      have fc1:=hB6.free 1
      have fc2:=hB6.free 2
      have fc3:=hB6.free 3
      have fc4:=hB6.free 4
      clear hB6 hx6 hus x0 x1 x2 x3 x4 x5 x6 x7 x8 x9 x10
      unfold rplA failRp
      simp only
      go_wp2_with (fail)
      go_light
      refine bodyPost_ret (v:=.tuple #[.agg #[.int .i64 0, .int .i64 0, .int .i64 per, .int .i64 k, .slice ua un uc], .bool false]) (by simp [results,Tryz.results131,go_sem,c0,c1,c2,c3,c4]) rfl ?_
      rw [HE.out]
      have k5:=kp_set5 w6 w.heap.size (.int .i64 0) (.int .i64 0) (.int .i64 per) (.int .i64 k) (.slice ua un uc)
      exact ⟨failB _ _ _ _, .slice ua un uc,m,t,rfl,(HU.out.kpT k5 (noT_blk HB6.out (by decide)) (noT_blk HB6.out (by decide))).less (by have:=HXW.out.size;omega),(HH.out.ext (HX6.out.next k5 (fun i hi e=>by omega))).mono (by omega),Ext.kp (HX6.out.next k5 (fun i hi e=>by omega)), .inl rfl,fun i hi=>.inl hi⟩
    ·obtain rfl:k=ops.length:=by omega
     have ht:ops.take ops.length=ops:=List.take_length
     rw [ht] at h0
     have HE:=Lib.hid (multi_end hn16 HN.out h0)
     have hcr:=HC.out
     rw [ht] at hcr
     have hxs2:=HXS.out
     rw [ht] at hxs2
     obtain ⟨t1,t2,t3⟩:=HH.out.take HXR.out hcr
     have HT1:=Lib.hid t1
     have HT2:=Lib.hid t2
     have HT3:=Lib.hid t3
     have HXS2:=Lib.hid hxs2
     have hcb:=hcr.ts.tr.blk
     have d0:=hcb.cell 0 _ rfl
     have d1:=hcb.cell 1 _ rfl
     have htb:Blk wr b #[.int .i64 room, .map (some m)] trT:=HH.out.ts.tr.blk.kp HXR.out (fun f=>f)
     have f0:=htb.free 0
     have f1:=htb.free 1
     have g0:=htb.cell 0 _ rfl
     have g1:=htb.cell 1 _ rfl
     have hbr:b≠rb:=by have:=HH.out.ts.tr.blk.lt;have:=HSR.out;omega
     have hbw:b≠w.heap.size:=by have:=HH.out.ts.tr.blk.lt;omega
     obtain ⟨wT,hWT⟩:∃ wT,(wr.setCell ⟨b,0,none⟩ (.int .i64 room)).setCell ⟨b,1,none⟩ (.map (some m'))=wT:=⟨_,rfl⟩
     rw [hWT] at HT1 HT2
     have HRT:=Lib.hid (HR.out.kp HT2.out (fun e=>hbr e.symm))
     have HBT:=Lib.hid (HB.out.kp HT2.out (fun e=>hbw e.symm))
     have HST:=Lib.hid (HRS.out.kpT HT2.out (noT_blk htb (by decide)) (noT_blk htb (by decide)))
     have HWT:=Lib.hid hWT
     clear hbd h0 hc hrs hxs hR hB hcr hxs2 t1 t2 t3 hcb htb hWT hxr ht hxl
     go_upto_region 16 with (fail)
     rw [HWT.out]
     clear d0 d1 f0 f1 g0 g1
     have hrT:=HRT.out
     have hbT:=HBT.out
     have x0:=hrT.cell 0 _ rfl
     have x1:=hrT.cell 1 _ rfl
     have x2:=hrT.cell 2 _ rfl
     have x3:=hrT.cell 3 _ rfl
     have x4:=hrT.cell 4 _ rfl
     unfold rpZ at hbT
     have c0:=hbT.cell 0 _ rfl
     have c1:=hbT.cell 1 _ rfl
     have c2:=hbT.cell 2 _ rfl
     have c3:=hbT.cell 3 _ rfl
     have c4:=hbT.cell 4 _ rfl
     have fc0:=hbT.free 0
     have fc1:=hbT.free 1
     have fc2:=hbT.free 2
     have fc3:=hbT.free 3
     have fc4:=hbT.free 4
     clear hrT hbT
     go_wp2_with (fail)
     go_light
     refine bodyPost_ret (v:=.tuple #[.agg #[.int .i64 0, .int .i64 z, .int .i64 0, .int .i64 (-1), .slice xa xs.length xc], .bool true]) (by simp [results,Tryz.results131,go_sem,c0,c1,c2,c3,c4]) rfl ?_
     rw [HE.out]
     have k5:=kp_set5 wT w.heap.size (.int .i64 0) (.int .i64 z) (.int .i64 0) (.int .i64 (-1)) (.slice xa xs.length xc)
     refine ⟨fun x hx=>?_, .slice xa xs.length xc,m',c,rfl,⟨xs,(HST.out.kpT k5 (noT_blk HBT.out (by decide)) (noT_blk HBT.out (by decide))).less (by have:=HSR.out;omega),HXS2.out⟩,(HT1.out.aside k5 (fun i hi=>?_) (Other.blk HBT.out (by decide) (by decide) (by decide))).mono (by omega),((Ext.kp HXR.out).trans HT2.out).next k5 (fun i hi e=>by omega), .inr HC.out.ts.tr.low.2.1,HT3.out⟩
     ·have hx2:x∈(runL room sess z L ops).2.1:=hx
      rw [← HXS2.out] at hx2
      obtain ⟨y,hy,rfl⟩:=List.mem_map.1 hx2
      exact HBD.out y hy
     ·have e:i=w.heap.size:=hi
      have:=HH.out.ts.ex.size
      omega
end Go.Proofs.YtnlefnhdhigecaaGreatDoor

namespace Go.Proofs.YtnlefnhdhigecaaGreatDoor
set_option maxRecDepth 100000
open Go.RowKit Av
set_option maxHeartbeats 400000 in
theorem mayF_any (o:OpV) (w:World):Calls Tryz.prog 128 #[o.val] w fun e w'=>e=.returned (.bool (readsB o.kind))∧Ext w w':=by
 obtain ⟨k,p,d,v,f⟩:=o
 unfold OpV.val
 have H:=Lib.hid (reads_any k)
 simp only
 go_enter Tryz.func128,Tryz.ntmps128
 go_wp2_with (fail)
 refine (H.out _).mono ?_
 rintro e w1 ⟨rfl,rfl⟩
 go_wp2_with (fail)
 go_ret
 go_light
 exact ⟨rfl,(Kp.refl _ _).alloc _⟩
def IdxRel (w:World) (p:OpV→Bool) (xs:List OpV) (i:Value) (wr:World):Prop:=
 ∃ k:Nat,k≤xs.length∧i=.int .i64 k∧(∀ x∈xs.take k,p x=false)∧Ext w wr
set_option maxHeartbeats 800000 in
theorem readsIdx_any (v:Value) (xs:List OpV) (w:World) (h:OpsAt w v xs) :
  Calls Tryz.prog 167 #[v, .func (.func 128) #[] #[]] w fun e w'=>e=.returned (.int .i64 (idxI (fun o=>readsB o.kind) xs))∧Ext w w':=by
 obtain ⟨a,c,rfl,hcc,hm,hop⟩:=OpsAt.open h
 have HO:=Lib.hid hop
 unfold maxLen at hm
 clear h hop
 go_enter Tryz.func167,Tryz.ntmps167
 go_wp2_with (fail)
 go_loopw [8] (IdxRel w (fun o=>readsB o.kind) xs) (fun i _=>xs.length - (intOf i).toNat)
 case atStart=>exact ⟨0,Nat.zero_le _,rfl,by simp,Kp.refl _ _⟩
 case round=>
  obtain ⟨k,hk,rfl,hnone,hx⟩:=hrel
  have HN:=Lib.hid hnone
  clear hnone
  by_cases hlt:k<xs.length
  ·obtain ⟨b,off,rfl,_,hc⟩:=HO.out (by omega)
   obtain ⟨c0,c1,c2,c3,c4⟩:=hc k hlt
   have d0:=hx.cell c0 (fun f=>f)
   have d1:=hx.cell c1 (fun f=>f)
   have d2:=hx.cell c2 (fun f=>f)
   have d3:=hx.cell c3 (fun f=>f)
   have d4:=hx.cell c4 (fun f=>f)
   have k1:(k:Int)<xs.length:=by omega
   have HC:=Lib.hid (mayF_any xs[k])
   unfold OpV.val at HC
   clear hc c0 c1 c2 c3 c4
   go_wp2_with (fail)
   refine (HC.out _).mono ?_
   rintro e w1 ⟨rfl,hx1⟩
   cases hb:(fun o=>readsB o.kind) xs[k] with
   | false=>
     have HB:=Lib.hid hb
     have hb':readsB xs[k].kind=false:=hb
     clear hb
     rw [hb']
     clear hb'
     go_wp2_with (fail)
     go_light
     exact ⟨⟨k+1,by omega,by go_num,take_allP hlt HN.out HB.out,hx.ext hx1⟩,by simp [intOf];omega⟩
   | true=>
     have HB:=Lib.hid hb
     have hb':readsB xs[k].kind=true:=hb
     clear hb
     rw [hb']
     clear hb'
     go_wp2_with (fail)
     go_ret
     go_light
     exact ⟨ret_val (by rw [idxI_at hlt HN.out HB.out];rfl),hx.ext hx1⟩
  ·have hall:∀ x∈xs,(fun o=>readsB o.kind) x=false:=by
    have:=HN.out
    rwa [List.take_of_length_le (by omega)] at this
   have HI:=Lib.hid (idxI_none hall)
   clear hall HN
   go_wp2_with (fail)
   go_ret
   go_light
   exact ⟨ret_val (by rw [HI.out];rfl),hx⟩
set_option maxHeartbeats 400000 in
theorem readsAny_any (v:Value) (xs:List OpV) (w:World) (h:OpsAt w v xs) :
  Calls Tryz.prog 127 #[v, .func (.func 128) #[] #[]] w fun e w'=>e=.returned (.bool (xs.any (fun o=>readsB o.kind)))∧Ext w w':=by
 have HC:=Lib.hid (readsIdx_any v xs w h)
 have HI:=Lib.hid (idxI_any (fun o=>readsB o.kind) xs)
 obtain ⟨z,hz⟩:∃ z,idxI (fun o=>readsB o.kind) xs=z:=⟨_,rfl⟩
 rw [hz] at HC HI
 clear hz
 go_enter Tryz.func127,Tryz.ntmps127
 go_wp2_with (fail)
 refine (HC.out).mono ?_
 rintro e w1 ⟨rfl,hx1⟩
 go_wp2_with (fail)
 go_ret
 go_light
 exact ⟨ret_bool HI.out,hx1⟩
def MayRel (w:World) (xs:List OpV) (i:Value) (wr:World):Prop:=
 ∃ k:Nat,k≤xs.length∧i=.int .i64 k∧(∀ x∈xs.take k,goodO x=0)∧Ext w wr
theorem req_cells {w W:World} {s n:Int} {v:Value} {T:TypeId} (h:Ext (w.alloc (.cells #[.int .i64 s, .int .i64 n,v] T)) W) :
  W.cell? ⟨w.heap.size,0,none⟩=some (.int .i64 s)∧W.cell? ⟨w.heap.size,1,none⟩=some (.int .i64 n)∧W.cell? ⟨w.heap.size,2,none⟩=some v:=by
 refine ⟨?_, ?_, ?_⟩<;>exact h.cell (by simp) (fun f=>f)
set_option maxHeartbeats 1600000 in
theorem may_any (s n:Int) (v:Value) (xs:List OpV) (w:World) (hG:GT w) (h:OpsAt w v xs) (hsz:OpsSz xs) :
  Calls Tryz.prog 79 #[.agg #[.int .i64 s, .int .i64 n,v]] w fun e w'=>e=.returned (.int .i64 (mayR s n xs))∧Ext w w':=by
 have HAny:=Lib.hid (fun W (k:Ext w W)=>readsAny_any v xs W (h.ext k))
 have HS:=Lib.hid hsz
 obtain ⟨a,c,rfl,hcc,hm,hop⟩:=OpsAt.open h
 have HO:=Lib.hid hop
 unfold maxLen at hm
 clear h hop hsz
 have hE:Ext w (w.alloc (.cells #[.int .i64 s, .int .i64 n, .slice a xs.length c] 71)):=(Kp.refl _ _).alloc _
 have HE:=Lib.hid hE
 clear hE
 by_cases c1:s<1
 ·go_enter Tryz.func79,Tryz.ntmps79
  go_wp2_with (fail)
  go_ret
  go_light
  exact ⟨ret_val (by rw [mayR_few (.inl c1)];rfl),HE.out⟩
 ·by_cases c2:n<1
  ·go_enter Tryz.func79,Tryz.ntmps79
   go_wp2_with (fail)
   go_ret
   go_light
   exact ⟨ret_val (by rw [mayR_few (.inr (.inl c2))];rfl),HE.out⟩
  ·by_cases c3:xs.length=0
   ·have c3':(xs.length:Int)=0:=by omega
    have HM:=Lib.hid (mayR_few (sess:=s) (num:=n) (xs:=xs) (.inr (.inr c3)))
    have c4:((xs.length:Int) == 0)=true:=by rw [beq_iff_eq];exact c3'
    clear c3 c3'
    go_enter Tryz.func79,Tryz.ntmps79
    go_wp2_with (fail)
    go_ret
    go_light
    exact ⟨ret_val (by rw [HM.out];rfl),HE.out⟩
   ·have c3':((xs.length:Int) == 0)=false:=by rw [beq_eq_false_iff_ne];omega
    have HF:Hid (¬ (s<1∨n<1∨xs.length=0)):=by
     show ¬ _
     omega
    clear c3
    by_cases c4:xs.length≤16
    ·go_enter Tryz.func79,Tryz.ntmps79
     go_wp2_with (fail)
     go_loopw [29] (MayRel (w.alloc (.cells #[.int .i64 s, .int .i64 n, .slice a xs.length c] 71)) xs) (fun i _=>xs.length - (intOf i).toNat)
     case atStart=>exact ⟨0,Nat.zero_le _,rfl,by simp,Kp.refl _ _⟩
     case round=>
      obtain ⟨k,hk,rfl,hgood,hx⟩:=hrel
      have HGD:=Lib.hid hgood
      have hxw:=HE.out.ext hx
      have HXW:=Lib.hid hxw
      clear hgood hxw
      by_cases hlt:k<xs.length
      ·obtain ⟨b,off,rfl,_,hc⟩:=HO.out (by omega)
       obtain ⟨q0,q1,q2,q3,q4⟩:=hc k hlt
       have d0:=HXW.out.cell q0 (fun f=>f)
       have d1:=HXW.out.cell q1 (fun f=>f)
       have d2:=HXW.out.cell q2 (fun f=>f)
       have d3:=HXW.out.cell q3 (fun f=>f)
       have d4:=HXW.out.cell q4 (fun f=>f)
       have k1:(k:Int)<xs.length:=by omega
       have hsk:=HS.out _ (List.getElem_mem hlt)
       have HC:=Lib.hid (fun W (k':Ext w W)=>opGood_any xs[k] W (hG.ext k') hsk.1 hsk.2)
       unfold OpV.val at HC
       clear hc q0 q1 q2 q3 q4 hsk
       go_wp2_with (fail)
       refine (HC.out _ (HXW.out.alloc _)).mono ?_
       rintro e w1 ⟨rfl,hx1⟩
       by_cases hz:goodO xs[k]=0
       ·have HZ:=Lib.hid hz
        rw [hz]
        clear hz
        go_wp2_with (fail)
        go_light
        exact ⟨⟨k+1,by omega,by go_num,take_allP hlt HGD.out HZ.out,(hx.alloc _).ext hx1⟩,by simp [intOf];omega⟩
       ·have HM:=Lib.hid (mayR_bad HF.out (by omega) hlt HGD.out hz)
        obtain ⟨g,hg⟩:∃ g,goodO xs[k]=g:=⟨_,rfl⟩
        rw [hg] at hz HM ⊢
        have hz':(g == 0)=false:=by rw [beq_eq_false_iff_ne];exact hz
        clear hg hz
        go_wp2_with (fail)
        go_ret
        go_light
        exact ⟨ret_val (by rw [HM.out];rfl),(HXW.out.alloc _).ext hx1⟩
      ·have hall:∀ x∈xs,goodO x=0:=by
        have:=HGD.out
        rwa [List.take_of_length_le (by omega)] at this
       have HM:=Lib.hid (mayR_all HF.out (by omega) hall)
       obtain ⟨r0,r1,r2⟩:=req_cells hx
       clear hall HGD
       by_cases c5:1<xs.length
       ·go_wp2_with (fail)
        refine (HAny.out _ HXW.out).mono ?_
        rintro e w1 ⟨rfl,hx1⟩
        cases hb:xs.any (fun o=>readsB o.kind) with
        | false=>
          rw [hb] at HM
          clear hb
          go_wp2_with (fail)
          go_ret
          go_light
          exact ⟨ret_val (by rw [HM.out];simp),HXW.out.ext hx1⟩
        | true=>
          rw [hb] at HM
          clear hb
          go_wp2_with (fail)
          go_ret
          go_light
          exact ⟨ret_val (by rw [HM.out];simp [c5]),HXW.out.ext hx1⟩
       ·have HC5:=Lib.hid c5
        go_wp2_with (fail)
        go_ret
        go_light
        exact ⟨ret_val (by rw [HM.out,if_neg (fun h=>HC5.out h.1)];rfl),HXW.out⟩
    ·have HM:=Lib.hid (mayR_many HF.out (by omega))
     go_enter Tryz.func79,Tryz.ntmps79
     go_wp2_with (fail)
     go_ret
     go_light
     exact ⟨ret_val (by rw [HM.out];rfl),HE.out⟩
end Go.Proofs.YtnlefnhdhigecaaGreatDoor

namespace Go.Proofs.YtnlefnhdhigecaaGreatDoor
set_option maxRecDepth 100000
open Go.RowKit Av
def ReqPost (w0 w:World) (b m:Nat) (room:Int) (K:Nat) (t:Tr) (X:RL×RpV) (e:Ending) (w':World):Prop:=
 (∀ x∈X.2.res,RpB 100000 x)∧∃ u m' t',e=.returned (.agg (rplA X.2 u))∧RpAt w' w.heap.size u X.2∧TrA w0 w' b m' room (K+16) t' X.1∧Kp (fun i=>i=b) w w'∧(m'=m∨w.heap.size≤m')∧∀ i,TOwn b m' t' i→TOwn b m t i∨w.heap.size≤i
theorem OpsS.sz {ops:List OpV} (h:OpsS ops):OpsSz ops:=fun o ho=>by
 have:=h o ho
 unfold maxLen
 omega
set_option maxHeartbeats 3200000 in
theorem request_any {w0 w:World} {b m:Nat} {room:Int} {K:Nat} {t:Tr} {L:RL} (h:TrA w0 w b m room K t L) (hG:GT w0) (hK:K≤90000) (v:Value) (ops:List OpV) (sess num z:Int) (ho:OpsAt w v ops) (hsz:OpsS ops) :
  Calls Tryz.prog 83 #[.pointer (some ⟨b,0,none⟩), .agg #[.int .i64 sess, .int .i64 num,v], .int .i64 z] w (ReqPost w0 w b m room K t (requestL room L sess num z ops)):=by
 obtain ⟨wB,hWB⟩:∃ wB,(w.alloc (.cells #[.int .i64 sess, .int .i64 num,v] 71)).alloc (.cells rpZ rplT)=wB:=⟨_,rfl⟩
 have hxB:Ext w wB:=by rw [← hWB];exact ((Kp.refl _ _).alloc _).alloc _
 have hA:Blk wB w.heap.size #[.int .i64 sess, .int .i64 num,v] 71:=by
  rw [← hWB]
  exact Blk.kp (heap_alloc_new w _) ((Kp.refl (fun _=>False) _).alloc _) (fun f=>f)
 have hB:Blk wB (w.heap.size+1) rpZ rplT:=by
  rw [← hWB]
  have:=heap_alloc_new (w.alloc (.cells #[.int .i64 sess, .int .i64 num,v] 71)) (.cells rpZ rplT)
  rw [World.size_alloc] at this
  exact this
 have HMAY:=Lib.hid (may_any sess num v ops wB ((hG.ext h.ts.ex).ext hxB) (ho.ext hxB) hsz.sz)
 have HDO:=Lib.hid (fun W (hW:Ext wB W)=>multiDo_any (h.ext (hxB.trans hW)) hG hK v ops sess z (ho.ext (hxB.trans hW)) hsz)
 have HA:=Lib.hid hA
 have HB:=Lib.hid hB
 have HXB:=Lib.hid hxB
 have HWB:=Lib.hid hWB
 have HH:=Lib.hid h
 obtain ⟨va,vc,rfl,_,_,_⟩:=OpsAt.open ho
 have a0:=hA.cell 0 _ rfl
 have a1:=hA.cell 1 _ rfl
 have a2:=hA.cell 2 _ rfl
 obtain ⟨z0,hz0⟩:∃ z0,mayR sess num ops=z0:=⟨_,rfl⟩
 rw [hz0] at HMAY
 by_cases hz:z0=0
 ·have HE:Hid (requestL room L sess num z ops=((multiL room L sess z ops).1,{ (multiL room L sess z ops).2.1 with num:=num,zxid:=z })):=by show _=_;unfold requestL;rw [if_neg (by rw [hz0,hz];simp)]
  subst hz
  generalize hX:multiL room L sess z ops=X at HDO HE
  clear h ho hWB hxB hA hB hz0 hX
  go_enter Tryz.func83,Tryz.ntmps83
  go_upto_region 1 with (fail)
  rw [HWB.out]
  go_wp2_with (fail)
  refine HMAY.out.mono ?_
  rintro e w1 ⟨rfl,hx1⟩
  have hA1:=HA.out.kp hx1 (fun f=>f)
  have HX1:=Lib.hid hx1
  clear hx1 a0 a1 a2
  have a0:=hA1.cell 0 _ rfl
  have a1:=hA1.cell 1 _ rfl
  have a2:=hA1.cell 2 _ rfl
  have HA1:=Lib.hid hA1
  clear hA1
  go_wp2_with (fail)
  refine (HDO.out w1 HX1.out).mono ?_
  rintro e w2 ⟨hbd,u,m',t',rfl,hu,ht,hk,hmm,hown⟩
  have HBD:=Lib.hid hbd
  clear hbd
  obtain ⟨XL,⟨xn,xz,xe,xa,xr⟩,xb⟩:=X
  simp only at hu ht HE ⊢
  have hA2:=HA1.out.kp hk (by have:=HH.out.ts.tr.blk.lt;omega)
  have hB2:=(HB.out.kp HX1.out (fun f=>f)).kp hk (by have:=HH.out.ts.tr.blk.lt;omega)
  obtain ⟨us,hus,hue⟩:=hu
  obtain ⟨ua,uc,rfl⟩:=hus.slice
  have HUS:=Lib.hid hus
  have HUE:=Lib.hid hue
  have HT:=Lib.hid ht
  have HK:=Lib.hid hk
  have HOW:=Lib.hid hown
  have HB2:=Lib.hid hB2
  generalize us.length=un at *
  clear a0 a1 a2 hus hue ht hk hown
  have a0:=hA2.cell 0 _ rfl
  have a1:=hA2.cell 1 _ rfl
  have a2:=hA2.cell 2 _ rfl
  unfold rpZ at hB2
  have HA2:=Lib.hid hA2
  clear hA2 hB2
  unfold rplA
  simp only
  go_upto_region 5 with (fail)
  obtain ⟨wD,hWD⟩:∃ wD,w2.alloc (.cells #[.int .i64 xn, .int .i64 xz, .int .i64 xe, .int .i64 xa, .slice ua un uc] rplT)=wD:=⟨_,rfl⟩
  rw [hWD]
  have hxD:Ext w2 wD:=by rw [← hWD];exact (Kp.refl _ _).alloc _
  have hCD:Blk wD w2.heap.size #[.int .i64 xn, .int .i64 xz, .int .i64 xe, .int .i64 xa, .slice ua un uc] rplT:=by rw [← hWD];exact heap_alloc_new w2 _
  clear a0 a1 a2 hWD
  have hAD:=HA2.out.kp hxD (fun f=>f)
  have a0:=hAD.cell 0 _ rfl
  have a1:=hAD.cell 1 _ rfl
  have a2:=hAD.cell 2 _ rfl
  obtain ⟨w3,hW3⟩:∃ w3,(wD.setCell ⟨w2.heap.size,0,none⟩ (.int .i64 num)).setCell ⟨w2.heap.size,1,none⟩ (.int .i64 z)=w3:=⟨_,rfl⟩
  have hC3:Blk w3 w2.heap.size #[.int .i64 num, .int .i64 z, .int .i64 xe, .int .i64 xa, .slice ua un uc] rplT:=by rw [← hW3];exact (hCD.set 0 _).set 1 _
  have hx3:Ext w2 w3:=by rw [← hW3];exact hxD.next (((Kp.refl (fun i=>i=w2.heap.size) _).set1 _ 0 _ rfl).set1 _ 1 _ rfl) (fun i hi e=>by omega)
  have f0:=hCD.free 0
  have f1:=hCD.free 1
  have g0:=hCD.cell 0 _ rfl
  have g1:=hCD.cell 1 _ rfl
  have HW3:=Lib.hid hW3
  clear hCD hAD hxD hW3
  go_upto_region 6 with (fail)
  rw [HW3.out]
  clear f0 f1 g0 g1
  have hB3:=HB2.out.kp hx3 (fun f=>f)
  have HX3:=Lib.hid hx3
  have HB3:=Lib.hid hB3
  unfold rpZ at hB3
  clear a0 a1 a2
  have x0:=hC3.cell 0 _ rfl
  have x1:=hC3.cell 1 _ rfl
  have x2:=hC3.cell 2 _ rfl
  have x3:=hC3.cell 3 _ rfl
  have x4:=hC3.cell 4 _ rfl
  have c0:=hB3.cell 0 _ rfl
  have c1:=hB3.cell 1 _ rfl
  have c2:=hB3.cell 2 _ rfl
  have c3:=hB3.cell 3 _ rfl
  have c4:=hB3.cell 4 _ rfl
  have fc0:=hB3.free 0
  have fc1:=hB3.free 1
  have fc2:=hB3.free 2
  have fc3:=hB3.free 3
  have fc4:=hB3.free 4
  clear hC3 hB3 hx3
  go_wp2_with (fail)
  go_light
  refine bodyPost_ret (v:=.agg #[.int .i64 num, .int .i64 z, .int .i64 xe, .int .i64 xa, .slice ua un uc]) (by simp [results,Tryz.results83,go_sem,c0,c1,c2,c3,c4]) rfl ?_
  rw [HE.out]
  have k5:=kp_set5 w3 (w.heap.size+1) (.int .i64 num) (.int .i64 z) (.int .i64 xe) (.int .i64 xa) (.slice ua un uc)
  have hsz:=HXB.out.size
  have hsz1:=HX1.out.size
  have h0s:=HH.out.ts.ex.size
  refine ⟨HBD.out, .slice ua un uc,m',t',rfl,⟨us,((HUS.out.ext HX3.out).kpT k5 (noT_blk HB3.out (by decide)) (noT_blk HB3.out (by decide))).less (by omega),HUE.out⟩,(HT.out.ext HX3.out).aside k5 (fun i hi=>by have e:i=w.heap.size+1:=hi;omega) (Other.blk HB3.out (by decide) (by decide) (by decide)), ?_,hmm.imp id (fun h=>by omega),fun i hi=>?_⟩
  ·exact ((((Ext.kp HXB.out).next HX1.out (fun i _ f=>f.elim)).trans HK.out).next HX3.out (fun i _ f=>f.elim)).next k5 (fun i hi e=>by omega)
  ·rcases HOW.out i hi with h|h
   ·exact .inl h
   ·exact .inr (by omega)
 ·have HE:Hid (requestL room L sess num z ops=(L,failRp num z0 (-1) 0)):=by show _=_;unfold requestL;rw [if_pos (by rw [hz0];exact hz),hz0]
  clear h ho hWB hxB hA hB hz0 HDO
  go_enter Tryz.func83,Tryz.ntmps83
  go_upto_region 1 with (fail)
  rw [HWB.out]
  go_wp2_with (fail)
  refine HMAY.out.mono ?_
  rintro e w1 ⟨rfl,hx1⟩
  have hA1:=HA.out.kp hx1 (fun f=>f)
  have HX1:=Lib.hid (HXB.out.trans hx1)
  have HB1:=Lib.hid (HB.out.kp hx1 (fun f=>f))
  clear hx1 a0 a1 a2
  have a0:=hA1.cell 0 _ rfl
  have a1:=hA1.cell 1 _ rfl
  have a2:=hA1.cell 2 _ rfl
  clear hA1
  go_wp2_with (fail)
  refine (repFail_any num z0 (-1) 0 _).mono ?_
  rintro e w2 ⟨u,rfl,hu,hx2⟩
  have hB2:=HB1.out.kp hx2 (fun f=>f)
  have HU:=Lib.hid hu
  have HB2:=Lib.hid hB2
  have HX2:=Lib.hid (HX1.out.trans hx2)
  obtain ⟨us,hus,_⟩:=hu
  obtain ⟨ua,uc,rfl⟩:=hus.slice
  generalize us.length=un at *
  unfold rpZ at hB2
  have c0:=hB2.cell 0 _ rfl
  have c1:=hB2.cell 1 _ rfl
  have c2:=hB2.cell 2 _ rfl
  have c3:=hB2.cell 3 _ rfl
  have c4:=hB2.cell 4 _ rfl
  have fc0:=hB2.free 0
  have fc1:=hB2.free 1
  have fc2:=hB2.free 2
  have fc3:=hB2.free 3
  have fc4:=hB2.free 4
  clear hB2 hx2 hus a0 a1 a2
  unfold rplA failRp
  simp only
  go_wp2_with (fail)
  go_light
  refine bodyPost_ret (v:=.agg #[.int .i64 num, .int .i64 0, .int .i64 z0, .int .i64 (-1), .slice ua un uc]) (by simp [results,Tryz.results83,go_sem,c0,c1,c2,c3,c4]) rfl ?_
  rw [HE.out]
  have k5:=kp_set5 w2 (w.heap.size+1) (.int .i64 num) (.int .i64 0) (.int .i64 z0) (.int .i64 (-1)) (.slice ua un uc)
  have hx5:Ext w _:=HX2.out.next k5 (fun i hi e=>by omega)
  exact ⟨failB _ _ _ _, .slice ua un uc,m,t,rfl,(HU.out.kpT k5 (noT_blk HB2.out (by decide)) (noT_blk HB2.out (by decide))).less (by have:=HX1.out.size;omega),(HH.out.ext hx5).mono (by omega),Ext.kp hx5, .inl rfl,fun i hi=>.inl hi⟩
end Go.Proofs.YtnlefnhdhigecaaGreatDoor

namespace Go.Proofs.YtnlefnhdhigecaaGreatDoor
set_option maxRecDepth 100000
open Go.RowKit Av
end Go.Proofs.YtnlefnhdhigecaaGreatDoor

namespace Go.Proofs.YtnlefnhdhigecaaGreatDoor
set_option maxRecDepth 100000
open Go.RowKit Av
theorem NmO.nms {w:World} {v:Value} {l:List Bs} (h:NmO w v l):Sl w 1 v l.length (l.map encStr):=Sl.of_owns h
end Go.Proofs.YtnlefnhdhigecaaGreatDoor

