/- Texts put together: AvSoG, AvSoH, AvSoI. -/
import Derived.Test.YtnlefnhdhigecaaGreatDoorAvG25
namespace Go.Proofs.YtnlefnhdhigecaaGreatDoor
set_option maxRecDepth 100000
open Go.RowKit Av
abbrev reqT:TypeId:=71
variable {w0 w w':World} {g K N:Nat} {B:SoB} {s:SoV}
def AskPost (w0 w:World) (g K N:Nat) (B:SoB) (X:SoV×RpV) (e:Ending) (w':World):Prop:=
 ∃ u,e=.returned (.agg (rplA X.2 u))∧RpAt w' w.heap.size u X.2∧SoPost w0 w g (K+16) B X.1 w'∧SoOk (N+1) X.1
theorem SoOk.up (h:SoOk N s):SoOk (N+1) s:=⟨h.ss.mono (Nat.le_succ N),⟨h.zx.1,by have:=h.zx.2;omega⟩,fun q=>by have:=h.ev q;omega,h.last⟩
theorem SoPost.more {L M:Nat} (h:SoPost w0 w g L B s w') (hl:L≤M):SoPost w0 w g M B s w':=by
 obtain ⟨B',h1,h2,h3⟩:=h
 exact ⟨B',h1.mono hl,h2,h3⟩
theorem SoPost.then {L:Nat} {S:Nat→Prop} {w1:World} {s':SoV} (h:SoPost w0 w g L B s' w1) (k:Kp S w1 w') (hS:∀ i,S i→w.heap.size≤i) (h1:∀ B',SoR w0 w1 g L B' s'→(∀ i,SoFr g B' i→SoFr g B i∨w.heap.size≤i)→Kp (SoFr g B) w w1→SoR w0 w' g L B' s'):SoPost w0 w g L B s' w':=by
 obtain ⟨B',h2,h3,h4⟩:=h
 exact ⟨B',h1 B' h2 h4 h3,h3.next k (fun i hi hs=>by have:=hS i hs;omega),h4⟩
theorem SoR.aside {S:Nat→Prop} {Ts:List TypeId} (h:SoR w0 w g K B s) (k:Kp S w w') (hS:Safe w0 w S Ts []) (hT:∀ T∈[soT,trT,ndT,strT,ssT,seT,wlT,arT,rsuT,evT],T∉Ts):SoR w0 w' g K B s:=
 ⟨h.blk.kp k (hS.blk h.blk (hT _ (by simp))),h.tr.safe k hS (hT _ (by simp)) (hT _ (by simp)) (hT _ (by simp)) (by simp),h.ss.safe k hS (hT _ (by simp)) (hT _ (by simp)),h.wl.safe k hS (hT _ (by simp)) (hT _ (by simp)),h.lm.safe k hS (hT _ (by simp)) (hT _ (by simp)) (by simp),h.ev.safe k hS (hT _ (by simp)) (by simp),h.ne,h.low,h.ex.next k (fun i hi hs=>by have:=hS.low i hs;omega)⟩
theorem safe_one {r:Nat} {A:Array Value} {T:TypeId} (hb:Blk w r A T) (hl:w0.heap.size≤r):Safe w0 w (fun i=>i=r) [T] []:=by
 refine ⟨fun i hs _=>?_,fun i hs=>by have e:i=r:=hs;omega⟩
 have e:i=r:=hs
 subst e
 exact .inl ⟨_,_,_,hb,by simp⟩
theorem SoPost.cell {L:Nat} {r:Nat} {A:Array Value} {w1:World} {s':SoV} (h:SoPost w0 w g L B s' w1) (hb:Blk w1 r A rplT) (hr:w.heap.size≤r) (hl:w0.heap.size≤w.heap.size) (k:Kp (fun i=>i=r) w1 w'):SoPost w0 w g L B s' w':=
 h.then k (fun i hi=>by have e:i=r:=hi;omega) (fun B' h1 _ _=>h1.aside k (safe_one hb (by omega)) (by decide))
theorem multi_len (room:Int) (L:RL) (sess z:Int) (ops:List OpV):(multiL room L sess z ops).2.1.res.length≤16∧((multiL room L sess z ops).2.1.err=0→(multiL room L sess z ops).2.1.res.length=ops.length):=by
 unfold multiL
 split
 ·exact ⟨(by show (failRp 0 2 (-1) 0).res.length≤16;decide),fun h=>absurd (show (failRp 0 2 (-1) 0).err=0 from h) (by decide)⟩
 ·split
  ·exact ⟨(by show (failRp 0 1 (-1) 0).res.length≤16;decide),fun h=>absurd (show (failRp 0 1 (-1) 0).err=0 from h) (by decide)⟩
  ·split
   ·rename_i h1 h2 h3
    refine ⟨?_,fun h=>absurd h h3⟩
    unfold failRp
    simp only
    split
    ·exact Nat.zero_le _
    ·rw [failRs_len];omega
   ·rename_i h1 h2 h3
    have h4:=runL_len room sess z L ops (Classical.not_not.1 h3)
    exact ⟨by show (runL room sess z L ops).2.1.length≤16;omega,fun _=>h4⟩
theorem request_len (room:Int) (L:RL) (sess num z:Int) (ops:List OpV):(requestL room L sess num z ops).2.res.length≤16∧((requestL room L sess num z ops).2.err=0→(requestL room L sess num z ops).2.res.length=ops.length):=by
 unfold requestL
 split
 ·rename_i h
  exact ⟨by simp [failRp,failRs],fun h2=>absurd h2 h⟩
 ·exact multi_len room L sess z ops
set_option maxHeartbeats 3200000 in
theorem soAsk_bad (h:SoR w0 w g K B s) (hok:SoOk N s) (hG:GT w0) (v:Value) (ops:List OpV) (sess num:Int) (ho:OpsAt w v ops) (hsz:OpsS ops) (hb:mayR sess num ops≠0) :
  Calls Tryz.prog 34 #[.pointer (some ⟨g,0,none⟩), .agg #[.int .i64 sess, .int .i64 num,v]] w (AskPost w0 w g K N B (askS s sess num ops)):=by
 obtain ⟨wB,hWB⟩:∃ wB,(w.alloc (.cells #[.int .i64 sess, .int .i64 num,v] reqT)).alloc (.cells rpZ rplT)=wB:=⟨_,rfl⟩
 have hxB:Ext w wB:=by rw [← hWB];exact ((Kp.refl _ _).alloc _).alloc _
 have hA:Blk wB w.heap.size #[.int .i64 sess, .int .i64 num,v] reqT:=by
  rw [← hWB]
  exact Blk.kp (heap_alloc_new w _) ((Kp.refl (fun _=>False) _).alloc _) (fun f=>f)
 have hB:Blk wB (w.heap.size+1) rpZ rplT:=by
  rw [← hWB]
  have:=heap_alloc_new (w.alloc (.cells #[.int .i64 sess, .int .i64 num,v] reqT)) (.cells rpZ rplT)
  rw [World.size_alloc] at this
  exact this
 have HMAY:=Lib.hid (may_any sess num v ops wB ((hG.ext h.ex).ext hxB) (ho.ext hxB) hsz.sz)
 have HA:=Lib.hid hA
 have HB:=Lib.hid hB
 have HXB:=Lib.hid hxB
 have HWB:=Lib.hid hWB
 have HH:=Lib.hid h
 obtain ⟨va,vc,rfl,_,_,hopn⟩:=OpsAt.open ho
 have a0:=hA.cell 0 _ rfl
 have a1:=hA.cell 1 _ rfl
 have a2:=hA.cell 2 _ rfl
 have HE:Hid (askS s sess num ops=(s,failRp num (mayR sess num ops) (-1) 0)):=by show _=_;unfold askS;rw [if_pos hb]
 have HOK:=Lib.hid hok.up
 generalize mayR sess num ops=z0 at *
 have hz:¬ z0=0:=hb
 clear h hok hG ho hsz hopn hWB hxB hA hB hb
 go_enter Tryz.func34,Tryz.ntmps34
 go_upto_region 1 with (fail)
 rw [HWB.out]
 go_wp2_with (fail)
 refine HMAY.out.mono ?_
 rintro e w1 ⟨rfl,hx1⟩
 have HX1:=Lib.hid (HXB.out.trans hx1)
 have hA1:=HA.out.kp hx1 (fun f=>f)
 have HA1:=Lib.hid hA1
 have HB1:=Lib.hid (HB.out.kp hx1 (fun f=>f))
 clear hx1 a0 a1 a2
 have a0:=hA1.cell 0 _ rfl
 have a1:=hA1.cell 1 _ rfl
 have a2:=hA1.cell 2 _ rfl
 clear hA1
 go_wp2_with (fail)
 refine (repFail_any num z0 (-1) 0 _).mono ?_
 rintro e w2 ⟨u,rfl,hu,hx2⟩
 have HBn:=Lib.hid (HB1.out.kp hx2 (fun f=>f))
 have HU:=Lib.hid hu
 have HX2:=Lib.hid (HX1.out.trans hx2)
 obtain ⟨us,hus,_⟩:=hu
 obtain ⟨ua,uc,rfl⟩:=hus.slice
 generalize us.length=un at *
 clear hx2 hus
 have hBn:=HBn.out
 unfold rpZ at hBn
 have c0:=hBn.cell 0 _ rfl
 have c1:=hBn.cell 1 _ rfl
 have c2:=hBn.cell 2 _ rfl
 have c3:=hBn.cell 3 _ rfl
 have c4:=hBn.cell 4 _ rfl
 have fc0:=hBn.free 0
 have fc1:=hBn.free 1
 have fc2:=hBn.free 2
 have fc3:=hBn.free 3
 have fc4:=hBn.free 4
 clear hBn
 unfold rplA
 simp only
 go_wp2_with (fail)
 go_light
 refine bodyPost_ret (v:=.agg #[.int .i64 (failRp num z0 (-1) 0).num, .int .i64 (failRp num z0 (-1) 0).zxid, .int .i64 (failRp num z0 (-1) 0).err, .int .i64 (failRp num z0 (-1) 0).at_, .slice ua un uc]) (by simp [results,Tryz.results34,go_sem,c0,c1,c2,c3,c4]) rfl ?_
 have k5:=kp_set5 w2 (w.heap.size+1) (.int .i64 (failRp num z0 (-1) 0).num) (.int .i64 (failRp num z0 (-1) 0).zxid) (.int .i64 (failRp num z0 (-1) 0).err) (.int .i64 (failRp num z0 (-1) 0).at_) (.slice ua un uc)
 rw [HE.out]
 exact ⟨.slice ua un uc,rfl,(HU.out.kpT k5 (noT_blk HBn.out (by decide)) (noT_blk HBn.out (by decide))).less (by have:=HX1.out.size;omega),((SoPost.refl HH.out).ext (HX2.out.next k5 (fun i hi e=>by omega))).more (by omega),HOK.out⟩
set_option maxHeartbeats 6400000 in
theorem soAsk_nosess (h:SoR w0 w g K B s) (hok:SoOk N s) (hN:N≤90000) (hG:GT w0) (v:Value) (ops:List OpV) (sess num:Int) (ho:OpsAt w v ops) (hsz:OpsS ops) (hb:mayR sess num ops=0) (hf:findS s.ss.l sess=none) :
  Calls Tryz.prog 34 #[.pointer (some ⟨g,0,none⟩), .agg #[.int .i64 sess, .int .i64 num,v]] w (AskPost w0 w g K N B (askS s sess num ops)):=by
 obtain ⟨wB,hWB⟩:∃ wB,(w.alloc (.cells #[.int .i64 sess, .int .i64 num,v] reqT)).alloc (.cells rpZ rplT)=wB:=⟨_,rfl⟩
 have hxB:Ext w wB:=by rw [← hWB];exact ((Kp.refl _ _).alloc _).alloc _
 have hA:Blk wB w.heap.size #[.int .i64 sess, .int .i64 num,v] reqT:=by
  rw [← hWB]
  exact Blk.kp (heap_alloc_new w _) ((Kp.refl (fun _=>False) _).alloc _) (fun f=>f)
 have hB:Blk wB (w.heap.size+1) rpZ rplT:=by
  rw [← hWB]
  have:=heap_alloc_new (w.alloc (.cells #[.int .i64 sess, .int .i64 num,v] reqT)) (.cells rpZ rplT)
  rw [World.size_alloc] at this
  exact this
 have HMAY:=Lib.hid (may_any sess num v ops wB ((hG.ext h.ex).ext hxB) (ho.ext hxB) hsz.sz)
 have HA:=Lib.hid hA
 have HB:=Lib.hid hB
 have HXB:=Lib.hid hxB
 have HWB:=Lib.hid hWB
 have HH:=Lib.hid h
 obtain ⟨va,vc,rfl,_,_,hopn⟩:=OpsAt.open ho
 have a0:=hA.cell 0 _ rfl
 have a1:=hA.cell 1 _ rfl
 have a2:=hA.cell 2 _ rfl
 have hT:touchS s.ss sess=(s.ss,11):=by unfold touchS;rw [hf]
 have HE:Hid (askS s sess num ops=(s,failRp num 11 (-1) ops.length)):=by show _=_;unfold askS;rw [if_neg (by rw [hb];simp),if_pos (by rw [hT];simp)]
 have HOK:=Lib.hid hok.up
 rw [hb] at HMAY
 have HTO:=Lib.hid (fun W (hW:SesR W B.sb B.sr s.ss)=>sesTouch_any N B.sb B.sr s.ss sess W hW hok.ss (by omega))
 rw [hT] at HTO
 obtain ⟨T,hTT⟩:∃ T:SsV×Int,T=(s.ss,11):=⟨_,rfl⟩
 rw [← hTT] at HTO
 have HT1:Hid (T.1=s.ss):=by show _=_;rw [hTT]
 have HT2:Hid (T.2=11):=by show _=_;rw [hTT]
 clear h hok hG ho hsz hopn hWB hxB hA hB hb hf hT hTT
 go_enter Tryz.func34,Tryz.ntmps34
 go_upto_region 1 with (fail)
 rw [HWB.out]
 go_wp2_with (fail)
 refine HMAY.out.mono ?_
 rintro e w1 ⟨rfl,hx1⟩
 have HX1:=Lib.hid (HXB.out.trans hx1)
 have hA1:=HA.out.kp hx1 (fun f=>f)
 have HA1:=Lib.hid hA1
 have HB1:=Lib.hid (HB.out.kp hx1 (fun f=>f))
 clear hx1 a0 a1 a2
 have a0:=hA1.cell 0 _ rfl
 have a1:=hA1.cell 1 _ rfl
 have a2:=hA1.cell 2 _ rfl
 clear hA1
 go_upto_region 4 with (fail)
 have hbs:B.sb<w1.heap.size∧∀ i,B.sr=some i→i<w1.heap.size:=⟨Nat.lt_of_lt_of_le HH.out.ss.lt.1 HX1.out.size,fun i hi=>Nat.lt_of_lt_of_le (HH.out.ss.lt.2 i hi) HX1.out.size⟩
 have HBS:=Lib.hid hbs
 have HAX:Hid (∀ W,Kp (fun i=>w1.heap.size≤i∨(i=B.sb∨B.sr=some i)) w1 W→Blk W w.heap.size #[.int .i64 sess, .int .i64 num, .slice va ops.length vc] reqT):=fun W hW=>HA1.out.kp hW (fun f=>by
  have h1:=HA1.out.lt
  have h2:=HH.out.ss.lt.1
  rcases f with f|f|f
  ·omega
  ·omega
  ·have:=HH.out.ss.lt.2 _ f;omega)
 have HBX:Hid (∀ W,Kp (fun i=>w1.heap.size≤i∨(i=B.sb∨B.sr=some i)) w1 W→Blk W (w.heap.size+1) rpZ rplT):=fun W hW=>HB1.out.kp hW (fun f=>by
  have h1:=HB1.out.lt
  have h2:=HH.out.ss.lt.1
  rcases f with f|f|f
  ·omega
  ·omega
  ·have:=HH.out.ss.lt.2 _ f;omega)
 have HGX:Hid (∀ W,Kp (fun i=>w1.heap.size≤i∨(i=B.sb∨B.sr=some i)) w1 W→W.cell? ⟨g,1,none⟩=some (.pointer (some ⟨B.sb,0,none⟩))):=fun W hW=>(((HH.out.ext HX1.out).blk).kp hW (fun f=>by
  rcases f with f|f
  ·have h1:=HH.out.blk.lt;have h2:=HX1.out.size;omega
  ·exact HH.out.safeS.blk HH.out.blk (by decide) f)).cell 1 _ rfl
 clear hbs
 refine' Av.X.wp_region_dagG (fun i=>i=B.sb∨B.sr=some i) 8 [(23,[900],[])] [900] ((17, .val _)::(18, .val _)::(19, .val _)::(20, .val _)::(21, .val _)::(22, .val _)::(23,⟨fun v=>v=.int .i64 T.2,fun _ w'=>∃ ro',SesR w' B.sb ro' T.1∧∀ i,ro'=some i→B.sr=some i∨w1.heap.size≤i⟩)::(24, .val _)::(900,⟨fun _=>True,fun _ w'=>SesR w' B.sb B.sr s.ss⟩)::[]) (by exact ⟨fun _ _ _ _ _=>trivial,⟨fun _ _ _ _ _=>trivial,⟨fun _ _ _ _ _=>trivial,⟨fun _ _ _ _ _=>trivial,⟨fun _ _ _ _ _=>trivial,⟨fun _ _ _ _ _=>trivial,⟨fun _ _ _ hr ⟨ro',h1,h2⟩=>⟨ro',h1.ext hr,h2⟩,⟨fun _ _ _ _ _=>trivial,⟨fun _ _ _ hr hv=>SesR.ext hv hr,trivial⟩⟩⟩⟩⟩⟩⟩⟩⟩) (by exact ⟨⟨undef,(HH.out.ext HX1.out).ss.ext (Kp.refl (fun _=>False) _).drew⟩,trivial⟩) (by kernel_rfl) (by kernel_rfl) (by kernel_rfl) ?_
 rotate_left 7
 simp only [List.take_succ_cons,List.take_zero]
 repeat (first
  | (refine Av.X.wpD_skipv ?_ ?_ ?_
     focus rfl
     focus rfl
     simp only [Act.put,List.setIfInBounds_toArray,List.set_cons_succ,List.set_cons_zero])
  | (refine' Av.X.wpD_val (c:=_) ?_ (fun w=>Kp.refl _ w) ?_ (fun wq hwq hfz=>?_) ?_
     rotate_left
     focus rfl
     focus rfl
     focus (have hfq:=hfz.at_;have hcq:=hfz.use;(have ha:=HAX.out _ hwq;have e0:=ha.cell 0 _ rfl;have c1:=HGX.out _ hwq;clear ha);go_simp;first|done|rfl)
     simp only [Act.put,List.setIfInBounds_toArray,List.set_cons_succ,List.set_cons_zero])
  | (refine' Av.X.wpD_con (c:=_) ?_ ?_ (fun wq hwq hfz=>?_) ?_
     rotate_left
     focus rfl
     focus rfl
     focus (have hfq:=hfz.at_;have hcq:=hfz.use;(have ha:=HAX.out _ hwq;have e0:=ha.cell 0 _ rfl;have c1:=HGX.out _ hwq;clear ha);go_simp;(try (rw [dUpon_enter]));fail)
     simp only [Act.put,List.setIfInBounds_toArray,List.set_cons_succ,List.set_cons_zero])
  | (refine Av.X.wpD_used (A:=fun v=>v=.int .i64 T.2) (V:=fun _ w'=>∃ ro',SesR w' B.sb ro' T.1∧∀ i,ro'=some i→B.sr=some i∨w1.heap.size≤i) 23 ?_ ?_ ?_ ?_ (fun wq hwq hfz=>?_) (fun v23 h23=>?_)
     focus rfl
     focus rfl
     focus (exact ⟨_,rfl⟩)
     focus rfl
     focus (have hfq:=hfz.at_;have hcq:=hfz.use;(have ha:=HAX.out _ hwq;have e0:=ha.cell 0 _ rfl;have c1:=HGX.out _ hwq;clear ha);go_simp;(try (rw [dUpon_enter]));have h900:SesR wq B.sb B.sr s.ss:=(hcq 900 rfl).elim (fun _ h=>h);(with_reducible refine (HTO.out _ h900).mono ?_);rintro e w' ⟨rfl,⟨ro',h1,h2⟩,hk⟩;refine ⟨_,rfl,rfl,⟨ro',h1,fun i hi=>(h2 i hi).imp id (fun h=>Nat.le_trans hwq.size h)⟩,hk.mono (fun i _ e=>.inr e), ?_⟩;repeat (first|exact PresL.nil|(with_reducible refine PresL.val ?_)|(refine PresL.out rfl ?_)))
     subst h23
     simp only [Act.put,List.setIfInBounds_toArray,List.set_cons_succ,List.set_cons_zero])
  | fail)
 refine Av.X.wpD_nil ?_
 intro w2 hr2 hend
 refine wpList_nil ?_
 have hs2:∃ ro',SesR w2 B.sb ro' T.1∧∀ i,ro'=some i→B.sr=some i∨w1.heap.size≤i:=hend 23 (by kernel_rfl)
 clear hend
 have hk2:Kp (fun i=>i=B.sb∨B.sr=some i) w1 w2:=hr2.mono (fun i hi e=>by
  rcases e with e|e
  ·omega
  ·exact e)
 have HP2:=Lib.hid (SoPost.before HX1.out ((HH.out.ext HX1.out).sess hk2 hs2))
 have HK2:=Lib.hid hk2
 have hA2:=HAX.out _ hr2
 have HA2:=Lib.hid hA2
 have HB2:=Lib.hid (HBX.out _ hr2)
 clear hs2 hk2 hr2 a0 a1 a2 HAX HBX HGX HTO HBS
 have a0:=hA2.cell 0 _ rfl
 have a1:=hA2.cell 1 _ rfl
 have a2:=hA2.cell 2 _ rfl
 clear hA2
 rw [HT2.out]
 have HP:=HP2.out
 rw [HT1.out] at HP
 have HPP:Hid (SoPost w0 w g K B s w2):=HP
 clear HP HP2
 go_wp2_with (fail)
 refine (repFail_any num 11 (-1) ops.length _).mono ?_
 rintro e w3 ⟨u,rfl,hu,hx3⟩
 have HBn:=Lib.hid (HB2.out.kp hx3 (fun f=>f))
 have HU:=Lib.hid hu
 have HX3:=Lib.hid hx3
 obtain ⟨us,hus,_⟩:=hu
 obtain ⟨ua,uc,rfl⟩:=hus.slice
 generalize us.length=un at *
 clear hx3 hus
 have hBn:=HBn.out
 unfold rpZ at hBn
 have c0:=hBn.cell 0 _ rfl
 have c1:=hBn.cell 1 _ rfl
 have c2:=hBn.cell 2 _ rfl
 have c3:=hBn.cell 3 _ rfl
 have c4:=hBn.cell 4 _ rfl
 have fc0:=hBn.free 0
 have fc1:=hBn.free 1
 have fc2:=hBn.free 2
 have fc3:=hBn.free 3
 have fc4:=hBn.free 4
 clear hBn
 unfold rplA
 simp only
 go_wp2_with (fail)
 go_light
 refine bodyPost_ret (v:=.agg #[.int .i64 (failRp num 11 (-1) ops.length).num, .int .i64 (failRp num 11 (-1) ops.length).zxid, .int .i64 (failRp num 11 (-1) ops.length).err, .int .i64 (failRp num 11 (-1) ops.length).at_, .slice ua un uc]) (by simp [results,Tryz.results34,go_sem,c0,c1,c2,c3,c4]) rfl ?_
 have k5:=kp_set5 w3 (w.heap.size+1) (.int .i64 (failRp num 11 (-1) ops.length).num) (.int .i64 (failRp num 11 (-1) ops.length).zxid) (.int .i64 (failRp num 11 (-1) ops.length).err) (.int .i64 (failRp num 11 (-1) ops.length).at_) (.slice ua un uc)
 rw [HE.out]
 have hs1:=HX1.out.size
 have hs2:=HK2.out.size
 exact ⟨.slice ua un uc,rfl,(HU.out.kpT k5 (noT_blk HBn.out (by decide)) (noT_blk HBn.out (by decide))).less (by omega),((HPP.out.ext HX3.out).cell HBn.out (by omega) HH.out.ex.size k5).more (by omega),HOK.out⟩
end Go.Proofs.YtnlefnhdhigecaaGreatDoor

namespace Go.Proofs.YtnlefnhdhigecaaGreatDoor
set_option maxRecDepth 100000
open Go.RowKit Av
theorem tLast:Tryz.prog.underlying 138=some (.map 2 rplT):=Tryz.underlying138
theorem zLast (w:World):(zeroValue rplT).run Tryz.prog w=.ok (.agg rpZ) w:=Tryz.zeroValue67 w
variable {w0 w w':World} {g K N:Nat} {B:SoB} {s:SoV}
theorem last_some {M:List (Int×Value)} {lm:Nat} {l:List (Int×RpV)} (h:LastR w lm M l) {q:Int} {r:RpV} (hq:mget l q=some r):∃ u,mget M q=some (.agg (rplA r u))∧RpAt w 0 u r:=by
 have:=h.get q
 rw [hq] at this
 exact this
theorem last_look (h:LastR w B.lm B.M s.last) {q:Int} {x:Value} (hx:mget B.M q=some x):(Instr.lookup 138 (.map (some B.lm)) (.int .i64 q) true).run Tryz.prog w=.ok (.tuple #[x, .bool true]) w:=by
 have:=MapK.lookup kI64 tLast h.map (.agg rpZ) zLast q true
 rw [hx] at this
 exact this
theorem last_lookN (h:LastR w B.lm B.M s.last) {q:Int} (hx:mget B.M q=none):(Instr.lookup 138 (.map (some B.lm)) (.int .i64 q) true).run Tryz.prog w=.ok (.tuple #[.agg rpZ, .bool false]) w:=by
 have:=MapK.lookup kI64 tLast h.map (.agg rpZ) zLast q true
 rw [hx] at this
 exact this
set_option maxHeartbeats 6400000 in
theorem soAsk_again (h:SoR w0 w g K B s) (hok:SoOk N s) (hN:N≤90000) (hG:GT w0) (v:Value) (ops:List OpV) (sess num:Int) (ho:OpsAt w v ops) (hsz:OpsS ops) (hb:mayR sess num ops=0) (hf:(touchS s.ss sess).2=0) (r:RpV) (hl:mget s.last sess=some r) (hn:num=r.num) :
  Calls Tryz.prog 34 #[.pointer (some ⟨g,0,none⟩), .agg #[.int .i64 sess, .int .i64 num,v]] w (AskPost w0 w g K N B (askS s sess num ops)):=by
 obtain ⟨wB,hWB⟩:∃ wB,(w.alloc (.cells #[.int .i64 sess, .int .i64 num,v] reqT)).alloc (.cells rpZ rplT)=wB:=⟨_,rfl⟩
 have hxB:Ext w wB:=by rw [← hWB];exact ((Kp.refl _ _).alloc _).alloc _
 have hA:Blk wB w.heap.size #[.int .i64 sess, .int .i64 num,v] reqT:=by
  rw [← hWB]
  exact Blk.kp (heap_alloc_new w _) ((Kp.refl (fun _=>False) _).alloc _) (fun f=>f)
 have hB:Blk wB (w.heap.size+1) rpZ rplT:=by
  rw [← hWB]
  have:=heap_alloc_new (w.alloc (.cells #[.int .i64 sess, .int .i64 num,v] reqT)) (.cells rpZ rplT)
  rw [World.size_alloc] at this
  exact this
 have HMAY:=Lib.hid (may_any sess num v ops wB ((hG.ext h.ex).ext hxB) (ho.ext hxB) hsz.sz)
 have HA:=Lib.hid hA
 have HB:=Lib.hid hB
 have HXB:=Lib.hid hxB
 have HWB:=Lib.hid hWB
 have HH:=Lib.hid h
 obtain ⟨va,vc,rfl,_,_,hopn⟩:=OpsAt.open ho
 have a0:=hA.cell 0 _ rfl
 have a1:=hA.cell 1 _ rfl
 have a2:=hA.cell 2 _ rfl
 have HE:Hid (askS s sess num ops=({ s with ss:=(touchS s.ss sess).1 },r)):=by show _=_;unfold askS;rw [if_neg (by rw [hb];simp),if_neg (by rw [hf];simp),hl];simp only [if_pos hn]
 have HOK:Hid (SoOk (N+1) { s with ss:=(touchS s.ss sess).1 }):=(SoOk.up ⟨hok.ss.touch sess,hok.zx,hok.ev,hok.last⟩:SoOk (N+1) { s with ss:=(touchS s.ss sess).1 })
 have HRB:=Lib.hid (hok.last _ _ hl)
 rw [hb] at HMAY
 have HTO:=Lib.hid (fun W (hW:SesR W B.sb B.sr s.ss)=>sesTouch_any N B.sb B.sr s.ss sess W hW hok.ss (by omega))
 have HLAST:=Lib.hid hl
 generalize touchS s.ss sess=T at *
 have HT2:=Lib.hid hf
 obtain ⟨rn,rz,re,ra,rr⟩:=r
 simp only at hn
 subst hn
 clear h hok hG ho hsz hopn hWB hxB hA hB hb hf hl
 go_enter Tryz.func34,Tryz.ntmps34
 go_upto_region 1 with (fail)
 rw [HWB.out]
 go_wp2_with (fail)
 refine HMAY.out.mono ?_
 rintro e w1 ⟨rfl,hx1⟩
 have HX1:=Lib.hid (HXB.out.trans hx1)
 have hA1:=HA.out.kp hx1 (fun f=>f)
 have HA1:=Lib.hid hA1
 have HB1:=Lib.hid (HB.out.kp hx1 (fun f=>f))
 clear hx1 a0 a1 a2
 have a0:=hA1.cell 0 _ rfl
 have a1:=hA1.cell 1 _ rfl
 have a2:=hA1.cell 2 _ rfl
 clear hA1
 go_upto_region 4 with (fail)
 have hbs:B.sb<w1.heap.size∧∀ i,B.sr=some i→i<w1.heap.size:=⟨Nat.lt_of_lt_of_le HH.out.ss.lt.1 HX1.out.size,fun i hi=>Nat.lt_of_lt_of_le (HH.out.ss.lt.2 i hi) HX1.out.size⟩
 have HBS:=Lib.hid hbs
 have HAX:Hid (∀ W,Kp (fun i=>w1.heap.size≤i∨(i=B.sb∨B.sr=some i)) w1 W→Blk W w.heap.size #[.int .i64 sess, .int .i64 num, .slice va ops.length vc] reqT):=fun W hW=>HA1.out.kp hW (fun f=>by
  have h1:=HA1.out.lt
  have h2:=HH.out.ss.lt.1
  rcases f with f|f|f
  ·omega
  ·omega
  ·have:=HH.out.ss.lt.2 _ f;omega)
 have HBX:Hid (∀ W,Kp (fun i=>w1.heap.size≤i∨(i=B.sb∨B.sr=some i)) w1 W→Blk W (w.heap.size+1) rpZ rplT):=fun W hW=>HB1.out.kp hW (fun f=>by
  have h1:=HB1.out.lt
  have h2:=HH.out.ss.lt.1
  rcases f with f|f|f
  ·omega
  ·omega
  ·have:=HH.out.ss.lt.2 _ f;omega)
 have HGX:Hid (∀ W,Kp (fun i=>w1.heap.size≤i∨(i=B.sb∨B.sr=some i)) w1 W→W.cell? ⟨g,1,none⟩=some (.pointer (some ⟨B.sb,0,none⟩))):=fun W hW=>(((HH.out.ext HX1.out).blk).kp hW (fun f=>by
  rcases f with f|f
  ·have h1:=HH.out.blk.lt;have h2:=HX1.out.size;omega
  ·exact HH.out.safeS.blk HH.out.blk (by decide) f)).cell 1 _ rfl
 clear hbs
 refine' Av.X.wp_region_dagG (fun i=>i=B.sb∨B.sr=some i) 8 [(23,[900],[])] [900] ((17, .val _)::(18, .val _)::(19, .val _)::(20, .val _)::(21, .val _)::(22, .val _)::(23,⟨fun v=>v=.int .i64 T.2,fun _ w'=>∃ ro',SesR w' B.sb ro' T.1∧∀ i,ro'=some i→B.sr=some i∨w1.heap.size≤i⟩)::(24, .val _)::(900,⟨fun _=>True,fun _ w'=>SesR w' B.sb B.sr s.ss⟩)::[]) (by exact ⟨fun _ _ _ _ _=>trivial,⟨fun _ _ _ _ _=>trivial,⟨fun _ _ _ _ _=>trivial,⟨fun _ _ _ _ _=>trivial,⟨fun _ _ _ _ _=>trivial,⟨fun _ _ _ _ _=>trivial,⟨fun _ _ _ hr ⟨ro',h1,h2⟩=>⟨ro',h1.ext hr,h2⟩,⟨fun _ _ _ _ _=>trivial,⟨fun _ _ _ hr hv=>SesR.ext hv hr,trivial⟩⟩⟩⟩⟩⟩⟩⟩⟩) (by exact ⟨⟨undef,(HH.out.ext HX1.out).ss.ext (Kp.refl (fun _=>False) _).drew⟩,trivial⟩) (by kernel_rfl) (by kernel_rfl) (by kernel_rfl) ?_
 rotate_left 7
 simp only [List.take_succ_cons,List.take_zero]
 repeat (first
  | (refine Av.X.wpD_skipv ?_ ?_ ?_
     focus rfl
     focus rfl
     simp only [Act.put,List.setIfInBounds_toArray,List.set_cons_succ,List.set_cons_zero])
  | (refine' Av.X.wpD_val (c:=_) ?_ (fun w=>Kp.refl _ w) ?_ (fun wq hwq hfz=>?_) ?_
     rotate_left
     focus rfl
     focus rfl
     focus (have hfq:=hfz.at_;have hcq:=hfz.use;(have ha:=HAX.out _ hwq;have e0:=ha.cell 0 _ rfl;have c1:=HGX.out _ hwq;clear ha);go_simp;first|done|rfl)
     simp only [Act.put,List.setIfInBounds_toArray,List.set_cons_succ,List.set_cons_zero])
  | (refine' Av.X.wpD_con (c:=_) ?_ ?_ (fun wq hwq hfz=>?_) ?_
     rotate_left
     focus rfl
     focus rfl
     focus (have hfq:=hfz.at_;have hcq:=hfz.use;(have ha:=HAX.out _ hwq;have e0:=ha.cell 0 _ rfl;have c1:=HGX.out _ hwq;clear ha);go_simp;(try (rw [dUpon_enter]));fail)
     simp only [Act.put,List.setIfInBounds_toArray,List.set_cons_succ,List.set_cons_zero])
  | (refine Av.X.wpD_used (A:=fun v=>v=.int .i64 T.2) (V:=fun _ w'=>∃ ro',SesR w' B.sb ro' T.1∧∀ i,ro'=some i→B.sr=some i∨w1.heap.size≤i) 23 ?_ ?_ ?_ ?_ (fun wq hwq hfz=>?_) (fun v23 h23=>?_)
     focus rfl
     focus rfl
     focus (exact ⟨_,rfl⟩)
     focus rfl
     focus (have hfq:=hfz.at_;have hcq:=hfz.use;(have ha:=HAX.out _ hwq;have e0:=ha.cell 0 _ rfl;have c1:=HGX.out _ hwq;clear ha);go_simp;(try (rw [dUpon_enter]));have h900:SesR wq B.sb B.sr s.ss:=(hcq 900 rfl).elim (fun _ h=>h);(with_reducible refine (HTO.out _ h900).mono ?_);rintro e w' ⟨rfl,⟨ro',h1,h2⟩,hk⟩;refine ⟨_,rfl,rfl,⟨ro',h1,fun i hi=>(h2 i hi).imp id (fun h=>Nat.le_trans hwq.size h)⟩,hk.mono (fun i _ e=>.inr e), ?_⟩;repeat (first|exact PresL.nil|(with_reducible refine PresL.val ?_)|(refine PresL.out rfl ?_)))
     subst h23
     simp only [Act.put,List.setIfInBounds_toArray,List.set_cons_succ,List.set_cons_zero])
  | fail)
 refine Av.X.wpD_nil ?_
 intro w2 hr2 hend
 refine wpList_nil ?_
 have hs2:∃ ro',SesR w2 B.sb ro' T.1∧∀ i,ro'=some i→B.sr=some i∨w1.heap.size≤i:=hend 23 (by kernel_rfl)
 clear hend
 have hk2:Kp (fun i=>i=B.sb∨B.sr=some i) w1 w2:=hr2.mono (fun i hi e=>by
  rcases e with e|e
  ·omega
  ·exact e)
 have HP2:=Lib.hid (SoPost.before HX1.out ((HH.out.ext HX1.out).sess hk2 hs2))
 have HK2:=Lib.hid hk2
 have hA2:=HAX.out _ hr2
 have HA2:=Lib.hid hA2
 have HB2:=Lib.hid (HBX.out _ hr2)
 clear hs2 hk2 hr2 a0 a1 a2 HAX HBX HGX HTO HBS
 have a0:=hA2.cell 0 _ rfl
 have a1:=hA2.cell 1 _ rfl
 have a2:=hA2.cell 2 _ rfl
 clear hA2
 rw [HT2.out]
 go_wp2_with (fail)
 obtain ⟨B2,hS2,hkf2,hof2⟩:=HP2.out
 obtain ⟨lu0,hlu,hlr⟩:=last_some hS2.lm HLAST.out
 have hlr2:=hlr
 obtain ⟨lxs,hlx,_⟩:=hlr2
 obtain ⟨la,lc,rfl⟩:=hlx.slice
 generalize lxs.length=ln at *
 have HLR:=Lib.hid hlr
 have HLK:Hid (∀ W,Ext w2 W→(Instr.lookup 138 (.map (some B2.lm)) (.int .i64 sess) true).run Tryz.prog W=.ok (.tuple #[.agg (rplA ⟨num,rz,re,ra,rr⟩ (.slice la ln lc)), .bool true]) W):=fun W hW=>last_look (hS2.ext hW).lm hlu
 clear hlr hlx hlu
 have HS2:=Lib.hid hS2
 have HKF:=Lib.hid hkf2
 have HOF:=Lib.hid hof2
 have hg2:=HS2.out.blk
 have HG2:=Lib.hid hg2
 have HBS2:Hid (w.heap.size+1<w2.heap.size):=HB2.out.lt
 clear hS2 hkf2 hof2 hg2 HP2
 unfold rplA at HLK
 go_upto_region 6 with (fail)
 refine' Av.X.wp_region_dagE (fun _=>False) 13 [(6,[900],[]),(9999,[6],[900])] [900] ((32, .val _)::(33, .val _)::(34, .val _)::(35, .val _)::(36, .val _)::(37, .val _)::(38, .val _)::(31, .val _)::(39, .val _)::(40, .val _)::(6,⟨fun v=>v=.pointer (some ⟨w2.heap.size,0,none⟩),fun _ w'=>Blk w' w2.heap.size rpZ rplT⟩)::(7, .val _)::(900,⟨fun _=>True,fun _ w'=>w'.heap.size=w2.heap.size⟩)::(9999,⟨fun _=>True,fun _ w'=>Blk w' w2.heap.size (rplA ⟨num,rz,re,ra,rr⟩ (.slice la ln lc)) rplT⟩)::[]) (by exact ⟨⟨undef,rfl⟩,trivial⟩) (by kernel_rfl) (by kernel_rfl) (by kernel_rfl) ?_
 rotate_left 11
 simp only [List.take_succ_cons,List.take_zero]
 repeat (first
  | (refine Av.X.wpD_skipv ?_ ?_ ?_
     focus rfl
     focus rfl
     simp only [Act.put,List.setIfInBounds_toArray,List.set_cons_succ,List.set_cons_zero])
  | (refine' Av.X.wpD_val (c:=_) ?_ (fun w=>Kp.refl _ w) ?_ (fun wq hwq hfz=>?_) ?_
     rotate_left
     focus rfl
     focus rfl
     focus (have hfq:=hfz.at_;have hcq:=hfz.use;(have hxq:Ext w2 wq:=hwq.mono (fun i hi e=>e.elim (fun h=>by omega) id);have hlk:=HLK.out _ hxq;have c4:=(HG2.out.kp hxq (fun f=>f)).cell 4 _ rfl;have a0:=(HA2.out.kp hxq (fun f=>f)).cell 0 _ rfl);go_simp;first|done|rfl)
     simp only [Act.put,List.setIfInBounds_toArray,List.set_cons_succ,List.set_cons_zero])
  | (refine' Av.X.wpD_con (c:=_) ?_ ?_ (fun wq hwq hfz=>?_) ?_
     rotate_left
     focus rfl
     focus rfl
     focus (have hfq:=hfz.at_;have hcq:=hfz.use;(have hxq:Ext w2 wq:=hwq.mono (fun i hi e=>e.elim (fun h=>by omega) id);have hlk:=HLK.out _ hxq;have c4:=(HG2.out.kp hxq (fun f=>f)).cell 4 _ rfl;have a0:=(HA2.out.kp hxq (fun f=>f)).cell 0 _ rfl);go_simp;(try (rw [dUpon_enter]));fail)
     simp only [Act.put,List.setIfInBounds_toArray,List.set_cons_succ,List.set_cons_zero])
  | (refine Av.X.wpD_used (A:=fun v=>v=.pointer (some ⟨w2.heap.size,0,none⟩)) (V:=fun _ w'=>Blk w' w2.heap.size rpZ rplT) 6 ?_ ?_ ?_ ?_ (fun wq hwq hfz=>?_) (fun v6 h6=>?_)
     focus rfl
     focus rfl
     focus (exact ⟨_,rfl⟩)
     focus rfl
     focus (have hfq:=hfz.at_;have hcq:=hfz.use;(have hxq:Ext w2 wq:=hwq.mono (fun i hi e=>e.elim (fun h=>by omega) id);have hlk:=HLK.out _ hxq;have c4:=(HG2.out.kp hxq (fun f=>f)).cell 4 _ rfl;have a0:=(HA2.out.kp hxq (fun f=>f)).cell 0 _ rfl);go_simp;(try (rw [dUpon_enter]));have h900:wq.heap.size=w2.heap.size:=(hcq 900 rfl).elim (fun _ h=>h);rw [dUpon_value];refine ⟨by rw [h900],by rw [← h900];exact heap_alloc_new wq _,(Kp.refl _ _).alloc _, ?_⟩;repeat (first|exact PresL.nil|(with_reducible refine PresL.val ?_)|(refine PresL.out rfl ?_)|(refine PresL.keep (fun u hu=>Blk.kp hu ((Kp.refl (fun _=>False) _).alloc _) (fun f=>f)) ?_)))
     subst h6
     simp only [Act.put,List.setIfInBounds_toArray,List.set_cons_succ,List.set_cons_zero])
  | (refine Av.X.wpD_put rfl ?_ (fun wq hwq hfz=>?_) ?_
     focus rfl
     focus (have hfq:=hfz.at_;have hcq:=hfz.use;(have hxq:Ext w2 wq:=hwq.mono (fun i hi e=>e.elim (fun h=>by omega) id);have hlk:=HLK.out _ hxq;have c4:=(HG2.out.kp hxq (fun f=>f)).cell 4 _ rfl;have a0:=(HA2.out.kp hxq (fun f=>f)).cell 0 _ rfl);have h6:Blk wq w2.heap.size rpZ rplT:=(hcq 6 rfl).elim (fun _ h=>h);unfold rpZ at h6;have z0:=h6.cell 0 _ rfl;have z1:=h6.cell 1 _ rfl;have z2:=h6.cell 2 _ rfl;have z3:=h6.cell 3 _ rfl;have z4:=h6.cell 4 _ rfl;have f0:=h6.free 0;have f1:=h6.free 1;have f2:=h6.free 2;have f3:=h6.free 3;have f4:=h6.free 4;go_simp;rw [dUpon_skip];refine ⟨(kp_set5 _ _ _ _ _ _ _).mono (fun i _ e=>by have e2:i=w2.heap.size:=e;first|omega|exact Or.inl (by omega)),((((h6.set 0 _).set 1 _).set 2 _).set 3 _).set 4 _, ?_⟩;repeat (first|exact PresL.nil|(with_reducible refine PresL.val ?_)|(refine PresL.out rfl ?_)|(refine PresL.keep (fun u hu=>((((h6.set 0 _).set 1 _).set 2 _).set 3 _).set 4 _) ?_))))
  | fail)
 refine Av.X.wpD_nil ?_
 intro w3 hr3 hend hput
 refine wpList_nil ?_
 have hL3:Blk w3 w2.heap.size (rplA ⟨num,rz,re,ra,rr⟩ (.slice la ln lc)) rplT:=hput (by kernel_rfl)
 clear hend hput
 have hx3:Ext w2 w3:=hr3.mono (fun i hi e=>e.elim (fun h=>by omega) id)
 have HL3:=Lib.hid hL3
 have HX3:=Lib.hid hx3
 have hA3:=HA2.out.kp hx3 (fun f=>f)
 have HA3:=Lib.hid hA3
 have HB3:=Lib.hid (HB2.out.kp hx3 (fun f=>f))
 have HS3:=Lib.hid (HS2.out.ext hx3)
 unfold rplA at hL3
 clear a0 a1 a2 hr3 hx3 HLK
 have a0:=hA3.cell 0 _ rfl
 have a1:=hA3.cell 1 _ rfl
 have a2:=hA3.cell 2 _ rfl
 have l0:=hL3.cell 0 _ rfl
 have l1:=hL3.cell 1 _ rfl
 have l2:=hL3.cell 2 _ rfl
 have l3:=hL3.cell 3 _ rfl
 have l4:=hL3.cell 4 _ rfl
 clear hA3 hL3
 go_wp2_with (fail)
 refine (copied_any 0 (.slice la ln lc) ⟨num,rz,re,ra,rr⟩ w3 (HLR.out.ext HX3.out) (Nat.le_trans HRB.out.1 (by decide)) HRB.out.2).mono ?_
 rintro e w4 ⟨u,rfl,hu,hx4⟩
 have HBn:=Lib.hid (HB3.out.kp hx4 (fun f=>f))
 have HU:=Lib.hid hu
 have HX4:=Lib.hid hx4
 obtain ⟨us,hus,_⟩:=hu
 obtain ⟨ua,uc,rfl⟩:=hus.slice
 generalize us.length=un at *
 clear hx4 hus l0 l1 l2 l3 l4 a0 a1 a2
 have hBn:=HBn.out
 unfold rpZ at hBn
 have c0:=hBn.cell 0 _ rfl
 have c1:=hBn.cell 1 _ rfl
 have c2:=hBn.cell 2 _ rfl
 have c3:=hBn.cell 3 _ rfl
 have c4:=hBn.cell 4 _ rfl
 have fc0:=hBn.free 0
 have fc1:=hBn.free 1
 have fc2:=hBn.free 2
 have fc3:=hBn.free 3
 have fc4:=hBn.free 4
 clear hBn
 unfold rplA
 simp only
 go_wp2_with (fail)
 go_light
 refine bodyPost_ret (v:=.agg #[.int .i64 (⟨num,rz,re,ra,rr⟩:RpV).num, .int .i64 (⟨num,rz,re,ra,rr⟩:RpV).zxid, .int .i64 (⟨num,rz,re,ra,rr⟩:RpV).err, .int .i64 (⟨num,rz,re,ra,rr⟩:RpV).at_, .slice ua un uc]) (by simp [results,Tryz.results34,go_sem,c0,c1,c2,c3,c4]) rfl ?_
 have k5:=kp_set5 w4 (w.heap.size+1) (.int .i64 (⟨num,rz,re,ra,rr⟩:RpV).num) (.int .i64 (⟨num,rz,re,ra,rr⟩:RpV).zxid) (.int .i64 (⟨num,rz,re,ra,rr⟩:RpV).err) (.int .i64 (⟨num,rz,re,ra,rr⟩:RpV).at_) (.slice ua un uc)
 rw [HE.out]
 have hs1:=HX1.out.size
 have hs2:=HBS2.out
 have hs3:=HX3.out.size
 have hP4:SoPost w0 w g K B { s with ss:=T.1 } w4:=⟨B2,HS3.out.ext HX4.out,(HKF.out.next HX3.out (fun _ _ f=>f.elim)).next HX4.out (fun _ _ f=>f.elim),HOF.out⟩
 exact ⟨.slice ua un uc,rfl,(HU.out.kpT k5 (noT_blk HBn.out (by decide)) (noT_blk HBn.out (by decide))).less (by omega),(hP4.cell HBn.out (by omega) HH.out.ex.size k5).more (by omega),HOK.out⟩
end Go.Proofs.YtnlefnhdhigecaaGreatDoor

namespace Go.Proofs.YtnlefnhdhigecaaGreatDoor
set_option maxRecDepth 100000
open Go.RowKit Av
variable {w0 w w':World} {g K N:Nat} {B:SoB} {s:SoV}
set_option maxHeartbeats 6400000 in
theorem soAsk_old (h:SoR w0 w g K B s) (hok:SoOk N s) (hN:N≤90000) (hG:GT w0) (v:Value) (ops:List OpV) (sess num:Int) (ho:OpsAt w v ops) (hsz:OpsS ops) (hb:mayR sess num ops=0) (hf:(touchS s.ss sess).2=0) (r:RpV) (hl:mget s.last sess=some r) (hn:num<r.num) :
  Calls Tryz.prog 34 #[.pointer (some ⟨g,0,none⟩), .agg #[.int .i64 sess, .int .i64 num,v]] w (AskPost w0 w g K N B (askS s sess num ops)):=by
 obtain ⟨wB,hWB⟩:∃ wB,(w.alloc (.cells #[.int .i64 sess, .int .i64 num,v] reqT)).alloc (.cells rpZ rplT)=wB:=⟨_,rfl⟩
 have hxB:Ext w wB:=by rw [← hWB];exact ((Kp.refl _ _).alloc _).alloc _
 have hA:Blk wB w.heap.size #[.int .i64 sess, .int .i64 num,v] reqT:=by
  rw [← hWB]
  exact Blk.kp (heap_alloc_new w _) ((Kp.refl (fun _=>False) _).alloc _) (fun f=>f)
 have hB:Blk wB (w.heap.size+1) rpZ rplT:=by
  rw [← hWB]
  have:=heap_alloc_new (w.alloc (.cells #[.int .i64 sess, .int .i64 num,v] reqT)) (.cells rpZ rplT)
  rw [World.size_alloc] at this
  exact this
 have HMAY:=Lib.hid (may_any sess num v ops wB ((hG.ext h.ex).ext hxB) (ho.ext hxB) hsz.sz)
 have HA:=Lib.hid hA
 have HB:=Lib.hid hB
 have HXB:=Lib.hid hxB
 have HWB:=Lib.hid hWB
 have HH:=Lib.hid h
 obtain ⟨va,vc,rfl,_,_,hopn⟩:=OpsAt.open ho
 have a0:=hA.cell 0 _ rfl
 have a1:=hA.cell 1 _ rfl
 have a2:=hA.cell 2 _ rfl
 have HE:Hid (askS s sess num ops=({ s with ss:=(touchS s.ss sess).1 },failRp num 1 (-1) ops.length)):=by show _=_;unfold askS;rw [if_neg (by rw [hb];simp),if_neg (by rw [hf];simp),hl];simp only [if_neg (show ¬ num=r.num by omega),if_pos hn]
 have HOK:Hid (SoOk (N+1) { s with ss:=(touchS s.ss sess).1 }):=(SoOk.up ⟨hok.ss.touch sess,hok.zx,hok.ev,hok.last⟩:SoOk (N+1) { s with ss:=(touchS s.ss sess).1 })
 rw [hb] at HMAY
 have HTO:=Lib.hid (fun W (hW:SesR W B.sb B.sr s.ss)=>sesTouch_any N B.sb B.sr s.ss sess W hW hok.ss (by omega))
 have HLAST:=Lib.hid hl
 generalize touchS s.ss sess=T at *
 have HT2:=Lib.hid hf
 obtain ⟨rn,rz,re,ra,rr⟩:=r
 simp only at hn
 have hne:(num == rn)=false:=beq_eq_false_iff_ne.2 (by omega)
 clear h hok hG ho hsz hopn hWB hxB hA hB hb hf hl
 go_enter Tryz.func34,Tryz.ntmps34
 go_upto_region 1 with (fail)
 rw [HWB.out]
 go_wp2_with (fail)
 refine HMAY.out.mono ?_
 rintro e w1 ⟨rfl,hx1⟩
 have HX1:=Lib.hid (HXB.out.trans hx1)
 have hA1:=HA.out.kp hx1 (fun f=>f)
 have HA1:=Lib.hid hA1
 have HB1:=Lib.hid (HB.out.kp hx1 (fun f=>f))
 clear hx1 a0 a1 a2
 have a0:=hA1.cell 0 _ rfl
 have a1:=hA1.cell 1 _ rfl
 have a2:=hA1.cell 2 _ rfl
 clear hA1
 go_upto_region 4 with (fail)
 have hbs:B.sb<w1.heap.size∧∀ i,B.sr=some i→i<w1.heap.size:=⟨Nat.lt_of_lt_of_le HH.out.ss.lt.1 HX1.out.size,fun i hi=>Nat.lt_of_lt_of_le (HH.out.ss.lt.2 i hi) HX1.out.size⟩
 have HBS:=Lib.hid hbs
 have HAX:Hid (∀ W,Kp (fun i=>w1.heap.size≤i∨(i=B.sb∨B.sr=some i)) w1 W→Blk W w.heap.size #[.int .i64 sess, .int .i64 num, .slice va ops.length vc] reqT):=fun W hW=>HA1.out.kp hW (fun f=>by
  have h1:=HA1.out.lt
  have h2:=HH.out.ss.lt.1
  rcases f with f|f|f
  ·omega
  ·omega
  ·have:=HH.out.ss.lt.2 _ f;omega)
 have HBX:Hid (∀ W,Kp (fun i=>w1.heap.size≤i∨(i=B.sb∨B.sr=some i)) w1 W→Blk W (w.heap.size+1) rpZ rplT):=fun W hW=>HB1.out.kp hW (fun f=>by
  have h1:=HB1.out.lt
  have h2:=HH.out.ss.lt.1
  rcases f with f|f|f
  ·omega
  ·omega
  ·have:=HH.out.ss.lt.2 _ f;omega)
 have HGX:Hid (∀ W,Kp (fun i=>w1.heap.size≤i∨(i=B.sb∨B.sr=some i)) w1 W→W.cell? ⟨g,1,none⟩=some (.pointer (some ⟨B.sb,0,none⟩))):=fun W hW=>(((HH.out.ext HX1.out).blk).kp hW (fun f=>by
  rcases f with f|f
  ·have h1:=HH.out.blk.lt;have h2:=HX1.out.size;omega
  ·exact HH.out.safeS.blk HH.out.blk (by decide) f)).cell 1 _ rfl
 clear hbs
 refine' Av.X.wp_region_dagG (fun i=>i=B.sb∨B.sr=some i) 8 [(23,[900],[])] [900] ((17, .val _)::(18, .val _)::(19, .val _)::(20, .val _)::(21, .val _)::(22, .val _)::(23,⟨fun v=>v=.int .i64 T.2,fun _ w'=>∃ ro',SesR w' B.sb ro' T.1∧∀ i,ro'=some i→B.sr=some i∨w1.heap.size≤i⟩)::(24, .val _)::(900,⟨fun _=>True,fun _ w'=>SesR w' B.sb B.sr s.ss⟩)::[]) (by exact ⟨fun _ _ _ _ _=>trivial,⟨fun _ _ _ _ _=>trivial,⟨fun _ _ _ _ _=>trivial,⟨fun _ _ _ _ _=>trivial,⟨fun _ _ _ _ _=>trivial,⟨fun _ _ _ _ _=>trivial,⟨fun _ _ _ hr ⟨ro',h1,h2⟩=>⟨ro',h1.ext hr,h2⟩,⟨fun _ _ _ _ _=>trivial,⟨fun _ _ _ hr hv=>SesR.ext hv hr,trivial⟩⟩⟩⟩⟩⟩⟩⟩⟩) (by exact ⟨⟨undef,(HH.out.ext HX1.out).ss.ext (Kp.refl (fun _=>False) _).drew⟩,trivial⟩) (by kernel_rfl) (by kernel_rfl) (by kernel_rfl) ?_
 rotate_left 7
 simp only [List.take_succ_cons,List.take_zero]
 repeat (first
  | (refine Av.X.wpD_skipv ?_ ?_ ?_
     focus rfl
     focus rfl
     simp only [Act.put,List.setIfInBounds_toArray,List.set_cons_succ,List.set_cons_zero])
  | (refine' Av.X.wpD_val (c:=_) ?_ (fun w=>Kp.refl _ w) ?_ (fun wq hwq hfz=>?_) ?_
     rotate_left
     focus rfl
     focus rfl
     focus (have hfq:=hfz.at_;have hcq:=hfz.use;(have ha:=HAX.out _ hwq;have e0:=ha.cell 0 _ rfl;have c1:=HGX.out _ hwq;clear ha);go_simp;first|done|rfl)
     simp only [Act.put,List.setIfInBounds_toArray,List.set_cons_succ,List.set_cons_zero])
  | (refine' Av.X.wpD_con (c:=_) ?_ ?_ (fun wq hwq hfz=>?_) ?_
     rotate_left
     focus rfl
     focus rfl
     focus (have hfq:=hfz.at_;have hcq:=hfz.use;(have ha:=HAX.out _ hwq;have e0:=ha.cell 0 _ rfl;have c1:=HGX.out _ hwq;clear ha);go_simp;(try (rw [dUpon_enter]));fail)
     simp only [Act.put,List.setIfInBounds_toArray,List.set_cons_succ,List.set_cons_zero])
  | (refine Av.X.wpD_used (A:=fun v=>v=.int .i64 T.2) (V:=fun _ w'=>∃ ro',SesR w' B.sb ro' T.1∧∀ i,ro'=some i→B.sr=some i∨w1.heap.size≤i) 23 ?_ ?_ ?_ ?_ (fun wq hwq hfz=>?_) (fun v23 h23=>?_)
     focus rfl
     focus rfl
     focus (exact ⟨_,rfl⟩)
     focus rfl
     focus (have hfq:=hfz.at_;have hcq:=hfz.use;(have ha:=HAX.out _ hwq;have e0:=ha.cell 0 _ rfl;have c1:=HGX.out _ hwq;clear ha);go_simp;(try (rw [dUpon_enter]));have h900:SesR wq B.sb B.sr s.ss:=(hcq 900 rfl).elim (fun _ h=>h);(with_reducible refine (HTO.out _ h900).mono ?_);rintro e w' ⟨rfl,⟨ro',h1,h2⟩,hk⟩;refine ⟨_,rfl,rfl,⟨ro',h1,fun i hi=>(h2 i hi).imp id (fun h=>Nat.le_trans hwq.size h)⟩,hk.mono (fun i _ e=>.inr e), ?_⟩;repeat (first|exact PresL.nil|(with_reducible refine PresL.val ?_)|(refine PresL.out rfl ?_)))
     subst h23
     simp only [Act.put,List.setIfInBounds_toArray,List.set_cons_succ,List.set_cons_zero])
  | fail)
 refine Av.X.wpD_nil ?_
 intro w2 hr2 hend
 refine wpList_nil ?_
 have hs2:∃ ro',SesR w2 B.sb ro' T.1∧∀ i,ro'=some i→B.sr=some i∨w1.heap.size≤i:=hend 23 (by kernel_rfl)
 clear hend
 have hk2:Kp (fun i=>i=B.sb∨B.sr=some i) w1 w2:=hr2.mono (fun i hi e=>by
  rcases e with e|e
  ·omega
  ·exact e)
 have HP2:=Lib.hid (SoPost.before HX1.out ((HH.out.ext HX1.out).sess hk2 hs2))
 have HK2:=Lib.hid hk2
 have hA2:=HAX.out _ hr2
 have HA2:=Lib.hid hA2
 have HB2:=Lib.hid (HBX.out _ hr2)
 clear hs2 hk2 hr2 a0 a1 a2 HAX HBX HGX HTO HBS
 have a0:=hA2.cell 0 _ rfl
 have a1:=hA2.cell 1 _ rfl
 have a2:=hA2.cell 2 _ rfl
 clear hA2
 rw [HT2.out]
 go_wp2_with (fail)
 obtain ⟨B2,hS2,hkf2,hof2⟩:=HP2.out
 obtain ⟨lu0,hlu,hlr⟩:=last_some hS2.lm HLAST.out
 have hlr2:=hlr
 obtain ⟨lxs,hlx,_⟩:=hlr2
 obtain ⟨la,lc,rfl⟩:=hlx.slice
 generalize lxs.length=ln at *
 have HLR:=Lib.hid hlr
 have HLK:Hid (∀ W,Ext w2 W→(Instr.lookup 138 (.map (some B2.lm)) (.int .i64 sess) true).run Tryz.prog W=.ok (.tuple #[.agg (rplA ⟨rn,rz,re,ra,rr⟩ (.slice la ln lc)), .bool true]) W):=fun W hW=>last_look (hS2.ext hW).lm hlu
 clear hlr hlx hlu
 have HS2:=Lib.hid hS2
 have HKF:=Lib.hid hkf2
 have HOF:=Lib.hid hof2
 have hg2:=HS2.out.blk
 have HG2:=Lib.hid hg2
 have HBS2:Hid (w.heap.size+1<w2.heap.size):=HB2.out.lt
 clear hS2 hkf2 hof2 hg2 HP2
 unfold rplA at HLK
 go_upto_region 6 with (fail)
 refine' Av.X.wp_region_dagE (fun _=>False) 13 [(6,[900],[]),(9999,[6],[900])] [900] ((32, .val _)::(33, .val _)::(34, .val _)::(35, .val _)::(36, .val _)::(37, .val _)::(38, .val _)::(31, .val _)::(39, .val _)::(40, .val _)::(6,⟨fun v=>v=.pointer (some ⟨w2.heap.size,0,none⟩),fun _ w'=>Blk w' w2.heap.size rpZ rplT⟩)::(7, .val _)::(900,⟨fun _=>True,fun _ w'=>w'.heap.size=w2.heap.size⟩)::(9999,⟨fun _=>True,fun _ w'=>Blk w' w2.heap.size (rplA ⟨rn,rz,re,ra,rr⟩ (.slice la ln lc)) rplT⟩)::[]) (by exact ⟨⟨undef,rfl⟩,trivial⟩) (by kernel_rfl) (by kernel_rfl) (by kernel_rfl) ?_
 rotate_left 11
 simp only [List.take_succ_cons,List.take_zero]
 repeat (first
  | (refine Av.X.wpD_skipv ?_ ?_ ?_
     focus rfl
     focus rfl
     simp only [Act.put,List.setIfInBounds_toArray,List.set_cons_succ,List.set_cons_zero])
  | (refine' Av.X.wpD_val (c:=_) ?_ (fun w=>Kp.refl _ w) ?_ (fun wq hwq hfz=>?_) ?_
     rotate_left
     focus rfl
     focus rfl
     focus (have hfq:=hfz.at_;have hcq:=hfz.use;(have hxq:Ext w2 wq:=hwq.mono (fun i hi e=>e.elim (fun h=>by omega) id);have hlk:=HLK.out _ hxq;have c4:=(HG2.out.kp hxq (fun f=>f)).cell 4 _ rfl;have a0:=(HA2.out.kp hxq (fun f=>f)).cell 0 _ rfl);go_simp;first|done|rfl)
     simp only [Act.put,List.setIfInBounds_toArray,List.set_cons_succ,List.set_cons_zero])
  | (refine' Av.X.wpD_con (c:=_) ?_ ?_ (fun wq hwq hfz=>?_) ?_
     rotate_left
     focus rfl
     focus rfl
     focus (have hfq:=hfz.at_;have hcq:=hfz.use;(have hxq:Ext w2 wq:=hwq.mono (fun i hi e=>e.elim (fun h=>by omega) id);have hlk:=HLK.out _ hxq;have c4:=(HG2.out.kp hxq (fun f=>f)).cell 4 _ rfl;have a0:=(HA2.out.kp hxq (fun f=>f)).cell 0 _ rfl);go_simp;(try (rw [dUpon_enter]));fail)
     simp only [Act.put,List.setIfInBounds_toArray,List.set_cons_succ,List.set_cons_zero])
  | (refine Av.X.wpD_used (A:=fun v=>v=.pointer (some ⟨w2.heap.size,0,none⟩)) (V:=fun _ w'=>Blk w' w2.heap.size rpZ rplT) 6 ?_ ?_ ?_ ?_ (fun wq hwq hfz=>?_) (fun v6 h6=>?_)
     focus rfl
     focus rfl
     focus (exact ⟨_,rfl⟩)
     focus rfl
     focus (have hfq:=hfz.at_;have hcq:=hfz.use;(have hxq:Ext w2 wq:=hwq.mono (fun i hi e=>e.elim (fun h=>by omega) id);have hlk:=HLK.out _ hxq;have c4:=(HG2.out.kp hxq (fun f=>f)).cell 4 _ rfl;have a0:=(HA2.out.kp hxq (fun f=>f)).cell 0 _ rfl);go_simp;(try (rw [dUpon_enter]));have h900:wq.heap.size=w2.heap.size:=(hcq 900 rfl).elim (fun _ h=>h);rw [dUpon_value];refine ⟨by rw [h900],by rw [← h900];exact heap_alloc_new wq _,(Kp.refl _ _).alloc _, ?_⟩;repeat (first|exact PresL.nil|(with_reducible refine PresL.val ?_)|(refine PresL.out rfl ?_)|(refine PresL.keep (fun u hu=>Blk.kp hu ((Kp.refl (fun _=>False) _).alloc _) (fun f=>f)) ?_)))
     subst h6
     simp only [Act.put,List.setIfInBounds_toArray,List.set_cons_succ,List.set_cons_zero])
  | (refine Av.X.wpD_put rfl ?_ (fun wq hwq hfz=>?_) ?_
     focus rfl
     focus (have hfq:=hfz.at_;have hcq:=hfz.use;(have hxq:Ext w2 wq:=hwq.mono (fun i hi e=>e.elim (fun h=>by omega) id);have hlk:=HLK.out _ hxq;have c4:=(HG2.out.kp hxq (fun f=>f)).cell 4 _ rfl;have a0:=(HA2.out.kp hxq (fun f=>f)).cell 0 _ rfl);have h6:Blk wq w2.heap.size rpZ rplT:=(hcq 6 rfl).elim (fun _ h=>h);unfold rpZ at h6;have z0:=h6.cell 0 _ rfl;have z1:=h6.cell 1 _ rfl;have z2:=h6.cell 2 _ rfl;have z3:=h6.cell 3 _ rfl;have z4:=h6.cell 4 _ rfl;have f0:=h6.free 0;have f1:=h6.free 1;have f2:=h6.free 2;have f3:=h6.free 3;have f4:=h6.free 4;go_simp;rw [dUpon_skip];refine ⟨(kp_set5 _ _ _ _ _ _ _).mono (fun i _ e=>by have e2:i=w2.heap.size:=e;first|omega|exact Or.inl (by omega)),((((h6.set 0 _).set 1 _).set 2 _).set 3 _).set 4 _, ?_⟩;repeat (first|exact PresL.nil|(with_reducible refine PresL.val ?_)|(refine PresL.out rfl ?_)|(refine PresL.keep (fun u hu=>((((h6.set 0 _).set 1 _).set 2 _).set 3 _).set 4 _) ?_))))
  | fail)
 refine Av.X.wpD_nil ?_
 intro w3 hr3 hend hput
 refine wpList_nil ?_
 have hL3:Blk w3 w2.heap.size (rplA ⟨rn,rz,re,ra,rr⟩ (.slice la ln lc)) rplT:=hput (by kernel_rfl)
 clear hend hput
 have hx3:Ext w2 w3:=hr3.mono (fun i hi e=>e.elim (fun h=>by omega) id)
 have HL3:=Lib.hid hL3
 have HX3:=Lib.hid hx3
 have hA3:=HA2.out.kp hx3 (fun f=>f)
 have HA3:=Lib.hid hA3
 have HB3:=Lib.hid (HB2.out.kp hx3 (fun f=>f))
 have HS3:=Lib.hid (HS2.out.ext hx3)
 unfold rplA at hL3
 clear a0 a1 a2 hr3 hx3 HLK
 have a0:=hA3.cell 0 _ rfl
 have a1:=hA3.cell 1 _ rfl
 have a2:=hA3.cell 2 _ rfl
 have l0:=hL3.cell 0 _ rfl
 have l1:=hL3.cell 1 _ rfl
 have l2:=hL3.cell 2 _ rfl
 have l3:=hL3.cell 3 _ rfl
 have l4:=hL3.cell 4 _ rfl
 clear hA3 hL3
 go_wp2_with (fail)
 refine (repFail_any num 1 (-1) ops.length _).mono ?_
 rintro e w4 ⟨u,rfl,hu,hx4⟩
 have HBn:=Lib.hid (HB3.out.kp hx4 (fun f=>f))
 have HU:=Lib.hid hu
 have HX4:=Lib.hid hx4
 obtain ⟨us,hus,_⟩:=hu
 obtain ⟨ua,uc,rfl⟩:=hus.slice
 generalize us.length=un at *
 clear hx4 hus l0 l1 l2 l3 l4 a0 a1 a2
 have hBn:=HBn.out
 unfold rpZ at hBn
 have c0:=hBn.cell 0 _ rfl
 have c1:=hBn.cell 1 _ rfl
 have c2:=hBn.cell 2 _ rfl
 have c3:=hBn.cell 3 _ rfl
 have c4:=hBn.cell 4 _ rfl
 have fc0:=hBn.free 0
 have fc1:=hBn.free 1
 have fc2:=hBn.free 2
 have fc3:=hBn.free 3
 have fc4:=hBn.free 4
 clear hBn
 unfold rplA
 simp only
 go_wp2_with (fail)
 go_light
 refine bodyPost_ret (v:=.agg #[.int .i64 (failRp num 1 (-1) ops.length).num, .int .i64 (failRp num 1 (-1) ops.length).zxid, .int .i64 (failRp num 1 (-1) ops.length).err, .int .i64 (failRp num 1 (-1) ops.length).at_, .slice ua un uc]) (by simp [results,Tryz.results34,go_sem,c0,c1,c2,c3,c4]) rfl ?_
 have k5:=kp_set5 w4 (w.heap.size+1) (.int .i64 (failRp num 1 (-1) ops.length).num) (.int .i64 (failRp num 1 (-1) ops.length).zxid) (.int .i64 (failRp num 1 (-1) ops.length).err) (.int .i64 (failRp num 1 (-1) ops.length).at_) (.slice ua un uc)
 rw [HE.out]
 have hs1:=HX1.out.size
 have hs2:=HBS2.out
 have hs3:=HX3.out.size
 have hP4:SoPost w0 w g K B { s with ss:=T.1 } w4:=⟨B2,HS3.out.ext HX4.out,(HKF.out.next HX3.out (fun _ _ f=>f.elim)).next HX4.out (fun _ _ f=>f.elim),HOF.out⟩
 exact ⟨.slice ua un uc,rfl,(HU.out.kpT k5 (noT_blk HBn.out (by decide)) (noT_blk HBn.out (by decide))).less (by omega),(hP4.cell HBn.out (by omega) HH.out.ex.size k5).more (by omega),HOK.out⟩
end Go.Proofs.YtnlefnhdhigecaaGreatDoor

