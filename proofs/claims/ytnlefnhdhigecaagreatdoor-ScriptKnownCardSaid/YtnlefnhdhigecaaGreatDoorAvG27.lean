/- Texts put together: AvSoJ, AvSoK, AvSoL. -/
import Derived.Test.YtnlefnhdhigecaaGreatDoorAvG26
import Derived.Test.YtnlefnhdhigecaaGreatDoorAvG13
namespace Go.Proofs.YtnlefnhdhigecaaGreatDoor
set_option maxRecDepth 100000
open Go.RowKit Av
variable {w0 w w':World} {g K N:Nat} {B:SoB} {s:SoV}
theorem chs_last:∀ (l:List (OpV×Rp)) (s:SoV),(l.foldl chStep s).last=s.last
 | [],_=>rfl
 | x::l,s=>by
   rw [List.foldl_cons,chs_last l]
   unfold chStep
   split<;>rfl
set_option maxHeartbeats 12800000 in
theorem soAsk_new (h:SoR w0 w g K B s) (hok:SoOk N s) (hN:N≤90000) (hK:K≤90000) (hG:GT w0) (v:Value) (ops:List OpV) (sess num:Int) (ho:OpsAt w v ops) (hsz:OpsS ops) (hoff:∀ i,v.ownBlock=some i→¬ SoFr g B i) (hol:∀ i,v.ownBlock=some i→i<w.heap.size) (hb:mayR sess num ops=0) (hf:(touchS s.ss sess).2=0) (hl:mget s.last sess=none∨∃ r,mget s.last sess=some r∧r.num<num) :
  Calls Tryz.prog 34 #[.pointer (some ⟨g,0,none⟩), .agg #[.int .i64 sess, .int .i64 num,v]] w (AskPost w0 w g K N B (askS s sess num ops)):=by
 obtain ⟨wB,hWB⟩:∃ wB,(w.alloc (.cells #[.int .i64 sess, .int .i64 num,v] reqT)).alloc (.cells rpZ rplT)=wB:=⟨_,rfl⟩
 have hxB:Ext w wB:=by rw [← hWB];exact ((Kp.refl _ _).alloc _).alloc _
 have hA:Blk wB w.heap.size #[.int .i64 sess, .int .i64 num,v] reqT:=by
  rw [← hWB]
  exact Blk.kp (heap_alloc_new w _) ((Kp.refl (fun _=>False) _).alloc _) (fun f=>f)
 have hB:Blk wB (w.heap.size+1) rpZ rplT:=by
  rw [← hWB]
  have:=heap_alloc_new (w.alloc (.cells #[.int .i64 sess, .int .i64 num,v] reqT)) (.cells rpZ rplT)
  rw [World.size_alloc] at this
  exact this
 have HMAY:=Lib.hid (may_any sess num v ops wB ((hG.ext h.ex).ext hxB) (ho.ext hxB) hsz.sz)
 have HA:=Lib.hid hA
 have HB:=Lib.hid hB
 have HXB:=Lib.hid hxB
 have HWB:=Lib.hid hWB
 have HH:=Lib.hid h
 obtain ⟨va,vc,rfl,_,_,hopn⟩:=OpsAt.open ho
 have a0:=hA.cell 0 _ rfl
 have a1:=hA.cell 1 _ rfl
 have a2:=hA.cell 2 _ rfl
 have HE:Hid (askS s sess num ops=({ changedS { s with ss:=(touchS s.ss sess).1,zx:=s.zx+1,tr:=(requestL s.room s.tr sess num (s.zx+1) ops).1 } ops (requestL s.room s.tr sess num (s.zx+1) ops).2 with last:=mset (changedS { s with ss:=(touchS s.ss sess).1,zx:=s.zx+1,tr:=(requestL s.room s.tr sess num (s.zx+1) ops).1 } ops (requestL s.room s.tr sess num (s.zx+1) ops).2).last sess (requestL s.room s.tr sess num (s.zx+1) ops).2 },(requestL s.room s.tr sess num (s.zx+1) ops).2)):=by show _=_;unfold askS;rw [if_neg (by rw [hb];simp),if_neg (by rw [hf];simp)];rcases hl with hl|⟨r,hl,hn⟩<;>rw [hl];(focus rfl);simp only [if_neg (show ¬ num=r.num by omega),if_neg (show ¬ num<r.num by omega)];rfl
 rw [hb] at HMAY
 have HTO:=Lib.hid (fun W (hW:SesR W B.sb B.sr s.ss)=>sesTouch_any N B.sb B.sr s.ss sess W hW hok.ss (by omega))
 have HTK:=Lib.hid (hok.ss.touch sess)
 have HLASTO:=Lib.hid hl
 have HSOK:=Lib.hid hok
 have HGT:=Lib.hid hG
 have HOPS:=Lib.hid (fun W (hW:Kp (SoFr g B) w W)=>ho.kp hW (fun i hi _=>hoff i hi))
 have HSZ:=Lib.hid hsz
 have HOFF:=Lib.hid hoff
 have HOL:=Lib.hid hol
 generalize touchS s.ss sess=T at *
 have HT2:=Lib.hid hf
 have hzx:=hok.zx
 have hW1:wrap64 (s.zx+1)=s.zx+1:=by unfold wrap64;omega
 have hV1:IntKind.i64.wrap (s.zx+1)=s.zx+1:=IntWalk.i64_in _ (by omega)
 clear h hok hG ho hsz hopn hWB hxB hA hB hb hf hl hoff hol hzx
 go_enter Tryz.func34,Tryz.ntmps34
 go_upto_region 1 with (fail)
 rw [HWB.out]
 go_wp2_with (fail)
 refine HMAY.out.mono ?_
 rintro e w1 ⟨rfl,hx1⟩
 have HX1:=Lib.hid (HXB.out.trans hx1)
 have hA1:=HA.out.kp hx1 (fun f=>f)
 have HA1:=Lib.hid hA1
 have HB1:=Lib.hid (HB.out.kp hx1 (fun f=>f))
 clear hx1 a0 a1 a2
 have a0:=hA1.cell 0 _ rfl
 have a1:=hA1.cell 1 _ rfl
 have a2:=hA1.cell 2 _ rfl
 clear hA1
 go_upto_region 4 with (fail)
 have hbs:B.sb<w1.heap.size∧∀ i,B.sr=some i→i<w1.heap.size:=⟨Nat.lt_of_lt_of_le HH.out.ss.lt.1 HX1.out.size,fun i hi=>Nat.lt_of_lt_of_le (HH.out.ss.lt.2 i hi) HX1.out.size⟩
 have HBS:=Lib.hid hbs
 have HAX:Hid (∀ W,Kp (fun i=>w1.heap.size≤i∨(i=B.sb∨B.sr=some i)) w1 W→Blk W w.heap.size #[.int .i64 sess, .int .i64 num, .slice va ops.length vc] reqT):=fun W hW=>HA1.out.kp hW (fun f=>by
  have h1:=HA1.out.lt
  have h2:=HH.out.ss.lt.1
  rcases f with f|f|f
  ·omega
  ·omega
  ·have:=HH.out.ss.lt.2 _ f;omega)
 have HBX:Hid (∀ W,Kp (fun i=>w1.heap.size≤i∨(i=B.sb∨B.sr=some i)) w1 W→Blk W (w.heap.size+1) rpZ rplT):=fun W hW=>HB1.out.kp hW (fun f=>by
  have h1:=HB1.out.lt
  have h2:=HH.out.ss.lt.1
  rcases f with f|f|f
  ·omega
  ·omega
  ·have:=HH.out.ss.lt.2 _ f;omega)
 have HGX:Hid (∀ W,Kp (fun i=>w1.heap.size≤i∨(i=B.sb∨B.sr=some i)) w1 W→W.cell? ⟨g,1,none⟩=some (.pointer (some ⟨B.sb,0,none⟩))):=fun W hW=>(((HH.out.ext HX1.out).blk).kp hW (fun f=>by
  rcases f with f|f
  ·have h1:=HH.out.blk.lt;have h2:=HX1.out.size;omega
  ·exact HH.out.safeS.blk HH.out.blk (by decide) f)).cell 1 _ rfl
 clear hbs
 refine' Av.X.wp_region_dagG (fun i=>i=B.sb∨B.sr=some i) 8 [(23,[900],[])] [900] ((17, .val _)::(18, .val _)::(19, .val _)::(20, .val _)::(21, .val _)::(22, .val _)::(23,⟨fun v=>v=.int .i64 T.2,fun _ w'=>∃ ro',SesR w' B.sb ro' T.1∧∀ i,ro'=some i→B.sr=some i∨w1.heap.size≤i⟩)::(24, .val _)::(900,⟨fun _=>True,fun _ w'=>SesR w' B.sb B.sr s.ss⟩)::[]) (by exact ⟨fun _ _ _ _ _=>trivial,⟨fun _ _ _ _ _=>trivial,⟨fun _ _ _ _ _=>trivial,⟨fun _ _ _ _ _=>trivial,⟨fun _ _ _ _ _=>trivial,⟨fun _ _ _ _ _=>trivial,⟨fun _ _ _ hr ⟨ro',h1,h2⟩=>⟨ro',h1.ext hr,h2⟩,⟨fun _ _ _ _ _=>trivial,⟨fun _ _ _ hr hv=>SesR.ext hv hr,trivial⟩⟩⟩⟩⟩⟩⟩⟩⟩) (by exact ⟨⟨undef,(HH.out.ext HX1.out).ss.ext (Kp.refl (fun _=>False) _).drew⟩,trivial⟩) (by kernel_rfl) (by kernel_rfl) (by kernel_rfl) ?_
 rotate_left 7
 simp only [List.take_succ_cons,List.take_zero]
 repeat (first
  | (refine Av.X.wpD_skipv ?_ ?_ ?_
     focus rfl
     focus rfl
     simp only [Act.put,List.setIfInBounds_toArray,List.set_cons_succ,List.set_cons_zero])
  | (refine' Av.X.wpD_val (c:=_) ?_ (fun w=>Kp.refl _ w) ?_ (fun wq hwq hfz=>?_) ?_
     rotate_left
     focus rfl
     focus rfl
     focus (have hfq:=hfz.at_;have hcq:=hfz.use;(have ha:=HAX.out _ hwq;have e0:=ha.cell 0 _ rfl;have c1:=HGX.out _ hwq;clear ha);go_simp;first|done|rfl)
     simp only [Act.put,List.setIfInBounds_toArray,List.set_cons_succ,List.set_cons_zero])
  | (refine' Av.X.wpD_con (c:=_) ?_ ?_ (fun wq hwq hfz=>?_) ?_
     rotate_left
     focus rfl
     focus rfl
     focus (have hfq:=hfz.at_;have hcq:=hfz.use;(have ha:=HAX.out _ hwq;have e0:=ha.cell 0 _ rfl;have c1:=HGX.out _ hwq;clear ha);go_simp;(try (rw [dUpon_enter]));fail)
     simp only [Act.put,List.setIfInBounds_toArray,List.set_cons_succ,List.set_cons_zero])
  | (refine Av.X.wpD_used (A:=fun v=>v=.int .i64 T.2) (V:=fun _ w'=>∃ ro',SesR w' B.sb ro' T.1∧∀ i,ro'=some i→B.sr=some i∨w1.heap.size≤i) 23 ?_ ?_ ?_ ?_ (fun wq hwq hfz=>?_) (fun v23 h23=>?_)
     focus rfl
     focus rfl
     focus (exact ⟨_,rfl⟩)
     focus rfl
     focus (have hfq:=hfz.at_;have hcq:=hfz.use;(have ha:=HAX.out _ hwq;have e0:=ha.cell 0 _ rfl;have c1:=HGX.out _ hwq;clear ha);go_simp;(try (rw [dUpon_enter]));have h900:SesR wq B.sb B.sr s.ss:=(hcq 900 rfl).elim (fun _ h=>h);(with_reducible refine (HTO.out _ h900).mono ?_);rintro e w' ⟨rfl,⟨ro',h1,h2⟩,hk⟩;refine ⟨_,rfl,rfl,⟨ro',h1,fun i hi=>(h2 i hi).imp id (fun h=>Nat.le_trans hwq.size h)⟩,hk.mono (fun i _ e=>.inr e), ?_⟩;repeat (first|exact PresL.nil|(with_reducible refine PresL.val ?_)|(refine PresL.out rfl ?_)))
     subst h23
     simp only [Act.put,List.setIfInBounds_toArray,List.set_cons_succ,List.set_cons_zero])
  | fail)
 refine Av.X.wpD_nil ?_
 intro w2 hr2 hend
 refine wpList_nil ?_
 have hs2:∃ ro',SesR w2 B.sb ro' T.1∧∀ i,ro'=some i→B.sr=some i∨w1.heap.size≤i:=hend 23 (by kernel_rfl)
 clear hend
 have hk2:Kp (fun i=>i=B.sb∨B.sr=some i) w1 w2:=hr2.mono (fun i hi e=>by
  rcases e with e|e
  ·omega
  ·exact e)
 have HP2:=Lib.hid (SoPost.before HX1.out ((HH.out.ext HX1.out).sess hk2 hs2))
 have HK2:=Lib.hid hk2
 have hA2:=HAX.out _ hr2
 have HA2:=Lib.hid hA2
 have HB2:=Lib.hid (HBX.out _ hr2)
 clear hs2 hk2 hr2 a0 a1 a2 HAX HBX HGX HTO HBS
 have a0:=hA2.cell 0 _ rfl
 have a1:=hA2.cell 1 _ rfl
 have a2:=hA2.cell 2 _ rfl
 clear hA2
 rw [HT2.out]
 go_wp2_with (fail)
 rcases HLASTO.out with hll|⟨⟨rn,rz,re,ra,rr⟩,hll,hn⟩
 case' inl=>
  have HLAST:=Lib.hid hll
  clear hll
  obtain ⟨B2,hS2,hkf2,hof2⟩:=HP2.out
  have hlu:=hS2.lm.get sess
  rw [show mget ({ s with ss:=T.1 }:SoV).last sess=none from HLAST.out] at hlu
  have HLK:Hid (∀ W,Ext w2 W→(Instr.lookup 138 (.map (some B2.lm)) (.int .i64 sess) true).run Tryz.prog W=.ok (.tuple #[.agg (rplA ⟨0,0,0,0,[]⟩ (.slice none 0 0)), .bool false]) W):=fun W hW=>last_lookN (hS2.ext hW).lm hlu
  clear hlu
  have HS2:=Lib.hid hS2
  have HKF:=Lib.hid hkf2
  have HOF:=Lib.hid hof2
  have hg2:=HS2.out.blk
  have HG2:=Lib.hid hg2
  have HBS2:Hid (w.heap.size+1<w2.heap.size):=HB2.out.lt
  clear hS2 hkf2 hof2 hg2 HP2
  unfold rplA at HLK
  go_upto_region 6 with (fail)
  refine' Av.X.wp_region_dagE (fun _=>False) 13 [(6,[900],[]),(9999,[6],[900])] [900] ((32, .val _)::(33, .val _)::(34, .val _)::(35, .val _)::(36, .val _)::(37, .val _)::(38, .val _)::(31, .val _)::(39, .val _)::(40, .val _)::(6,⟨fun v=>v=.pointer (some ⟨w2.heap.size,0,none⟩),fun _ w'=>Blk w' w2.heap.size rpZ rplT⟩)::(7, .val _)::(900,⟨fun _=>True,fun _ w'=>w'.heap.size=w2.heap.size⟩)::(9999,⟨fun _=>True,fun _ w'=>Blk w' w2.heap.size (rplA ⟨0,0,0,0,[]⟩ (.slice none 0 0)) rplT⟩)::[]) (by exact ⟨⟨undef,rfl⟩,trivial⟩) (by kernel_rfl) (by kernel_rfl) (by kernel_rfl) ?_
  rotate_left 11
  simp only [List.take_succ_cons,List.take_zero]
  repeat (first
   | (refine Av.X.wpD_skipv ?_ ?_ ?_
      focus rfl
      focus rfl
      simp only [Act.put,List.setIfInBounds_toArray,List.set_cons_succ,List.set_cons_zero])
   | (refine' Av.X.wpD_val (c:=_) ?_ (fun w=>Kp.refl _ w) ?_ (fun wq hwq hfz=>?_) ?_
      rotate_left
      focus rfl
      focus rfl
      focus (have hfq:=hfz.at_;have hcq:=hfz.use;(have hxq:Ext w2 wq:=hwq.mono (fun i hi e=>e.elim (fun h=>by omega) id);have hlk:=HLK.out _ hxq;have c4:=(HG2.out.kp hxq (fun f=>f)).cell 4 _ rfl;have a0:=(HA2.out.kp hxq (fun f=>f)).cell 0 _ rfl);go_simp;first|done|rfl)
      simp only [Act.put,List.setIfInBounds_toArray,List.set_cons_succ,List.set_cons_zero])
   | (refine' Av.X.wpD_con (c:=_) ?_ ?_ (fun wq hwq hfz=>?_) ?_
      rotate_left
      focus rfl
      focus rfl
      focus (have hfq:=hfz.at_;have hcq:=hfz.use;(have hxq:Ext w2 wq:=hwq.mono (fun i hi e=>e.elim (fun h=>by omega) id);have hlk:=HLK.out _ hxq;have c4:=(HG2.out.kp hxq (fun f=>f)).cell 4 _ rfl;have a0:=(HA2.out.kp hxq (fun f=>f)).cell 0 _ rfl);go_simp;(try (rw [dUpon_enter]));fail)
      simp only [Act.put,List.setIfInBounds_toArray,List.set_cons_succ,List.set_cons_zero])
   | (refine Av.X.wpD_used (A:=fun v=>v=.pointer (some ⟨w2.heap.size,0,none⟩)) (V:=fun _ w'=>Blk w' w2.heap.size rpZ rplT) 6 ?_ ?_ ?_ ?_ (fun wq hwq hfz=>?_) (fun v6 h6=>?_)
      focus rfl
      focus rfl
      focus (exact ⟨_,rfl⟩)
      focus rfl
      focus (have hfq:=hfz.at_;have hcq:=hfz.use;(have hxq:Ext w2 wq:=hwq.mono (fun i hi e=>e.elim (fun h=>by omega) id);have hlk:=HLK.out _ hxq;have c4:=(HG2.out.kp hxq (fun f=>f)).cell 4 _ rfl;have a0:=(HA2.out.kp hxq (fun f=>f)).cell 0 _ rfl);go_simp;(try (rw [dUpon_enter]));have h900:wq.heap.size=w2.heap.size:=(hcq 900 rfl).elim (fun _ h=>h);rw [dUpon_value];refine ⟨by rw [h900],by rw [← h900];exact heap_alloc_new wq _,(Kp.refl _ _).alloc _, ?_⟩;repeat (first|exact PresL.nil|(with_reducible refine PresL.val ?_)|(refine PresL.out rfl ?_)|(refine PresL.keep (fun u hu=>Blk.kp hu ((Kp.refl (fun _=>False) _).alloc _) (fun f=>f)) ?_)))
      subst h6
      simp only [Act.put,List.setIfInBounds_toArray,List.set_cons_succ,List.set_cons_zero])
   | (refine Av.X.wpD_put rfl ?_ (fun wq hwq hfz=>?_) ?_
      focus rfl
      focus (have hfq:=hfz.at_;have hcq:=hfz.use;(have hxq:Ext w2 wq:=hwq.mono (fun i hi e=>e.elim (fun h=>by omega) id);have hlk:=HLK.out _ hxq;have c4:=(HG2.out.kp hxq (fun f=>f)).cell 4 _ rfl;have a0:=(HA2.out.kp hxq (fun f=>f)).cell 0 _ rfl);have h6:Blk wq w2.heap.size rpZ rplT:=(hcq 6 rfl).elim (fun _ h=>h);unfold rpZ at h6;have z0:=h6.cell 0 _ rfl;have z1:=h6.cell 1 _ rfl;have z2:=h6.cell 2 _ rfl;have z3:=h6.cell 3 _ rfl;have z4:=h6.cell 4 _ rfl;have f0:=h6.free 0;have f1:=h6.free 1;have f2:=h6.free 2;have f3:=h6.free 3;have f4:=h6.free 4;go_simp;rw [dUpon_skip];refine ⟨(kp_set5 _ _ _ _ _ _ _).mono (fun i _ e=>by have e2:i=w2.heap.size:=e;first|omega|exact Or.inl (by omega)),((((h6.set 0 _).set 1 _).set 2 _).set 3 _).set 4 _, ?_⟩;repeat (first|exact PresL.nil|(with_reducible refine PresL.val ?_)|(refine PresL.out rfl ?_)|(refine PresL.keep (fun u hu=>((((h6.set 0 _).set 1 _).set 2 _).set 3 _).set 4 _) ?_))))
   | fail)
  refine Av.X.wpD_nil ?_
  intro w3 hr3 hend hput
  refine wpList_nil ?_
  have hL3:Blk w3 w2.heap.size (rplA ⟨0,0,0,0,[]⟩ (.slice none 0 0)) rplT:=hput (by kernel_rfl)
  clear hend hput
  have hx3:Ext w2 w3:=hr3.mono (fun i hi e=>e.elim (fun h=>by omega) id)
  have HL3:=Lib.hid hL3
  have HX3:=Lib.hid hx3
  have hA3:=HA2.out.kp hx3 (fun f=>f)
  have HA3:=Lib.hid hA3
  have HB3:=Lib.hid (HB2.out.kp hx3 (fun f=>f))
  have HS3:=Lib.hid (HS2.out.ext hx3)
  unfold rplA at hL3
  clear a0 a1 a2 hr3 hx3 HLK
  have a0:=hA3.cell 0 _ rfl
  have a1:=hA3.cell 1 _ rfl
  have a2:=hA3.cell 2 _ rfl
  have l0:=hL3.cell 0 _ rfl
  have l1:=hL3.cell 1 _ rfl
  have l2:=hL3.cell 2 _ rfl
  have l3:=hL3.cell 3 _ rfl
  have l4:=hL3.cell 4 _ rfl
  clear hA3 hL3
 case' inr=>
  have HLAST:=Lib.hid hll
  simp only at hn
  have hne:(num == rn)=false:=beq_eq_false_iff_ne.2 (by omega)
  have hlt:¬ num<rn:=by omega
  clear hll hn
  obtain ⟨B2,hS2,hkf2,hof2⟩:=HP2.out
  obtain ⟨lu0,hlu,hlr⟩:=last_some hS2.lm HLAST.out
  have hlr2:=hlr
  obtain ⟨lxs,hlx,_⟩:=hlr2
  obtain ⟨la,lc,rfl⟩:=hlx.slice
  generalize lxs.length=ln at *
  have HLR:=Lib.hid hlr
  have HLK:Hid (∀ W,Ext w2 W→(Instr.lookup 138 (.map (some B2.lm)) (.int .i64 sess) true).run Tryz.prog W=.ok (.tuple #[.agg (rplA ⟨rn,rz,re,ra,rr⟩ (.slice la ln lc)), .bool true]) W):=fun W hW=>last_look (hS2.ext hW).lm hlu
  clear hlr hlx hlu
  have HS2:=Lib.hid hS2
  have HKF:=Lib.hid hkf2
  have HOF:=Lib.hid hof2
  have hg2:=HS2.out.blk
  have HG2:=Lib.hid hg2
  have HBS2:Hid (w.heap.size+1<w2.heap.size):=HB2.out.lt
  clear hS2 hkf2 hof2 hg2 HP2
  unfold rplA at HLK
  go_upto_region 6 with (fail)
  refine' Av.X.wp_region_dagE (fun _=>False) 13 [(6,[900],[]),(9999,[6],[900])] [900] ((32, .val _)::(33, .val _)::(34, .val _)::(35, .val _)::(36, .val _)::(37, .val _)::(38, .val _)::(31, .val _)::(39, .val _)::(40, .val _)::(6,⟨fun v=>v=.pointer (some ⟨w2.heap.size,0,none⟩),fun _ w'=>Blk w' w2.heap.size rpZ rplT⟩)::(7, .val _)::(900,⟨fun _=>True,fun _ w'=>w'.heap.size=w2.heap.size⟩)::(9999,⟨fun _=>True,fun _ w'=>Blk w' w2.heap.size (rplA ⟨rn,rz,re,ra,rr⟩ (.slice la ln lc)) rplT⟩)::[]) (by exact ⟨⟨undef,rfl⟩,trivial⟩) (by kernel_rfl) (by kernel_rfl) (by kernel_rfl) ?_
  rotate_left 11
  simp only [List.take_succ_cons,List.take_zero]
  repeat (first
   | (refine Av.X.wpD_skipv ?_ ?_ ?_
      focus rfl
      focus rfl
      simp only [Act.put,List.setIfInBounds_toArray,List.set_cons_succ,List.set_cons_zero])
   | (refine' Av.X.wpD_val (c:=_) ?_ (fun w=>Kp.refl _ w) ?_ (fun wq hwq hfz=>?_) ?_
      rotate_left
      focus rfl
      focus rfl
      focus (have hfq:=hfz.at_;have hcq:=hfz.use;(have hxq:Ext w2 wq:=hwq.mono (fun i hi e=>e.elim (fun h=>by omega) id);have hlk:=HLK.out _ hxq;have c4:=(HG2.out.kp hxq (fun f=>f)).cell 4 _ rfl;have a0:=(HA2.out.kp hxq (fun f=>f)).cell 0 _ rfl);go_simp;first|done|rfl)
      simp only [Act.put,List.setIfInBounds_toArray,List.set_cons_succ,List.set_cons_zero])
   | (refine' Av.X.wpD_con (c:=_) ?_ ?_ (fun wq hwq hfz=>?_) ?_
      rotate_left
      focus rfl
      focus rfl
      focus (have hfq:=hfz.at_;have hcq:=hfz.use;(have hxq:Ext w2 wq:=hwq.mono (fun i hi e=>e.elim (fun h=>by omega) id);have hlk:=HLK.out _ hxq;have c4:=(HG2.out.kp hxq (fun f=>f)).cell 4 _ rfl;have a0:=(HA2.out.kp hxq (fun f=>f)).cell 0 _ rfl);go_simp;(try (rw [dUpon_enter]));fail)
      simp only [Act.put,List.setIfInBounds_toArray,List.set_cons_succ,List.set_cons_zero])
   | (refine Av.X.wpD_used (A:=fun v=>v=.pointer (some ⟨w2.heap.size,0,none⟩)) (V:=fun _ w'=>Blk w' w2.heap.size rpZ rplT) 6 ?_ ?_ ?_ ?_ (fun wq hwq hfz=>?_) (fun v6 h6=>?_)
      focus rfl
      focus rfl
      focus (exact ⟨_,rfl⟩)
      focus rfl
      focus (have hfq:=hfz.at_;have hcq:=hfz.use;(have hxq:Ext w2 wq:=hwq.mono (fun i hi e=>e.elim (fun h=>by omega) id);have hlk:=HLK.out _ hxq;have c4:=(HG2.out.kp hxq (fun f=>f)).cell 4 _ rfl;have a0:=(HA2.out.kp hxq (fun f=>f)).cell 0 _ rfl);go_simp;(try (rw [dUpon_enter]));have h900:wq.heap.size=w2.heap.size:=(hcq 900 rfl).elim (fun _ h=>h);rw [dUpon_value];refine ⟨by rw [h900],by rw [← h900];exact heap_alloc_new wq _,(Kp.refl _ _).alloc _, ?_⟩;repeat (first|exact PresL.nil|(with_reducible refine PresL.val ?_)|(refine PresL.out rfl ?_)|(refine PresL.keep (fun u hu=>Blk.kp hu ((Kp.refl (fun _=>False) _).alloc _) (fun f=>f)) ?_)))
      subst h6
      simp only [Act.put,List.setIfInBounds_toArray,List.set_cons_succ,List.set_cons_zero])
   | (refine Av.X.wpD_put rfl ?_ (fun wq hwq hfz=>?_) ?_
      focus rfl
      focus (have hfq:=hfz.at_;have hcq:=hfz.use;(have hxq:Ext w2 wq:=hwq.mono (fun i hi e=>e.elim (fun h=>by omega) id);have hlk:=HLK.out _ hxq;have c4:=(HG2.out.kp hxq (fun f=>f)).cell 4 _ rfl;have a0:=(HA2.out.kp hxq (fun f=>f)).cell 0 _ rfl);have h6:Blk wq w2.heap.size rpZ rplT:=(hcq 6 rfl).elim (fun _ h=>h);unfold rpZ at h6;have z0:=h6.cell 0 _ rfl;have z1:=h6.cell 1 _ rfl;have z2:=h6.cell 2 _ rfl;have z3:=h6.cell 3 _ rfl;have z4:=h6.cell 4 _ rfl;have f0:=h6.free 0;have f1:=h6.free 1;have f2:=h6.free 2;have f3:=h6.free 3;have f4:=h6.free 4;go_simp;rw [dUpon_skip];refine ⟨(kp_set5 _ _ _ _ _ _ _).mono (fun i _ e=>by have e2:i=w2.heap.size:=e;first|omega|exact Or.inl (by omega)),((((h6.set 0 _).set 1 _).set 2 _).set 3 _).set 4 _, ?_⟩;repeat (first|exact PresL.nil|(with_reducible refine PresL.val ?_)|(refine PresL.out rfl ?_)|(refine PresL.keep (fun u hu=>((((h6.set 0 _).set 1 _).set 2 _).set 3 _).set 4 _) ?_))))
   | fail)
  refine Av.X.wpD_nil ?_
  intro w3 hr3 hend hput
  refine wpList_nil ?_
  have hL3:Blk w3 w2.heap.size (rplA ⟨rn,rz,re,ra,rr⟩ (.slice la ln lc)) rplT:=hput (by kernel_rfl)
  clear hend hput
  have hx3:Ext w2 w3:=hr3.mono (fun i hi e=>e.elim (fun h=>by omega) id)
  have HL3:=Lib.hid hL3
  have HX3:=Lib.hid hx3
  have hA3:=HA2.out.kp hx3 (fun f=>f)
  have HA3:=Lib.hid hA3
  have HB3:=Lib.hid (HB2.out.kp hx3 (fun f=>f))
  have HS3:=Lib.hid (HS2.out.ext hx3)
  unfold rplA at hL3
  clear a0 a1 a2 hr3 hx3 HLK
  have a0:=hA3.cell 0 _ rfl
  have a1:=hA3.cell 1 _ rfl
  have a2:=hA3.cell 2 _ rfl
  have l0:=hL3.cell 0 _ rfl
  have l1:=hL3.cell 1 _ rfl
  have l2:=hL3.cell 2 _ rfl
  have l3:=hL3.cell 3 _ rfl
  have l4:=hL3.cell 4 _ rfl
  clear hA3 hL3
 all_goals
  have hg3:=HS3.out.blk
  have g3:=hg3.cell 3 _ rfl
  have f3:=hg3.free 3
  have hz4:=HS3.out.zxid (s.zx+1)
  obtain ⟨w4,hW4⟩:∃ w4,w3.setCell ⟨g,3,none⟩ (.int .i64 (s.zx+1))=w4:=⟨_,rfl⟩
  rw [hW4] at hz4
  have HZ4:=Lib.hid hz4.1
  have HK4:Hid (Kp (SoFr g B) w w4):=((HKF.out.next HX3.out (fun _ _ f=>f.elim)).next hz4.2 (fun i hi hs=>(HOF.out i hs).elim id (fun h=>by omega)))
  have hk34:Kp (fun i=>i=g) w3 w4:=by rw [← hW4];exact Kp.set1 (S:=fun i=>i=g) (Kp.refl _ _) _ 3 _ rfl
  have hgl:g<w.heap.size:=HH.out.blk.lt
  have HA4:=Lib.hid (HA3.out.kp hk34 (by omega))
  have HB4:=Lib.hid (HB3.out.kp hk34 (by omega))
  have HW4:=Lib.hid hW4
  clear hg3 hz4 hW4 hk34
  go_upto_region 12 with (fail)
  rw [HW4.out]
  clear g3 f3 l0 l1 l2 l3 l4 a0 a1 a2
  have hbl:B2.b<w4.heap.size:=HZ4.out.tr.ts.tr.blk.lt
  have HBL:=Lib.hid hbl
  have hbA:B2.b≠w.heap.size∧B2.b≠w.heap.size+1∧B2.b≠g:=by
   refine ⟨fun e=>?_,fun e=>?_,fun e=>?_⟩
   ·exact HZ4.out.safeB.blk HA4.out (by decide) e.symm
   ·exact HZ4.out.safeB.blk HB4.out (by decide) e.symm
   ·exact HZ4.out.safeB.blk HZ4.out.blk (by decide) e.symm
  have HBA:=Lib.hid hbA
  have HAX:Hid (∀ W,Kp (fun i=>w4.heap.size≤i∨i=B2.b) w4 W→Blk W w.heap.size #[.int .i64 sess, .int .i64 num, .slice va ops.length vc] reqT):=fun W hW=>HA4.out.kp hW (fun f=>f.elim (fun f=>by have:=HA4.out.lt;omega) (fun f=>HBA.out.1 f.symm))
  have HGX:Hid (∀ W,Kp (fun i=>w4.heap.size≤i∨i=B2.b) w4 W→Blk W g _ soT):=fun W hW=>HZ4.out.blk.kp hW (fun f=>f.elim (fun f=>by have:=HZ4.out.blk.lt;omega) (fun f=>HBA.out.2.2 f.symm))
  have HOX:Hid (∀ W,Kp (fun i=>w4.heap.size≤i∨i=B2.b) w4 W→OpsAt W (.slice va ops.length vc) ops):=fun W hW=>HOPS.out W ((HK4.out).next hW (fun i hi f=>f.elim (fun f=>by have:=HK4.out.size;omega) (fun f=>(HOF.out i (.inr (.inl (.inl f)))).elim id (fun h=>by omega))))
  have HREQ:=Lib.hid (fun W (hW:Kp (fun i=>w4.heap.size≤i∨i=B2.b) w4 W) (hT:TrA w0 W B2.b B2.m s.room K B2.t s.tr)=>request_any hT HGT.out hK (.slice va ops.length vc) ops sess num (s.zx+1) (HOX.out W hW) HSZ.out)
  obtain ⟨X,hX⟩:∃ X,requestL s.room s.tr sess num (s.zx+1) ops=X:=⟨_,rfl⟩
  rw [hX] at HREQ HE
  have hxl:=request_len s.room s.tr sess num (s.zx+1) ops
  rw [hX] at hxl
  have HXL:=Lib.hid hxl
  obtain ⟨XL,⟨xn,xz,xe,xa,xr⟩⟩:=X
  clear hX hxl hbA
  refine' Av.X.wp_region_dagG (fun i=>i=B2.b) 11 [(83,[900],[])] [900] ((74, .val _)::(75, .val _)::(76, .val _)::(77, .val _)::(78, .val _)::(79, .val _)::(80, .val _)::(81, .val _)::(82, .val _)::(83,⟨fun v=>∃ a n c,v=.agg #[.int .i64 xn, .int .i64 xz, .int .i64 xe, .int .i64 xa, .slice a n c],fun v w'=>∃ u,v=.agg (rplA ⟨xn,xz,xe,xa,xr⟩ u)∧RpAt w' w4.heap.size u ⟨xn,xz,xe,xa,xr⟩∧(∀ x∈xr,RpB 100000 x)∧∃ m' t',TrA w0 w' B2.b m' s.room (K+16) t' XL∧(m'=B2.m∨w4.heap.size≤m')∧∀ i,TOwn B2.b m' t' i→TOwn B2.b B2.m B2.t i∨w4.heap.size≤i⟩)::(8,⟨fun v=>∃ r,v=.pointer (some ⟨r,0,none⟩),fun v w'=>∃ r,v=.pointer (some ⟨r,0,none⟩)∧w4.heap.size≤r∧Blk w' r rpZ rplT⟩)::(900,⟨fun _=>True,fun _ w'=>TrA w0 w' B2.b B2.m s.room K B2.t s.tr⟩)::[]) (by exact ⟨fun _ _ _ _ _=>trivial,⟨fun _ _ _ _ _=>trivial,⟨fun _ _ _ _ _=>trivial,⟨fun _ _ _ _ _=>trivial,⟨fun _ _ _ _ _=>trivial,⟨fun _ _ _ _ _=>trivial,⟨fun _ _ _ _ _=>trivial,⟨fun _ _ _ _ _=>trivial,⟨fun _ _ _ _ _=>trivial,⟨fun _ _ _ hr ⟨u,h1,h2,h3,m',t',h4,h5⟩=>⟨u,h1,h2.ext hr,h3,m',t',h4.ext hr,h5⟩,⟨fun _ _ _ hr ⟨r,h1,h2,h3⟩=>⟨r,h1,h2,h3.kp hr (fun f=>f)⟩,⟨fun _ _ _ hr hv=>TrA.ext hv hr,trivial⟩⟩⟩⟩⟩⟩⟩⟩⟩⟩⟩⟩) (by exact ⟨⟨undef,HZ4.out.tr.ext (Kp.refl (fun _=>False) _).drew⟩,trivial⟩) (by kernel_rfl) (by kernel_rfl) (by kernel_rfl) ?_
  rotate_left 9
  simp only [List.take_succ_cons,List.take_zero]
  repeat (first
   | (refine Av.X.wpD_skipv ?_ ?_ ?_
      focus rfl
      focus rfl
      simp only [Act.put,List.setIfInBounds_toArray,List.set_cons_succ,List.set_cons_zero])
   | (refine' Av.X.wpD_val (c:=_) ?_ (fun w=>Kp.refl _ w) ?_ (fun wq hwq hfz=>?_) ?_
      rotate_left
      focus rfl
      focus rfl
      focus (have hfq:=hfz.at_;have hcq:=hfz.use;(have hgq:=HGX.out _ hwq;have c0:=hgq.cell 0 _ rfl;have c3:=hgq.cell 3 _ rfl;have haq:=HAX.out _ hwq;have a0:=haq.cell 0 _ rfl;have a1:=haq.cell 1 _ rfl;have a2:=haq.cell 2 _ rfl;clear hgq haq);go_simp;first|done|rfl)
      simp only [Act.put,List.setIfInBounds_toArray,List.set_cons_succ,List.set_cons_zero])
   | (refine' Av.X.wpD_con (c:=_) ?_ ?_ (fun wq hwq hfz=>?_) ?_
      rotate_left
      focus rfl
      focus rfl
      focus (have hfq:=hfz.at_;have hcq:=hfz.use;(have hgq:=HGX.out _ hwq;have c0:=hgq.cell 0 _ rfl;have c3:=hgq.cell 3 _ rfl;have haq:=HAX.out _ hwq;have a0:=haq.cell 0 _ rfl;have a1:=haq.cell 1 _ rfl;have a2:=haq.cell 2 _ rfl;clear hgq haq);go_simp;(try (rw [dUpon_enter]));fail)
      simp only [Act.put,List.setIfInBounds_toArray,List.set_cons_succ,List.set_cons_zero])
   | (refine Av.X.wpD_used (A:=fun v=>∃ a n c,v=.agg #[.int .i64 xn, .int .i64 xz, .int .i64 xe, .int .i64 xa, .slice a n c]) (V:=fun v w'=>∃ u,v=.agg (rplA ⟨xn,xz,xe,xa,xr⟩ u)∧RpAt w' w4.heap.size u ⟨xn,xz,xe,xa,xr⟩∧(∀ x∈xr,RpB 100000 x)∧∃ m' t',TrA w0 w' B2.b m' s.room (K+16) t' XL∧(m'=B2.m∨w4.heap.size≤m')∧∀ i,TOwn B2.b m' t' i→TOwn B2.b B2.m B2.t i∨w4.heap.size≤i) 83 ?_ ?_ ?_ ?_ (fun wq hwq hfz=>?_) (fun v83 h83=>?_)
      focus rfl
      focus rfl
      focus (exact ⟨_,none,0,0,rfl⟩)
      focus rfl
      focus (have hfq:=hfz.at_;have hcq:=hfz.use;(have hgq:=HGX.out _ hwq;have c0:=hgq.cell 0 _ rfl;have c3:=hgq.cell 3 _ rfl;have haq:=HAX.out _ hwq;have a0:=haq.cell 0 _ rfl;have a1:=haq.cell 1 _ rfl;have a2:=haq.cell 2 _ rfl;clear hgq haq);go_simp;(try (rw [dUpon_enter]));have h900:TrA w0 wq B2.b B2.m s.room K B2.t s.tr:=(hcq 900 rfl).elim (fun _ h=>h);(with_reducible refine (HREQ.out _ hwq h900).mono ?_);rintro e w' ⟨hbd,u,m',t',rfl,hu,ht,hk,hmm,hown⟩;have hu2:=hu;obtain ⟨us,hus,_⟩:=hu2;obtain ⟨ua,uc,rfl⟩:=hus.slice;refine ⟨_,rfl,⟨_,_,_,rfl⟩,⟨_,rfl,hu.less hwq.size,hbd,m',t',ht,hmm.imp id (fun h=>Nat.le_trans hwq.size h),fun i hi=>(hown i hi).imp id (fun h=>Nat.le_trans hwq.size h)⟩,hk.mono (fun i _ e=>.inr e), ?_⟩;repeat (first|exact PresL.nil|(with_reducible refine PresL.val ?_)|(refine PresL.out rfl ?_)|(refine PresL.keep (fun z ⟨r,h1,h2,h3⟩=>⟨r,h1,h2,h3.kp hk (fun e=>by have:=HBL.out;omega)⟩) ?_)))
      obtain ⟨a83,n83,c83,rfl⟩:=h83
      simp only [Act.put,List.setIfInBounds_toArray,List.set_cons_succ,List.set_cons_zero])
   | (refine Av.X.wpD_made (A:=fun v=>∃ r,v=.pointer (some ⟨r,0,none⟩)) (V:=fun v w'=>∃ r,v=.pointer (some ⟨r,0,none⟩)∧w4.heap.size≤r∧Blk w' r rpZ rplT) 8 ?_ ?_ ?_ ?_ (fun wq hwq hfz=>?_) (fun v8 h8=>?_)
      focus rfl
      focus rfl
      focus (exact ⟨.pointer (some ⟨0,0,none⟩),0,rfl⟩)
      focus rfl
      focus (have hfq:=hfz.at_;have hcq:=hfz.use;(have hgq:=HGX.out _ hwq;have c0:=hgq.cell 0 _ rfl;have c3:=hgq.cell 3 _ rfl;have haq:=HAX.out _ hwq;have a0:=haq.cell 0 _ rfl;have a1:=haq.cell 1 _ rfl;have a2:=haq.cell 2 _ rfl;clear hgq haq);go_simp;(try (rw [dUpon_enter]));rw [dUpon_value];exact mPost ⟨_,rfl⟩ ⟨_,rfl,hwq.size,heap_alloc_new _ _⟩ ((Kp.refl _ _).alloc _))
      obtain ⟨r8,rfl⟩:=h8
      simp only [Act.put,List.setIfInBounds_toArray,List.set_cons_succ,List.set_cons_zero])
   | fail)
  refine Av.X.wpD_nil ?_
  intro w5 hr5 hend
  obtain ⟨u5,hu5e,hu5,hbd5,m5,t5,ht5,hmm5,hown5⟩:∃ u,Value.agg #[.int .i64 xn, .int .i64 xz, .int .i64 xe, .int .i64 xa, .slice a83 n83 c83]=.agg (rplA ⟨xn,xz,xe,xa,xr⟩ u)∧RpAt w5 w4.heap.size u ⟨xn,xz,xe,xa,xr⟩∧(∀ x∈xr,RpB 100000 x)∧∃ m' t',TrA w0 w5 B2.b m' s.room (K+16) t' XL∧(m'=B2.m∨w4.heap.size≤m')∧∀ i,TOwn B2.b m' t' i→TOwn B2.b B2.m B2.t i∨w4.heap.size≤i:=hend 83 (by kernel_rfl)
  obtain ⟨_,e8,hr8,hb8⟩:∃ r,Value.pointer (some ⟨r8,0,none⟩)=.pointer (some ⟨r,0,none⟩)∧w4.heap.size≤r∧Blk w5 r rpZ rplT:=hend 8 (by kernel_rfl)
  obtain rfl:r8=_:=by simpa using e8
  clear hend e8
  obtain rfl:.slice a83 n83 c83=u5:=by
   simp only [rplA,Value.agg.injEq,Array.mk.injEq,List.cons.injEq,and_true,true_and] at hu5e
   exact hu5e
  have hk5:Kp (fun i=>i=B2.b) w4 w5:=hr5.mono (fun i hi e=>e.elim (fun h=>by omega) id)
  have hA5:=HAX.out _ hr5
  have hB5:=HB4.out.kp hk5 (fun e=>HBA.out.2.1 e.symm)
  have ho5:=HOX.out _ hr5
  obtain ⟨w6,hW6⟩:∃ w6,((((w5.setCell ⟨r8,0,none⟩ (.int .i64 xn)).setCell ⟨r8,1,none⟩ (.int .i64 xz)).setCell ⟨r8,2,none⟩ (.int .i64 xe)).setCell ⟨r8,3,none⟩ (.int .i64 xa)).setCell ⟨r8,4,none⟩ (.slice a83 n83 c83)=w6:=⟨_,rfl⟩
  have hk6:Kp (fun i=>i=r8) w5 w6:=by rw [← hW6];exact kp_set5 _ _ _ _ _ _ _
  have hb6:Blk w6 r8 (rplA ⟨xn,xz,xe,xa,xr⟩ (.slice a83 n83 c83)) rplT:=by rw [← hW6];exact ((((hb8.set 0 _).set 1 _).set 2 _).set 3 _).set 4 _
  have hw4:w.heap.size+1<w4.heap.size:=HB4.out.lt
  have hp5:=(HZ4.out.tree hk5 HZ4.out.safeB (fun i e=>.inl e) (by simp) (by simp) ht5 hmm5 hown5).cell hb8 hr8 (by have:=HH.out.ex.size;omega) hk6
  have HP6:=Lib.hid hp5
  have HA6:=Lib.hid (hA5.kp hk6 (by omega))
  have HB6:=Lib.hid (hB5.kp hk6 (by omega))
  have HR6:=Lib.hid hb6
  have HU6:=Lib.hid (hu5.kpT hk6 (noT_blk hb8 (by decide)) (noT_blk hb8 (by decide)))
  have HO6:=Lib.hid (ho5.kp hk6 (fun i hi hl e=>by have h1:i=r8:=e;have h2:=HOL.out i hi;omega))
  have HBD:=Lib.hid hbd5
  have HW6:=Lib.hid hW6
  have HS56:=Lib.hid (Nat.le_trans hk5.size hk6.size)
  have HR8:=Lib.hid hr8
  have HW4S:=Lib.hid hw4
  have hb8c:=hb8
  unfold rpZ at hb8c
  have z0:=hb8c.cell 0 _ rfl
  have z1:=hb8c.cell 1 _ rfl
  have z2:=hb8c.cell 2 _ rfl
  have z3:=hb8c.cell 3 _ rfl
  have z4:=hb8c.cell 4 _ rfl
  have fz0:=hb8c.free 0
  have fz1:=hb8c.free 1
  have fz2:=hb8c.free 2
  have fz3:=hb8c.free 3
  have fz4:=hb8c.free 4
  clear hu5e hu5 hbd5 ht5 hmm5 hown5 hb8 hk5 hA5 hB5 ho5 hW6 hk6 hb6 hp5 hr5 hbl hb8c HREQ HAX HGX HOX hw4 hr8
  go_upto_region 13 with (fail)
  rw [HW6.out]
  clear z0 z1 z2 z3 z4 fz0 fz1 fz2 fz3 fz4
  obtain ⟨B3,hS3,hkf3,hof3⟩:=HP6.out
  have HS6:=Lib.hid hS3
  have HKF6:=Lib.hid hkf3
  have HOF6:Hid (∀ i,SoFr g B3 i→SoFr g B i∨w.heap.size≤i):=fun i hi=>(hof3 i hi).elim (fun h=>HOF.out i h) (fun h=>.inr (by have:=HW4S.out;omega))
  have hA6:=HA6.out
  have a0:=hA6.cell 0 _ rfl
  have a1:=hA6.cell 1 _ rfl
  have a2:=hA6.cell 2 _ rfl
  have hR6:=HR6.out
  unfold rplA at hR6
  have l0:=hR6.cell 0 _ rfl
  have l1:=hR6.cell 1 _ rfl
  have l2:=hR6.cell 2 _ rfl
  have l3:=hR6.cell 3 _ rfl
  have l4:=hR6.cell 4 _ rfl
  have hok6:SoOk (N+1) { s with ss:=T.1,zx:=s.zx+1,tr:=XL }:=⟨HTK.out.mono (Nat.le_succ N),⟨by have:=HSOK.out.zx.1;show 0≤s.zx+1;omega,by have:=HSOK.out.zx.2;show s.zx+1≤_;omega⟩,fun q=>by have:=HSOK.out.ev q;show (s.ev q).length+s.wl.length≤_;omega,HSOK.out.last⟩
  have HOK6:=Lib.hid hok6
  have HCH:=Lib.hid (soChanged_any HS6.out hok6 (by omega) HGT.out.gl (.slice va ops.length vc) (.slice a83 n83 c83) ops ⟨xn,xz,xe,xa,xr⟩ _ HO6.out (fun i hi hs=>(HOF6.out i hs).elim (fun h=>HOFF.out i hi h) (fun h=>by have:=HOL.out i hi;omega)) HU6.out (fun he=>⟨HXL.out.2 he,fun x hx=>Nat.le_trans (HBD.out x hx).path (by unfold maxLen;omega)⟩))
  unfold rplA at HCH
  clear hS3 hkf3 hof3 hA6 hR6 HP6 hok6
  go_wp2_with (fail)
  refine HCH.out.mono ?_
  rintro e w7 ⟨⟨_,rfl⟩,hp7⟩
  obtain ⟨B4,hS7,hkf7,hof7⟩:=hp7
  have hA7:=HA6.out.kp hkf7 (HS6.out.safeA.blk HA6.out (by decide))
  have HA7:=Lib.hid hA7
  have HB7:=Lib.hid (HB6.out.kp hkf7 (HS6.out.safeA.blk HB6.out (by decide)))
  have hR7:=HR6.out.kp hkf7 (HS6.out.safeA.blk HR6.out (by decide))
  have HR7:=Lib.hid hR7
  have HU7:=Lib.hid (HU6.out.kpT hkf7 (HS6.out.safeA.noT (by decide)) (HS6.out.safeA.noT (by decide)))
  have HS7:=Lib.hid hS7
  have HKF7:Hid (Kp (SoFr g B) w w7):=by
   have h1:Kp (SoFr g B) w w6:=HK4.out.next HKF6.out (fun i hi hs=>(HOF.out i hs).elim id (fun h=>by omega))
   exact h1.next hkf7 (fun i hi hs=>(HOF6.out i hs).elim id (fun h=>by omega))
  have HOF7:Hid (∀ i,SoFr g B4 i→SoFr g B i∨w.heap.size≤i):=fun i hi=>(hof7 i hi).elim (fun h=>HOF6.out i h) (fun h=>.inr (by have:=HW4S.out;have:=HS56.out;omega))
  clear a0 a1 a2 l0 l1 l2 l3 l4 HCH hS7 hkf7 hof7 hA7 hR7
  have HOKC:Hid (SoOk (N+1) (changedS { s with ss:=T.1,zx:=s.zx+1,tr:=XL } ops ⟨xn,xz,xe,xa,xr⟩)):=by
   show SoOk _ _
   unfold changedS
   split
   ·exact HOK6.out
   ·exact SoOk.chs _ HOK6.out
  have HLASTC:Hid ((changedS { s with ss:=T.1,zx:=s.zx+1,tr:=XL } ops ⟨xn,xz,xe,xa,xr⟩).last=s.last):=by
   show _=_
   unfold changedS
   split
   ·rfl
   ·rw [chs_last]
  generalize hsc:changedS { s with ss:=T.1,zx:=s.zx+1,tr:=XL } ops ⟨xn,xz,xe,xa,xr⟩=sc at HOKC HLASTC HS7
  have HSC:=Lib.hid hsc
  clear hsc
  have HCP:=Lib.hid (fun W (hW:Ext w7 W)=>copied_any _ (.slice a83 n83 c83) ⟨xn,xz,xe,xa,xr⟩ W (HU7.out.ext hW) (Nat.le_trans HXL.out.1 (by decide)) (fun x hx=>(HBD.out x hx).names))
  unfold rplA at HCP
  go_upto_region 14 with (fail)
  refine' wp_region_dagK 8 [] ((89, .val _)::(90, .val _)::(91, .val _)::(92, .val _)::(93, .val _)::(94, .val _)::(95, .val _)::(96,⟨fun v=>∃ a n c,v=.agg #[.int .i64 xn, .int .i64 xz, .int .i64 xe, .int .i64 xa, .slice a n c],fun v w'=>∃ u,v=.agg (rplA ⟨xn,xz,xe,xa,xr⟩ u)∧RpAt w' 0 u ⟨xn,xz,xe,xa,xr⟩⟩)::[]) (by exact ⟨fun _ _ _ _ _=>trivial,⟨fun _ _ _ _ _=>trivial,⟨fun _ _ _ _ _=>trivial,⟨fun _ _ _ _ _=>trivial,⟨fun _ _ _ _ _=>trivial,⟨fun _ _ _ _ _=>trivial,⟨fun _ _ _ _ _=>trivial,⟨fun _ _ _ hr ⟨u,h1,h2⟩=>⟨u,h1,h2.ext hr⟩,trivial⟩⟩⟩⟩⟩⟩⟩⟩) (by kernel_rfl) (by kernel_rfl) (by kernel_rfl) ?_
  rotate_left 7
  simp only [List.take_succ_cons,List.take_zero]
  repeat (first
   | (refine wpD_skipv ?_ ?_ ?_
      focus rfl
      focus rfl
      simp only [Act.put,List.setIfInBounds_toArray,List.set_cons_succ,List.set_cons_zero])
   | (refine' wpD_val (c:=_) ?_ (fun w=>Kp.refl _ w) ?_ (fun wq hwq hfq=>?_) ?_
      rotate_left
      focus rfl
      focus rfl
      focus ((have hext:Ext w7 wq:=hwq.mono (fun i hi e=>by omega);have hgq:=HS7.out.blk.kp hext (fun f=>f);have c4:=hgq.cell 4 _ rfl;have haq:=HA7.out.kp hext (fun f=>f);have a0:=haq.cell 0 _ rfl;have hrq:=HR7.out.kp hext (fun f=>f);unfold rplA at hrq;have l0:=hrq.cell 0 _ rfl;have l1:=hrq.cell 1 _ rfl;have l2:=hrq.cell 2 _ rfl;have l3:=hrq.cell 3 _ rfl;have l4:=hrq.cell 4 _ rfl;clear hgq haq hrq);go_simp;first|done|rfl)
      simp only [Act.put,List.setIfInBounds_toArray,List.set_cons_succ,List.set_cons_zero])
   | (refine' wpD_con (c:=_) ?_ ?_ (fun wq hwq hfq=>?_) ?_
      rotate_left
      focus rfl
      focus rfl
      focus ((have hext:Ext w7 wq:=hwq.mono (fun i hi e=>by omega);have hgq:=HS7.out.blk.kp hext (fun f=>f);have c4:=hgq.cell 4 _ rfl;have haq:=HA7.out.kp hext (fun f=>f);have a0:=haq.cell 0 _ rfl;have hrq:=HR7.out.kp hext (fun f=>f);unfold rplA at hrq;have l0:=hrq.cell 0 _ rfl;have l1:=hrq.cell 1 _ rfl;have l2:=hrq.cell 2 _ rfl;have l3:=hrq.cell 3 _ rfl;have l4:=hrq.cell 4 _ rfl;clear hgq haq hrq);go_simp;(try (rw [dUpon_enter]));fail)
      simp only [Act.put,List.setIfInBounds_toArray,List.set_cons_succ,List.set_cons_zero])
   | (refine wpD_made (A:=fun v=>∃ a n c,v=.agg #[.int .i64 xn, .int .i64 xz, .int .i64 xe, .int .i64 xa, .slice a n c]) (V:=fun v w'=>∃ u,v=.agg (rplA ⟨xn,xz,xe,xa,xr⟩ u)∧RpAt w' 0 u ⟨xn,xz,xe,xa,xr⟩) 96 ?_ ?_ ?_ ?_ (fun wq hwq hfq=>?_) (fun v96 h96=>?_)
      focus rfl
      focus rfl
      focus (exact ⟨_,none,0,0,rfl⟩)
      focus rfl
      focus ((have hext:Ext w7 wq:=hwq.mono (fun i hi e=>by omega);have hgq:=HS7.out.blk.kp hext (fun f=>f);have c4:=hgq.cell 4 _ rfl;have haq:=HA7.out.kp hext (fun f=>f);have a0:=haq.cell 0 _ rfl;have hrq:=HR7.out.kp hext (fun f=>f);unfold rplA at hrq;have l0:=hrq.cell 0 _ rfl;have l1:=hrq.cell 1 _ rfl;have l2:=hrq.cell 2 _ rfl;have l3:=hrq.cell 3 _ rfl;have l4:=hrq.cell 4 _ rfl;clear hgq haq hrq);go_simp;(try (rw [dUpon_enter]));(with_reducible refine (HCP.out _ hext).mono ?_);rintro e w' ⟨u,rfl,hu,hx⟩;have hu2:=hu;obtain ⟨us,hus,_⟩:=hu2;obtain ⟨ua,uc,rfl⟩:=hus.slice;exact DEnd.made ⟨_,_,_,rfl⟩ ⟨_,rfl,hu.less (Nat.zero_le _)⟩ hx)
      obtain ⟨a96,n96,c96,rfl⟩:=h96
      simp only [Act.put,List.setIfInBounds_toArray,List.set_cons_succ,List.set_cons_zero])
   | fail)
  refine wpD_nil ?_
  intro w8 hr8 hend
  obtain ⟨u8,hu8e,hu8⟩:∃ u,Value.agg #[.int .i64 xn, .int .i64 xz, .int .i64 xe, .int .i64 xa, .slice a96 n96 c96]=.agg (rplA ⟨xn,xz,xe,xa,xr⟩ u)∧RpAt w8 0 u ⟨xn,xz,xe,xa,xr⟩:=hend 96 (by kernel_rfl)
  obtain rfl:.slice a96 n96 c96=u8:=by
   simp only [rplA,Value.agg.injEq,Array.mk.injEq,List.cons.injEq,and_true,true_and] at hu8e
   exact hu8e
  clear hend hu8e
  have hx8:Ext w7 w8:=hr8.mono (fun i hi e=>by omega)
  have hS8:=HS7.out.ext hx8
  obtain ⟨w9,v1,v2,v3,v4⟩:=MapK.update kI64 tLast hS8.lm.map sess (.agg #[.int .i64 xn, .int .i64 xz, .int .i64 xe, .int .i64 xa, .slice a96 n96 c96])
  have hl9:LastR w9 B4.lm (mset B4.M sess (.agg #[.int .i64 xn, .int .i64 xz, .int .i64 xe, .int .i64 xa, .slice a96 n96 c96])) (mset sc.last sess ⟨xn,xz,xe,xa,xr⟩):=by
   refine ⟨v2,fun q=>?_⟩
   have hkq:∀ u (r:RpV),RpAt w8 0 u r→RpAt w9 0 u r:=fun u r h=>h.kpT v3 (hS8.safeL.noT (by simp)) (hS8.safeL.noT (by simp))
   rw [mget_mset]
   by_cases e:q=sess
   ·rw [if_pos e]
    exact ⟨.slice a96 n96 c96,by rw [mget_mset,if_pos e];rfl,hkq _ _ hu8⟩
   ·rw [if_neg e]
    have h1:=hS8.lm.get q
    cases hg:mget sc.last q with
    | none=>
      rw [hg] at h1
      show mget _ q=none
      rw [mget_mset,if_neg e]
      exact h1
    | some r=>
      rw [hg] at h1
      obtain ⟨u,h2,h3⟩:=h1
      exact ⟨u,by rw [mget_mset,if_neg e];exact h2,hkq _ _ h3⟩
  have hp9:=hS8.lasts v3 hl9
  have HP9:=Lib.hid hp9
  have hsl:=hS8.safeL
  have HB9:=Lib.hid ((HB7.out.kp hx8 (fun f=>f)).kp v3 (hsl.blk (HB7.out.kp hx8 (fun f=>f)) (by simp)))
  have hR9:=(HR7.out.kp hx8 (fun f=>f)).kp v3 (hsl.blk (HR7.out.kp hx8 (fun f=>f)) (by simp))
  have HU9:=Lib.hid ((HU7.out.ext hx8).kpT v3 (hsl.noT (by simp)) (hsl.noT (by simp)))
  have HX8:=Lib.hid hx8
  have HSZ9:Hid (w7.heap.size≤w9.heap.size):=Nat.le_trans hx8.size v3.size
  have v1':(Instr.mapUpdate 138 (.map (some B4.lm)) (.int .i64 sess) (.agg #[.int .i64 xn, .int .i64 xz, .int .i64 xe, .int .i64 xa, .slice a96 n96 c96])).run Tryz.prog w8=.ok () w9:=v1
  clear hu8 hx8 hS8 v1 v2 v3 v4 hl9 hp9 hr8 hsl HCP
  unfold rplA at hR9
  have l0:=hR9.cell 0 _ rfl
  have l1:=hR9.cell 1 _ rfl
  have l2:=hR9.cell 2 _ rfl
  have l3:=hR9.cell 3 _ rfl
  have l4:=hR9.cell 4 _ rfl
  clear hR9
  go_upto_region 15 with (fail)
  have hB9:=HB9.out
  unfold rpZ at hB9
  have c0:=hB9.cell 0 _ rfl
  have c1:=hB9.cell 1 _ rfl
  have c2:=hB9.cell 2 _ rfl
  have c3:=hB9.cell 3 _ rfl
  have c4:=hB9.cell 4 _ rfl
  have fc0:=hB9.free 0
  have fc1:=hB9.free 1
  have fc2:=hB9.free 2
  have fc3:=hB9.free 3
  have fc4:=hB9.free 4
  clear hB9 v1'
  go_wp2_with (fail)
  go_light
  refine bodyPost_ret (v:=.agg #[.int .i64 xn, .int .i64 xz, .int .i64 xe, .int .i64 xa, .slice a83 n83 c83]) (by simp [results,Tryz.results34,go_sem,c0,c1,c2,c3,c4]) rfl ?_
  have k5:=kp_set5 w9 (w.heap.size+1) (.int .i64 xn) (.int .i64 xz) (.int .i64 xe) (.int .i64 xa) (.slice a83 n83 c83)
  rw [HE.out]
  have hs4:=HW4S.out
  have hs6:=HS56.out
  refine ⟨.slice a83 n83 c83,rfl,(HU9.out.kpT k5 (noT_blk HB9.out (by decide)) (noT_blk HB9.out (by decide))).less (by omega),SoPost.cell ?_ HB9.out (by omega) HH.out.ex.size k5, ?_⟩
  ·obtain ⟨B5,h1,h2,h3⟩:=HP9.out
   refine ⟨B5, ?_,((HKF7.out.next HX8.out (fun _ _ f=>f.elim)).next h2 (fun i hi hs=>(HOF7.out i hs).elim id (fun h=>by omega))),fun i hi=>(h3 i hi).elim (fun h=>HOF7.out i h) (fun h=>.inr (by have:=HKF7.out.size;have:=HX8.out.size;omega))⟩
   rw [HSC.out]
   exact h1
  ·rw [HSC.out]
   refine ⟨HOKC.out.ss,HOKC.out.zx,HOKC.out.ev,fun q r hq=>?_⟩
   have hq:mget (mset sc.last sess ⟨xn,xz,xe,xa,xr⟩) q=some r:=hq
   rw [mget_mset] at hq
   split at hq
   ·obtain rfl:=Option.some.inj hq
    exact ⟨HXL.out.1,fun x hx=>(HBD.out x hx).names⟩
   ·exact HOKC.out.last q r hq
theorem soAsk_first (h:SoR w0 w g K B s) (hok:SoOk N s) (hN:N≤90000) (hK:K≤90000) (hG:GT w0) (v:Value) (ops:List OpV) (sess num:Int) (ho:OpsAt w v ops) (hsz:OpsS ops) (hoff:∀ i,v.ownBlock=some i→¬ SoFr g B i) (hol:∀ i,v.ownBlock=some i→i<w.heap.size) (hb:mayR sess num ops=0) (hf:(touchS s.ss sess).2=0) (hl:mget s.last sess=none) :
  Calls Tryz.prog 34 #[.pointer (some ⟨g,0,none⟩), .agg #[.int .i64 sess, .int .i64 num,v]] w (AskPost w0 w g K N B (askS s sess num ops)):=soAsk_new h hok hN hK hG v ops sess num ho hsz hoff hol hb hf (.inl hl)
theorem soAsk_next (h:SoR w0 w g K B s) (hok:SoOk N s) (hN:N≤90000) (hK:K≤90000) (hG:GT w0) (v:Value) (ops:List OpV) (sess num:Int) (ho:OpsAt w v ops) (hsz:OpsS ops) (hoff:∀ i,v.ownBlock=some i→¬ SoFr g B i) (hol:∀ i,v.ownBlock=some i→i<w.heap.size) (hb:mayR sess num ops=0) (hf:(touchS s.ss sess).2=0) (r:RpV) (hl:mget s.last sess=some r) (hn:r.num<num) :
  Calls Tryz.prog 34 #[.pointer (some ⟨g,0,none⟩), .agg #[.int .i64 sess, .int .i64 num,v]] w (AskPost w0 w g K N B (askS s sess num ops)):=soAsk_new h hok hN hK hG v ops sess num ho hsz hoff hol hb hf (.inr ⟨r,hl,hn⟩)
end Go.Proofs.YtnlefnhdhigecaaGreatDoor

namespace Go.Proofs.YtnlefnhdhigecaaGreatDoor
set_option maxRecDepth 100000
open Go.RowKit Av
variable {w0 w w':World} {g K N:Nat} {B:SoB} {s:SoV}
theorem soAsk_any (h:SoR w0 w g K B s) (hok:SoOk N s) (hN:N≤90000) (hK:K≤90000) (hG:GT w0) (v:Value) (ops:List OpV) (sess num:Int) (ho:OpsAt w v ops) (hsz:OpsS ops) (hoff:∀ i,v.ownBlock=some i→¬ SoFr g B i) (hol:∀ i,v.ownBlock=some i→i<w.heap.size) :
  Calls Tryz.prog 34 #[.pointer (some ⟨g,0,none⟩), .agg #[.int .i64 sess, .int .i64 num,v]] w (AskPost w0 w g K N B (askS s sess num ops)):=by
 by_cases hb:mayR sess num ops=0
 ·cases hf:findS s.ss.l sess with
  | none=>exact soAsk_nosess h hok hN hG v ops sess num ho hsz hb hf
  | some k=>
    have hf2:(touchS s.ss sess).2=0:=by unfold touchS;rw [hf]
    cases hl:mget s.last sess with
    | none=>exact soAsk_first h hok hN hK hG v ops sess num ho hsz hoff hol hb hf2 hl
    | some r=>
      by_cases h1:num=r.num
      ·exact soAsk_again h hok hN hG v ops sess num ho hsz hb hf2 r hl h1
      ·by_cases h2:num<r.num
       ·exact soAsk_old h hok hN hG v ops sess num ho hsz hb hf2 r hl h2
       ·exact soAsk_next h hok hN hK hG v ops sess num ho hsz hoff hol hb hf2 r hl (by omega)
 ·exact soAsk_bad h hok hG v ops sess num ho hsz hb
end Go.Proofs.YtnlefnhdhigecaaGreatDoor

namespace Go.Proofs.YtnlefnhdhigecaaGreatDoor
set_option maxRecDepth 100000
open Go.RowKit Av
abbrev soTs:List TypeId:=[soT,trT,ndT,ssT,seT,wlT,arT,evT]
variable {w0 w w':World} {g K N:Nat} {B:SoB} {s:SoV}
def Oth (w0 w w':World):Prop:=∃ S ms,Kp S w w'∧Safe w0 w S soTs ms
theorem SoR.oth (h:SoR w0 w g K B s) {W:World} (hx:Ext w W) (k:Kp (SoFr g B) W w'):Oth w0 w w':=⟨SoFr g B,[B.m,B.lm,B.em],(Ext.kp hx).trans k,h.safeA⟩
theorem SoPost.oth {L:Nat} {s':SoV} {W:World} (h:SoR w0 w g K B s) (hx:Ext w W) (p:SoPost w0 W g L B s' w'):Oth w0 w w':=by
 obtain ⟨B',_,k,_⟩:=p
 exact h.oth hx k
theorem SoOk.opened (h:SoOk N s) (span:Int):SoOk (N+1) (openO s span).1:=⟨h.ss.open span,h.up.zx,h.up.ev,h.last⟩
theorem SoOk.watched (h:SoOk N s) (x:Wt):SoOk (N+1) (watchO s x).1:=by
 unfold watchO
 split
 ·exact h.up
 ·refine ⟨h.up.ss,h.up.zx,fun q=>?_,h.last⟩
  have h1:=armG_len 1000 s.wl x
  have h2:=h.ev q
  show (s.ev q).length+(armG 1000 s.wl x).length≤N+1
  omega
theorem SoOk.told (h:SoOk N s) (id:Int):SoOk N (eventsO s id).1:=by
 refine ⟨h.ss,h.zx,fun q=>?_,h.last⟩
 have h2:=h.ev q
 show ((if q=id then [] else s.ev q).length)+s.wl.length≤N
 split
 ·simp only [List.length_nil];omega
 ·exact h2
abbrev opTy:TypeId:=33
def reqZ:Array Value:=#[.int .i64 0, .int .i64 0, .slice none 0 0]
def rq3 (w:World) (r:Nat) (u0 u1 u2:Value):World:=((w.setCell ⟨r,0,none⟩ u0).setCell ⟨r,1,none⟩ u1).setCell ⟨r,2,none⟩ u2
theorem kp_rq3 (w:World) (r:Nat) (u0 u1 u2:Value):Kp (fun i=>i=r) w (rq3 w r u0 u1 u2):=by
 have k:∀ {W:World} (i:Nat) (u:Value),Kp (fun i=>i=r) w W→Kp (fun i=>i=r) w (W.setCell ⟨r,i,none⟩ u):=fun i u h=>h.set1 r i u rfl
 exact k 2 u2 (k 1 u1 (k 0 u0 (Kp.refl _ _)))
end Go.Proofs.YtnlefnhdhigecaaGreatDoor

