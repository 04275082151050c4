/- Walks: package script: op. -/
import Derived.Test.YtnlefnhdhigecaaGreatDoorAvG19
import Derived.Test.YtnlefnhdhigecaaGreatDoorAvG27
namespace Go.Proofs.YtnlefnhdhigecaaGreatDoor
set_option maxRecDepth 100000
open Go.RowKit Av
def opZ:Array Value:=#[.int .i64 0, .string ⟨#[]⟩, .string ⟨#[]⟩, .int .i64 0, .int .i64 0]
set_option maxHeartbeats 12800000 in
theorem op_any (rb m:Nat) (r:RdS) (w:World) (h:RdrAt w rb m r) (hs:SmR r) (hm:m≤w.heap.size) :
  Calls Tryz.prog 221 #[.pointer (some ⟨rb,0,none⟩)] w fun e w'=>e=.returned (opR r).1.val∧RdrAt w' rb m (opR r).2∧Kp (fun i=>i=rb) w w':=by
 obtain ⟨w0,hw0⟩:∃ W,w.alloc (.cells opZ opTy)=W:=⟨_,rfl⟩
 have hx0:Ext w w0:=by rw [← hw0];exact (Kp.refl _ _).alloc _
 have HZ:Hid (Blk w0 w.heap.size opZ opTy):=by show Blk _ _ _ _;rw [← hw0];exact heap_alloc_new w _
 have HK0:Hid (Kp (fun i=>i=rb) w w0):=Ext.kp hx0
 have HZR:Hid (w.heap.size≠rb):=by have:=h.cells.choose_spec.choose_spec.2.2.2;show _≠_;omega
 have HW:=Lib.hid (word_any rb m r w0 (h.ext hx0))
 obtain ⟨k,hk⟩:∃ k,wordR r=k:=⟨_,rfl⟩
 have hs1:=hs.word.1
 rw [hk] at HW hs1
 obtain ⟨p,hp⟩:∃ p,partR k.2=p:=⟨_,rfl⟩
 have hs2:=hs1.part.1
 rw [hp] at hs2
 have HS2:=Lib.hid hs2
 have HW0:=Lib.hid hw0
 unfold opZ at HW0
 have HP:=Lib.hid hp
 have HM:=Lib.hid hm
 have HKK:=Lib.hid hk
 clear h hs hx0 hs1 hs2 hw0 hk hp hm
 obtain ⟨x,hxk⟩:∃ x,k.1=x:=⟨_,rfl⟩
 rw [hxk] at HW
 have HXK:=Lib.hid hxk
 clear hxk
 by_cases e1:x=kCreate
 ·have ho:opR r=(⟨1,bA p.1,bA (dataR p.2).1,0,(numR (dataR p.2).2).1⟩,(numR (dataR p.2).2).2):=by
   have hxk:=HXK.out
   unfold opR
   simp only [HKK.out,HP.out,hxk]
   rw [if_pos e1]
  rw [ho]
  have q1:((bA x).toList == [99,114,101,97,116,101])=true:=by rw [bA_beq];exact decide_eq_true e1
  clear ho e1
  obtain ⟨d,hd⟩:∃ d,dataR p.2=d:=⟨_,rfl⟩
  have hsd:=HS2.out.data.1
  rw [hd] at hsd ⊢
  have HD:=Lib.hid hd
  have HS4:=Lib.hid hsd
  obtain ⟨u,hu⟩:∃ u,numR d.2=u:=⟨_,rfl⟩
  rw [hu]
  have HU:=Lib.hid hu
  clear hd hsd hu
  go_enter Tryz.func221,Tryz.ntmps221
  go_upto_region 1 with (fail)
  rw [HW0.out]
  clear HW0
  go_wp2_with (fail)
  refine HW.out.mono ?_
  rintro e w1 ⟨rfl,h1,hk1⟩
  have HK1:=Lib.hid (HK0.out.next hk1 (fun _ _ e=>e))
  have HZ1:=Lib.hid (HZ.out.kp hk1 HZR.out)
  have hpa:=part_any rb m _ w1 h1
  rw [HP.out] at hpa
  have HPA:=Lib.hid hpa
  clear h1 hk1 HW HK0 HZ hpa
  go_wp2_with (fail)
  refine HPA.out.mono ?_
  rintro e w2 ⟨rfl,h2,hk2⟩
  have HK2:=Lib.hid (HK1.out.next hk2 (fun _ _ e=>e))
  have HZ2:=Lib.hid (HZ1.out.kp hk2 HZR.out)
  have hrl:=(h2.cells).choose_spec.choose_spec.2.2.2
  obtain ⟨w3,hw3⟩:∃ W,w2.alloc (.cells #[.int .i64 0, .string (bA p.1), .string ⟨#[]⟩, .int .i64 0, .int .i64 0] opTy)=W:=⟨_,rfl⟩
  have hx3:Ext w2 w3:=by rw [← hw3];exact (Kp.refl _ _).alloc _
  have hb3:Blk w3 w2.heap.size #[.int .i64 0, .string (bA p.1), .string ⟨#[]⟩, .int .i64 0, .int .i64 0] opTy:=by rw [← hw3];exact heap_alloc_new w2 _
  have H3:=Lib.hid (h2.ext hx3)
  have HK3:=Lib.hid (HK2.out.next hx3 (fun _ _ f=>f.elim))
  have HZ3:=Lib.hid (HZ2.out.kp hx3 (fun f=>f))
  have HB3:=Lib.hid hb3
  have HW3:=Lib.hid hw3
  have HNE:Hid (w2.heap.size≠rb):=by show _≠_;omega
  have HZL:Hid (w.heap.size<w2.heap.size):=HZ2.out.lt
  clear h2 hk2 hw3 hx3 hb3 hrl HPA HK1 HK2 HZ1 HZ2
  go_upto_region 3 with (fail)
  rw [HW3.out]
  clear HW3
  generalize w2.heap.size=b at *
  go_wp2_with (fail)
  have hdat:=data_any rb m p.2 w3 H3.out
  rw [HD.out] at hdat
  refine hdat.mono ?_
  rintro e w4 ⟨rfl,h4,k4⟩
  have HB4:=Lib.hid (HB3.out.kp k4 HNE.out)
  have HZ4:=Lib.hid (HZ3.out.kp k4 HZR.out)
  have HK4:=Lib.hid (HK3.out.next k4 (fun _ _ e=>e))
  have H4:=Lib.hid h4
  have hb4:=HB4.out
  have c0:=hb4.cell 0 _ rfl
  have c1:=hb4.cell 1 _ rfl
  have c2:=hb4.cell 2 _ rfl
  have c3:=hb4.cell 3 _ rfl
  have c4:=hb4.cell 4 _ rfl
  have fc0:=hb4.free 0
  have fc1:=hb4.free 1
  have fc2:=hb4.free 2
  have fc3:=hb4.free 3
  have fc4:=hb4.free 4
  clear hb4 h4 k4 H3 HK3 HZ3 HB3 HS2 hdat
  obtain ⟨w5,hw5⟩:∃ W,(w4.setCell ⟨b,0,none⟩ (.int .i64 1)).setCell ⟨b,2,none⟩ (.string (bA d.1))=W:=⟨_,rfl⟩
  have k5:Kp (fun i=>i=b) w4 w5:=by rw [← hw5];exact ((Kp.refl (fun i=>i=b) w4).set1 b 0 _ rfl).set1 b 2 _ rfl
  have HB5:Hid (Blk w5 b #[.int .i64 1, .string (bA p.1), .string (bA d.1), .int .i64 0, .int .i64 0] opTy):=by show Blk _ _ _ _;rw [← hw5];exact (HB4.out.set 0 _).set 2 _
  have HW5:=Lib.hid hw5
  have H5:=Lib.hid (H4.out.off k5 HNE.out (by have:=HZL.out;have:=HM.out;omega))
  have HK5:=Lib.hid (HK4.out.next k5 (fun i hi e=>by have:=HZL.out;omega))
  have HZ5:=Lib.hid (HZ4.out.kp k5 (by have:=HZL.out;omega))
  clear hw5 k5 H4 HK4 HZ4 HB4
  go_upto_region 7 with (fail)
  rw [HW5.out]
  clear HW5 c0 c1 c2 c3 c4 fc0 fc1 fc2 fc3 fc4
  go_wp2_with (fail)
  have hnum:=number_any rb m d.2 w5 H5.out HS4.out
  rw [HU.out] at hnum
  refine hnum.mono ?_
  rintro e w6 ⟨rfl,h6,k6⟩
  have HB6:=Lib.hid (HB5.out.kp k6 HNE.out)
  have HZ6:=Lib.hid (HZ5.out.kp k6 HZR.out)
  have HK6:=Lib.hid (HK5.out.next k6 (fun _ _ e=>e))
  have H6:=Lib.hid h6
  have hb6:=HB6.out
  have c0:=hb6.cell 0 _ rfl
  have c1:=hb6.cell 1 _ rfl
  have c2:=hb6.cell 2 _ rfl
  have c3:=hb6.cell 3 _ rfl
  have c4:=hb6.cell 4 _ rfl
  have fc0:=hb6.free 0
  have fc1:=hb6.free 1
  have fc2:=hb6.free 2
  have fc3:=hb6.free 3
  have fc4:=hb6.free 4
  clear hb6 h6 k6 H5 HK5 HZ5 HB5 hnum
  obtain ⟨w7,hw7⟩:∃ W,w6.setCell ⟨b,4,none⟩ (.int .i64 u.1)=W:=⟨_,rfl⟩
  have k7:Kp (fun i=>i=b) w6 w7:=by rw [← hw7];exact (Kp.refl (fun i=>i=b) w6).set1 b 4 _ rfl
  have HB7:Hid (Blk w7 b #[.int .i64 1, .string (bA p.1), .string (bA d.1), .int .i64 0, .int .i64 u.1] opTy):=by show Blk _ _ _ _;rw [← hw7];exact HB6.out.set 4 _
  have HW7:=Lib.hid hw7
  have H7:=Lib.hid (H6.out.off k7 HNE.out (by have:=HZL.out;have:=HM.out;omega))
  have HK7:=Lib.hid (HK6.out.next k7 (fun i hi e=>by have:=HZL.out;omega))
  have HZ7:=Lib.hid (HZ6.out.kp k7 (by have:=HZL.out;omega))
  clear hw7 k7 H6 HK6 HZ6 HB6
  go_upto_region 21 with (fail)
  rw [HW7.out]
  clear HW7 c0 c1 c2 c3 c4 fc0 fc1 fc2 fc3 fc4
  have hbw:=(HB7).out
  have hzw:=(HZ7).out
  unfold opZ at hzw
  have y0:=hbw.cell 0 _ rfl
  have y1:=hbw.cell 1 _ rfl
  have y2:=hbw.cell 2 _ rfl
  have y3:=hbw.cell 3 _ rfl
  have y4:=hbw.cell 4 _ rfl
  have z0:=hzw.cell 0 _ rfl
  have z1:=hzw.cell 1 _ rfl
  have z2:=hzw.cell 2 _ rfl
  have z3:=hzw.cell 3 _ rfl
  have z4:=hzw.cell 4 _ rfl
  have fz0:=hzw.free 0
  have fz1:=hzw.free 1
  have fz2:=hzw.free 2
  have fz3:=hzw.free 3
  have fz4:=hzw.free 4
  clear hbw hzw
  go_wp2_with (fail)
  go_light
  refine bodyPost_ret (v:=.agg #[.int .i64 1, .string (bA p.1), .string (bA d.1), .int .i64 0, .int .i64 u.1]) (by simp [results,Tryz.results221,go_sem,z0,z1,z2,z3,z4]) rfl ?_
  have k5:=kp_set5 (w7) w.heap.size ((#[.int .i64 1, .string (bA p.1), .string (bA d.1), .int .i64 0, .int .i64 u.1])[0]) ((#[.int .i64 1, .string (bA p.1), .string (bA d.1), .int .i64 0, .int .i64 u.1])[1]) ((#[.int .i64 1, .string (bA p.1), .string (bA d.1), .int .i64 0, .int .i64 u.1])[2]) ((#[.int .i64 1, .string (bA p.1), .string (bA d.1), .int .i64 0, .int .i64 u.1])[3]) ((#[.int .i64 1, .string (bA p.1), .string (bA d.1), .int .i64 0, .int .i64 u.1])[4])
  exact ⟨rfl,(H7).out.off k5 HZR.out HM.out,(HK7).out.next k5 (fun i hi e=>by omega)⟩
 by_cases e2:x=kDelete
 ·have ho:opR r=(⟨2,bA p.1,bA [],(numR p.2).1,0⟩,(numR p.2).2):=by
   have hxk:=HXK.out
   unfold opR
   simp only [HKK.out,HP.out,hxk]
   rw [if_neg e1,if_pos e2]
  rw [ho]
  have q1:((bA x).toList == [99,114,101,97,116,101])=false:=by rw [bA_beq];exact decide_eq_false e1
  have q2:((bA x).toList == [100,101,108,101,116,101])=true:=by rw [bA_beq];exact decide_eq_true e2
  clear ho e1 e2
  obtain ⟨d,hd⟩:∃ d,numR p.2=d:=⟨_,rfl⟩
  rw [hd]
  have HD:=Lib.hid hd
  clear hd
  go_enter Tryz.func221,Tryz.ntmps221
  go_upto_region 1 with (fail)
  rw [HW0.out]
  clear HW0
  go_wp2_with (fail)
  refine HW.out.mono ?_
  rintro e w1 ⟨rfl,h1,hk1⟩
  have HK1:=Lib.hid (HK0.out.next hk1 (fun _ _ e=>e))
  have HZ1:=Lib.hid (HZ.out.kp hk1 HZR.out)
  have hpa:=part_any rb m _ w1 h1
  rw [HP.out] at hpa
  have HPA:=Lib.hid hpa
  clear h1 hk1 HW HK0 HZ hpa
  go_wp2_with (fail)
  refine HPA.out.mono ?_
  rintro e w2 ⟨rfl,h2,hk2⟩
  have HK2:=Lib.hid (HK1.out.next hk2 (fun _ _ e=>e))
  have HZ2:=Lib.hid (HZ1.out.kp hk2 HZR.out)
  have hrl:=(h2.cells).choose_spec.choose_spec.2.2.2
  obtain ⟨w3,hw3⟩:∃ W,w2.alloc (.cells #[.int .i64 0, .string (bA p.1), .string ⟨#[]⟩, .int .i64 0, .int .i64 0] opTy)=W:=⟨_,rfl⟩
  have hx3:Ext w2 w3:=by rw [← hw3];exact (Kp.refl _ _).alloc _
  have hb3:Blk w3 w2.heap.size #[.int .i64 0, .string (bA p.1), .string ⟨#[]⟩, .int .i64 0, .int .i64 0] opTy:=by rw [← hw3];exact heap_alloc_new w2 _
  have H3:=Lib.hid (h2.ext hx3)
  have HK3:=Lib.hid (HK2.out.next hx3 (fun _ _ f=>f.elim))
  have HZ3:=Lib.hid (HZ2.out.kp hx3 (fun f=>f))
  have HB3:=Lib.hid hb3
  have HW3:=Lib.hid hw3
  have HNE:Hid (w2.heap.size≠rb):=by show _≠_;omega
  have HZL:Hid (w.heap.size<w2.heap.size):=HZ2.out.lt
  clear h2 hk2 hw3 hx3 hb3 hrl HPA HK1 HK2 HZ1 HZ2
  go_upto_region 3 with (fail)
  rw [HW3.out]
  clear HW3
  generalize w2.heap.size=b at *
  go_wp2_with (fail)
  have hnum:=number_any rb m p.2 w3 H3.out HS2.out
  rw [HD.out] at hnum
  refine hnum.mono ?_
  rintro e w4 ⟨rfl,h4,k4⟩
  have HB4:=Lib.hid (HB3.out.kp k4 HNE.out)
  have HZ4:=Lib.hid (HZ3.out.kp k4 HZR.out)
  have HK4:=Lib.hid (HK3.out.next k4 (fun _ _ e=>e))
  have H4:=Lib.hid h4
  have hb4:=HB4.out
  have c0:=hb4.cell 0 _ rfl
  have c1:=hb4.cell 1 _ rfl
  have c2:=hb4.cell 2 _ rfl
  have c3:=hb4.cell 3 _ rfl
  have c4:=hb4.cell 4 _ rfl
  have fc0:=hb4.free 0
  have fc1:=hb4.free 1
  have fc2:=hb4.free 2
  have fc3:=hb4.free 3
  have fc4:=hb4.free 4
  clear hb4 h4 k4 H3 HK3 HZ3 HB3 hnum
  obtain ⟨w5,hw5⟩:∃ W,(w4.setCell ⟨b,0,none⟩ (.int .i64 2)).setCell ⟨b,3,none⟩ (.int .i64 d.1)=W:=⟨_,rfl⟩
  have k5:Kp (fun i=>i=b) w4 w5:=by rw [← hw5];exact ((Kp.refl (fun i=>i=b) w4).set1 b 0 _ rfl).set1 b 3 _ rfl
  have HB5:Hid (Blk w5 b #[.int .i64 2, .string (bA p.1), .string ⟨#[]⟩, .int .i64 d.1, .int .i64 0] opTy):=by show Blk _ _ _ _;rw [← hw5];exact (HB4.out.set 0 _).set 3 _
  have HW5:=Lib.hid hw5
  have H5:=Lib.hid (H4.out.off k5 HNE.out (by have:=HZL.out;have:=HM.out;omega))
  have HK5:=Lib.hid (HK4.out.next k5 (fun i hi e=>by have:=HZL.out;omega))
  have HZ5:=Lib.hid (HZ4.out.kp k5 (by have:=HZL.out;omega))
  clear hw5 k5 H4 HK4 HZ4 HB4
  go_upto_region 21 with (fail)
  rw [HW5.out]
  clear HW5 c0 c1 c2 c3 c4 fc0 fc1 fc2 fc3 fc4
  have hbw:=(HB5).out
  have hzw:=(HZ5).out
  unfold opZ at hzw
  have y0:=hbw.cell 0 _ rfl
  have y1:=hbw.cell 1 _ rfl
  have y2:=hbw.cell 2 _ rfl
  have y3:=hbw.cell 3 _ rfl
  have y4:=hbw.cell 4 _ rfl
  have z0:=hzw.cell 0 _ rfl
  have z1:=hzw.cell 1 _ rfl
  have z2:=hzw.cell 2 _ rfl
  have z3:=hzw.cell 3 _ rfl
  have z4:=hzw.cell 4 _ rfl
  have fz0:=hzw.free 0
  have fz1:=hzw.free 1
  have fz2:=hzw.free 2
  have fz3:=hzw.free 3
  have fz4:=hzw.free 4
  clear hbw hzw
  go_wp2_with (fail)
  go_light
  refine bodyPost_ret (v:=.agg #[.int .i64 2, .string (bA p.1), .string ⟨#[]⟩, .int .i64 d.1, .int .i64 0]) (by simp [results,Tryz.results221,go_sem,z0,z1,z2,z3,z4]) rfl ?_
  have k5:=kp_set5 (w5) w.heap.size ((#[.int .i64 2, .string (bA p.1), .string ⟨#[]⟩, .int .i64 d.1, .int .i64 0])[0]) ((#[.int .i64 2, .string (bA p.1), .string ⟨#[]⟩, .int .i64 d.1, .int .i64 0])[1]) ((#[.int .i64 2, .string (bA p.1), .string ⟨#[]⟩, .int .i64 d.1, .int .i64 0])[2]) ((#[.int .i64 2, .string (bA p.1), .string ⟨#[]⟩, .int .i64 d.1, .int .i64 0])[3]) ((#[.int .i64 2, .string (bA p.1), .string ⟨#[]⟩, .int .i64 d.1, .int .i64 0])[4])
  exact ⟨rfl,(H5).out.off k5 HZR.out HM.out,(HK5).out.next k5 (fun i hi e=>by omega)⟩
 by_cases e3:x=kSet
 ·have ho:opR r=(⟨3,bA p.1,bA (dataR p.2).1,(numR (dataR p.2).2).1,0⟩,(numR (dataR p.2).2).2):=by
   have hxk:=HXK.out
   unfold opR
   simp only [HKK.out,HP.out,hxk]
   rw [if_neg e1,if_neg e2,if_pos e3]
  rw [ho]
  have q1:((bA x).toList == [99,114,101,97,116,101])=false:=by rw [bA_beq];exact decide_eq_false e1
  have q2:((bA x).toList == [100,101,108,101,116,101])=false:=by rw [bA_beq];exact decide_eq_false e2
  have q3:((bA x).toList == [115,101,116])=true:=by rw [bA_beq];exact decide_eq_true e3
  clear ho e1 e2 e3
  obtain ⟨d,hd⟩:∃ d,dataR p.2=d:=⟨_,rfl⟩
  have hsd:=HS2.out.data.1
  rw [hd] at hsd ⊢
  have HD:=Lib.hid hd
  have HS4:=Lib.hid hsd
  obtain ⟨u,hu⟩:∃ u,numR d.2=u:=⟨_,rfl⟩
  rw [hu]
  have HU:=Lib.hid hu
  clear hd hsd hu
  go_enter Tryz.func221,Tryz.ntmps221
  go_upto_region 1 with (fail)
  rw [HW0.out]
  clear HW0
  go_wp2_with (fail)
  refine HW.out.mono ?_
  rintro e w1 ⟨rfl,h1,hk1⟩
  have HK1:=Lib.hid (HK0.out.next hk1 (fun _ _ e=>e))
  have HZ1:=Lib.hid (HZ.out.kp hk1 HZR.out)
  have hpa:=part_any rb m _ w1 h1
  rw [HP.out] at hpa
  have HPA:=Lib.hid hpa
  clear h1 hk1 HW HK0 HZ hpa
  go_wp2_with (fail)
  refine HPA.out.mono ?_
  rintro e w2 ⟨rfl,h2,hk2⟩
  have HK2:=Lib.hid (HK1.out.next hk2 (fun _ _ e=>e))
  have HZ2:=Lib.hid (HZ1.out.kp hk2 HZR.out)
  have hrl:=(h2.cells).choose_spec.choose_spec.2.2.2
  obtain ⟨w3,hw3⟩:∃ W,w2.alloc (.cells #[.int .i64 0, .string (bA p.1), .string ⟨#[]⟩, .int .i64 0, .int .i64 0] opTy)=W:=⟨_,rfl⟩
  have hx3:Ext w2 w3:=by rw [← hw3];exact (Kp.refl _ _).alloc _
  have hb3:Blk w3 w2.heap.size #[.int .i64 0, .string (bA p.1), .string ⟨#[]⟩, .int .i64 0, .int .i64 0] opTy:=by rw [← hw3];exact heap_alloc_new w2 _
  have H3:=Lib.hid (h2.ext hx3)
  have HK3:=Lib.hid (HK2.out.next hx3 (fun _ _ f=>f.elim))
  have HZ3:=Lib.hid (HZ2.out.kp hx3 (fun f=>f))
  have HB3:=Lib.hid hb3
  have HW3:=Lib.hid hw3
  have HNE:Hid (w2.heap.size≠rb):=by show _≠_;omega
  have HZL:Hid (w.heap.size<w2.heap.size):=HZ2.out.lt
  clear h2 hk2 hw3 hx3 hb3 hrl HPA HK1 HK2 HZ1 HZ2
  go_upto_region 3 with (fail)
  rw [HW3.out]
  clear HW3
  generalize w2.heap.size=b at *
  go_wp2_with (fail)
  have hdat:=data_any rb m p.2 w3 H3.out
  rw [HD.out] at hdat
  refine hdat.mono ?_
  rintro e w4 ⟨rfl,h4,k4⟩
  have HB4:=Lib.hid (HB3.out.kp k4 HNE.out)
  have HZ4:=Lib.hid (HZ3.out.kp k4 HZR.out)
  have HK4:=Lib.hid (HK3.out.next k4 (fun _ _ e=>e))
  have H4:=Lib.hid h4
  have hb4:=HB4.out
  have c0:=hb4.cell 0 _ rfl
  have c1:=hb4.cell 1 _ rfl
  have c2:=hb4.cell 2 _ rfl
  have c3:=hb4.cell 3 _ rfl
  have c4:=hb4.cell 4 _ rfl
  have fc0:=hb4.free 0
  have fc1:=hb4.free 1
  have fc2:=hb4.free 2
  have fc3:=hb4.free 3
  have fc4:=hb4.free 4
  clear hb4 h4 k4 H3 HK3 HZ3 HB3 HS2 hdat
  obtain ⟨w5,hw5⟩:∃ W,(w4.setCell ⟨b,0,none⟩ (.int .i64 3)).setCell ⟨b,2,none⟩ (.string (bA d.1))=W:=⟨_,rfl⟩
  have k5:Kp (fun i=>i=b) w4 w5:=by rw [← hw5];exact ((Kp.refl (fun i=>i=b) w4).set1 b 0 _ rfl).set1 b 2 _ rfl
  have HB5:Hid (Blk w5 b #[.int .i64 3, .string (bA p.1), .string (bA d.1), .int .i64 0, .int .i64 0] opTy):=by show Blk _ _ _ _;rw [← hw5];exact (HB4.out.set 0 _).set 2 _
  have HW5:=Lib.hid hw5
  have H5:=Lib.hid (H4.out.off k5 HNE.out (by have:=HZL.out;have:=HM.out;omega))
  have HK5:=Lib.hid (HK4.out.next k5 (fun i hi e=>by have:=HZL.out;omega))
  have HZ5:=Lib.hid (HZ4.out.kp k5 (by have:=HZL.out;omega))
  clear hw5 k5 H4 HK4 HZ4 HB4
  go_upto_region 12 with (fail)
  rw [HW5.out]
  clear HW5 c0 c1 c2 c3 c4 fc0 fc1 fc2 fc3 fc4
  go_wp2_with (fail)
  have hnum:=number_any rb m d.2 w5 H5.out HS4.out
  rw [HU.out] at hnum
  refine hnum.mono ?_
  rintro e w6 ⟨rfl,h6,k6⟩
  have HB6:=Lib.hid (HB5.out.kp k6 HNE.out)
  have HZ6:=Lib.hid (HZ5.out.kp k6 HZR.out)
  have HK6:=Lib.hid (HK5.out.next k6 (fun _ _ e=>e))
  have H6:=Lib.hid h6
  have hb6:=HB6.out
  have c0:=hb6.cell 0 _ rfl
  have c1:=hb6.cell 1 _ rfl
  have c2:=hb6.cell 2 _ rfl
  have c3:=hb6.cell 3 _ rfl
  have c4:=hb6.cell 4 _ rfl
  have fc0:=hb6.free 0
  have fc1:=hb6.free 1
  have fc2:=hb6.free 2
  have fc3:=hb6.free 3
  have fc4:=hb6.free 4
  clear hb6 h6 k6 H5 HK5 HZ5 HB5 hnum
  obtain ⟨w7,hw7⟩:∃ W,w6.setCell ⟨b,3,none⟩ (.int .i64 u.1)=W:=⟨_,rfl⟩
  have k7:Kp (fun i=>i=b) w6 w7:=by rw [← hw7];exact (Kp.refl (fun i=>i=b) w6).set1 b 3 _ rfl
  have HB7:Hid (Blk w7 b #[.int .i64 3, .string (bA p.1), .string (bA d.1), .int .i64 u.1, .int .i64 0] opTy):=by show Blk _ _ _ _;rw [← hw7];exact HB6.out.set 3 _
  have HW7:=Lib.hid hw7
  have H7:=Lib.hid (H6.out.off k7 HNE.out (by have:=HZL.out;have:=HM.out;omega))
  have HK7:=Lib.hid (HK6.out.next k7 (fun i hi e=>by have:=HZL.out;omega))
  have HZ7:=Lib.hid (HZ6.out.kp k7 (by have:=HZL.out;omega))
  clear hw7 k7 H6 HK6 HZ6 HB6
  go_upto_region 21 with (fail)
  rw [HW7.out]
  clear HW7 c0 c1 c2 c3 c4 fc0 fc1 fc2 fc3 fc4
  have hbw:=(HB7).out
  have hzw:=(HZ7).out
  unfold opZ at hzw
  have y0:=hbw.cell 0 _ rfl
  have y1:=hbw.cell 1 _ rfl
  have y2:=hbw.cell 2 _ rfl
  have y3:=hbw.cell 3 _ rfl
  have y4:=hbw.cell 4 _ rfl
  have z0:=hzw.cell 0 _ rfl
  have z1:=hzw.cell 1 _ rfl
  have z2:=hzw.cell 2 _ rfl
  have z3:=hzw.cell 3 _ rfl
  have z4:=hzw.cell 4 _ rfl
  have fz0:=hzw.free 0
  have fz1:=hzw.free 1
  have fz2:=hzw.free 2
  have fz3:=hzw.free 3
  have fz4:=hzw.free 4
  clear hbw hzw
  go_wp2_with (fail)
  go_light
  refine bodyPost_ret (v:=.agg #[.int .i64 3, .string (bA p.1), .string (bA d.1), .int .i64 u.1, .int .i64 0]) (by simp [results,Tryz.results221,go_sem,z0,z1,z2,z3,z4]) rfl ?_
  have k5:=kp_set5 (w7) w.heap.size ((#[.int .i64 3, .string (bA p.1), .string (bA d.1), .int .i64 u.1, .int .i64 0])[0]) ((#[.int .i64 3, .string (bA p.1), .string (bA d.1), .int .i64 u.1, .int .i64 0])[1]) ((#[.int .i64 3, .string (bA p.1), .string (bA d.1), .int .i64 u.1, .int .i64 0])[2]) ((#[.int .i64 3, .string (bA p.1), .string (bA d.1), .int .i64 u.1, .int .i64 0])[3]) ((#[.int .i64 3, .string (bA p.1), .string (bA d.1), .int .i64 u.1, .int .i64 0])[4])
  exact ⟨rfl,(H7).out.off k5 HZR.out HM.out,(HK7).out.next k5 (fun i hi e=>by omega)⟩
 by_cases e4:x=kCheck
 ·have ho:opR r=(⟨4,bA p.1,bA [],(numR p.2).1,0⟩,(numR p.2).2):=by
   have hxk:=HXK.out
   unfold opR
   simp only [HKK.out,HP.out,hxk]
   rw [if_neg e1,if_neg e2,if_neg e3,if_pos e4]
  rw [ho]
  have q1:((bA x).toList == [99,114,101,97,116,101])=false:=by rw [bA_beq];exact decide_eq_false e1
  have q2:((bA x).toList == [100,101,108,101,116,101])=false:=by rw [bA_beq];exact decide_eq_false e2
  have q3:((bA x).toList == [115,101,116])=false:=by rw [bA_beq];exact decide_eq_false e3
  have q4:((bA x).toList == [99,104,101,99,107])=true:=by rw [bA_beq];exact decide_eq_true e4
  clear ho e1 e2 e3 e4
  obtain ⟨d,hd⟩:∃ d,numR p.2=d:=⟨_,rfl⟩
  rw [hd]
  have HD:=Lib.hid hd
  clear hd
  go_enter Tryz.func221,Tryz.ntmps221
  go_upto_region 1 with (fail)
  rw [HW0.out]
  clear HW0
  go_wp2_with (fail)
  refine HW.out.mono ?_
  rintro e w1 ⟨rfl,h1,hk1⟩
  have HK1:=Lib.hid (HK0.out.next hk1 (fun _ _ e=>e))
  have HZ1:=Lib.hid (HZ.out.kp hk1 HZR.out)
  have hpa:=part_any rb m _ w1 h1
  rw [HP.out] at hpa
  have HPA:=Lib.hid hpa
  clear h1 hk1 HW HK0 HZ hpa
  go_wp2_with (fail)
  refine HPA.out.mono ?_
  rintro e w2 ⟨rfl,h2,hk2⟩
  have HK2:=Lib.hid (HK1.out.next hk2 (fun _ _ e=>e))
  have HZ2:=Lib.hid (HZ1.out.kp hk2 HZR.out)
  have hrl:=(h2.cells).choose_spec.choose_spec.2.2.2
  obtain ⟨w3,hw3⟩:∃ W,w2.alloc (.cells #[.int .i64 0, .string (bA p.1), .string ⟨#[]⟩, .int .i64 0, .int .i64 0] opTy)=W:=⟨_,rfl⟩
  have hx3:Ext w2 w3:=by rw [← hw3];exact (Kp.refl _ _).alloc _
  have hb3:Blk w3 w2.heap.size #[.int .i64 0, .string (bA p.1), .string ⟨#[]⟩, .int .i64 0, .int .i64 0] opTy:=by rw [← hw3];exact heap_alloc_new w2 _
  have H3:=Lib.hid (h2.ext hx3)
  have HK3:=Lib.hid (HK2.out.next hx3 (fun _ _ f=>f.elim))
  have HZ3:=Lib.hid (HZ2.out.kp hx3 (fun f=>f))
  have HB3:=Lib.hid hb3
  have HW3:=Lib.hid hw3
  have HNE:Hid (w2.heap.size≠rb):=by show _≠_;omega
  have HZL:Hid (w.heap.size<w2.heap.size):=HZ2.out.lt
  clear h2 hk2 hw3 hx3 hb3 hrl HPA HK1 HK2 HZ1 HZ2
  go_upto_region 3 with (fail)
  rw [HW3.out]
  clear HW3
  generalize w2.heap.size=b at *
  go_wp2_with (fail)
  have hnum:=number_any rb m p.2 w3 H3.out HS2.out
  rw [HD.out] at hnum
  refine hnum.mono ?_
  rintro e w4 ⟨rfl,h4,k4⟩
  have HB4:=Lib.hid (HB3.out.kp k4 HNE.out)
  have HZ4:=Lib.hid (HZ3.out.kp k4 HZR.out)
  have HK4:=Lib.hid (HK3.out.next k4 (fun _ _ e=>e))
  have H4:=Lib.hid h4
  have hb4:=HB4.out
  have c0:=hb4.cell 0 _ rfl
  have c1:=hb4.cell 1 _ rfl
  have c2:=hb4.cell 2 _ rfl
  have c3:=hb4.cell 3 _ rfl
  have c4:=hb4.cell 4 _ rfl
  have fc0:=hb4.free 0
  have fc1:=hb4.free 1
  have fc2:=hb4.free 2
  have fc3:=hb4.free 3
  have fc4:=hb4.free 4
  clear hb4 h4 k4 H3 HK3 HZ3 HB3 hnum
  obtain ⟨w5,hw5⟩:∃ W,(w4.setCell ⟨b,0,none⟩ (.int .i64 4)).setCell ⟨b,3,none⟩ (.int .i64 d.1)=W:=⟨_,rfl⟩
  have k5:Kp (fun i=>i=b) w4 w5:=by rw [← hw5];exact ((Kp.refl (fun i=>i=b) w4).set1 b 0 _ rfl).set1 b 3 _ rfl
  have HB5:Hid (Blk w5 b #[.int .i64 4, .string (bA p.1), .string ⟨#[]⟩, .int .i64 d.1, .int .i64 0] opTy):=by show Blk _ _ _ _;rw [← hw5];exact (HB4.out.set 0 _).set 3 _
  have HW5:=Lib.hid hw5
  have H5:=Lib.hid (H4.out.off k5 HNE.out (by have:=HZL.out;have:=HM.out;omega))
  have HK5:=Lib.hid (HK4.out.next k5 (fun i hi e=>by have:=HZL.out;omega))
  have HZ5:=Lib.hid (HZ4.out.kp k5 (by have:=HZL.out;omega))
  clear hw5 k5 H4 HK4 HZ4 HB4
  go_upto_region 21 with (fail)
  rw [HW5.out]
  clear HW5 c0 c1 c2 c3 c4 fc0 fc1 fc2 fc3 fc4
  have hbw:=(HB5).out
  have hzw:=(HZ5).out
  unfold opZ at hzw
  have y0:=hbw.cell 0 _ rfl
  have y1:=hbw.cell 1 _ rfl
  have y2:=hbw.cell 2 _ rfl
  have y3:=hbw.cell 3 _ rfl
  have y4:=hbw.cell 4 _ rfl
  have z0:=hzw.cell 0 _ rfl
  have z1:=hzw.cell 1 _ rfl
  have z2:=hzw.cell 2 _ rfl
  have z3:=hzw.cell 3 _ rfl
  have z4:=hzw.cell 4 _ rfl
  have fz0:=hzw.free 0
  have fz1:=hzw.free 1
  have fz2:=hzw.free 2
  have fz3:=hzw.free 3
  have fz4:=hzw.free 4
  clear hbw hzw
  go_wp2_with (fail)
  go_light
  refine bodyPost_ret (v:=.agg #[.int .i64 4, .string (bA p.1), .string ⟨#[]⟩, .int .i64 d.1, .int .i64 0]) (by simp [results,Tryz.results221,go_sem,z0,z1,z2,z3,z4]) rfl ?_
  have k5:=kp_set5 (w5) w.heap.size ((#[.int .i64 4, .string (bA p.1), .string ⟨#[]⟩, .int .i64 d.1, .int .i64 0])[0]) ((#[.int .i64 4, .string (bA p.1), .string ⟨#[]⟩, .int .i64 d.1, .int .i64 0])[1]) ((#[.int .i64 4, .string (bA p.1), .string ⟨#[]⟩, .int .i64 d.1, .int .i64 0])[2]) ((#[.int .i64 4, .string (bA p.1), .string ⟨#[]⟩, .int .i64 d.1, .int .i64 0])[3]) ((#[.int .i64 4, .string (bA p.1), .string ⟨#[]⟩, .int .i64 d.1, .int .i64 0])[4])
  exact ⟨rfl,(H5).out.off k5 HZR.out HM.out,(HK5).out.next k5 (fun i hi e=>by omega)⟩
 by_cases e5:x=kGet
 ·have ho:opR r=(⟨5,bA p.1,bA [],0,0⟩,p.2):=by
   have hxk:=HXK.out
   unfold opR
   simp only [HKK.out,HP.out,hxk]
   rw [if_neg e1,if_neg e2,if_neg e3,if_neg e4,if_pos e5]
  rw [ho]
  have q1:((bA x).toList == [99,114,101,97,116,101])=false:=by rw [bA_beq];exact decide_eq_false e1
  have q2:((bA x).toList == [100,101,108,101,116,101])=false:=by rw [bA_beq];exact decide_eq_false e2
  have q3:((bA x).toList == [115,101,116])=false:=by rw [bA_beq];exact decide_eq_false e3
  have q4:((bA x).toList == [99,104,101,99,107])=false:=by rw [bA_beq];exact decide_eq_false e4
  have q5:((bA x).toList == [103,101,116])=true:=by rw [bA_beq];exact decide_eq_true e5
  clear ho e1 e2 e3 e4 e5
  go_enter Tryz.func221,Tryz.ntmps221
  go_upto_region 1 with (fail)
  rw [HW0.out]
  clear HW0
  go_wp2_with (fail)
  refine HW.out.mono ?_
  rintro e w1 ⟨rfl,h1,hk1⟩
  have HK1:=Lib.hid (HK0.out.next hk1 (fun _ _ e=>e))
  have HZ1:=Lib.hid (HZ.out.kp hk1 HZR.out)
  have hpa:=part_any rb m _ w1 h1
  rw [HP.out] at hpa
  have HPA:=Lib.hid hpa
  clear h1 hk1 HW HK0 HZ hpa
  go_wp2_with (fail)
  refine HPA.out.mono ?_
  rintro e w2 ⟨rfl,h2,hk2⟩
  have HK2:=Lib.hid (HK1.out.next hk2 (fun _ _ e=>e))
  have HZ2:=Lib.hid (HZ1.out.kp hk2 HZR.out)
  have hrl:=(h2.cells).choose_spec.choose_spec.2.2.2
  obtain ⟨w3,hw3⟩:∃ W,w2.alloc (.cells #[.int .i64 0, .string (bA p.1), .string ⟨#[]⟩, .int .i64 0, .int .i64 0] opTy)=W:=⟨_,rfl⟩
  have hx3:Ext w2 w3:=by rw [← hw3];exact (Kp.refl _ _).alloc _
  have hb3:Blk w3 w2.heap.size #[.int .i64 0, .string (bA p.1), .string ⟨#[]⟩, .int .i64 0, .int .i64 0] opTy:=by rw [← hw3];exact heap_alloc_new w2 _
  have H3:=Lib.hid (h2.ext hx3)
  have HK3:=Lib.hid (HK2.out.next hx3 (fun _ _ f=>f.elim))
  have HZ3:=Lib.hid (HZ2.out.kp hx3 (fun f=>f))
  have HB3:=Lib.hid hb3
  have HW3:=Lib.hid hw3
  have HNE:Hid (w2.heap.size≠rb):=by show _≠_;omega
  have HZL:Hid (w.heap.size<w2.heap.size):=HZ2.out.lt
  clear h2 hk2 hw3 hx3 hb3 hrl HPA HK1 HK2 HZ1 HZ2
  go_upto_region 3 with (fail)
  rw [HW3.out]
  clear HW3
  generalize w2.heap.size=b at *
  have hb3:=HB3.out
  have c0:=hb3.cell 0 _ rfl
  have c1:=hb3.cell 1 _ rfl
  have c2:=hb3.cell 2 _ rfl
  have c3:=hb3.cell 3 _ rfl
  have c4:=hb3.cell 4 _ rfl
  have fc0:=hb3.free 0
  have fc1:=hb3.free 1
  have fc2:=hb3.free 2
  have fc3:=hb3.free 3
  have fc4:=hb3.free 4
  clear hb3
  obtain ⟨w4,hw4⟩:∃ W,w3.setCell ⟨b,0,none⟩ (.int .i64 5)=W:=⟨_,rfl⟩
  have k4:Kp (fun i=>i=b) w3 w4:=by rw [← hw4];exact (Kp.refl _ _).set1 b 0 _ rfl
  have HB4:Hid (Blk w4 b #[.int .i64 5, .string (bA p.1), .string ⟨#[]⟩, .int .i64 0, .int .i64 0] opTy):=by show Blk _ _ _ _;rw [← hw4];exact HB3.out.set 0 _
  have HW4:=Lib.hid hw4
  have H4:=Lib.hid (H3.out.off k4 HNE.out (by have:=HZL.out;have:=HM.out;omega))
  have HK4:=Lib.hid (HK3.out.next k4 (fun i hi e=>by have:=HZL.out;omega))
  have HZ4:=Lib.hid (HZ3.out.kp k4 (by have:=HZL.out;omega))
  clear hw4 k4 H3 HK3 HZ3 HB3
  go_upto_region 21 with (fail)
  rw [HW4.out]
  clear HW4 c0 c1 c2 c3 c4 fc0 fc1 fc2 fc3 fc4
  have hbw:=(HB4).out
  have hzw:=(HZ4).out
  unfold opZ at hzw
  have y0:=hbw.cell 0 _ rfl
  have y1:=hbw.cell 1 _ rfl
  have y2:=hbw.cell 2 _ rfl
  have y3:=hbw.cell 3 _ rfl
  have y4:=hbw.cell 4 _ rfl
  have z0:=hzw.cell 0 _ rfl
  have z1:=hzw.cell 1 _ rfl
  have z2:=hzw.cell 2 _ rfl
  have z3:=hzw.cell 3 _ rfl
  have z4:=hzw.cell 4 _ rfl
  have fz0:=hzw.free 0
  have fz1:=hzw.free 1
  have fz2:=hzw.free 2
  have fz3:=hzw.free 3
  have fz4:=hzw.free 4
  clear hbw hzw
  go_wp2_with (fail)
  go_light
  refine bodyPost_ret (v:=.agg #[.int .i64 5, .string (bA p.1), .string ⟨#[]⟩, .int .i64 0, .int .i64 0]) (by simp [results,Tryz.results221,go_sem,z0,z1,z2,z3,z4]) rfl ?_
  have k5:=kp_set5 (w4) w.heap.size ((#[.int .i64 5, .string (bA p.1), .string ⟨#[]⟩, .int .i64 0, .int .i64 0])[0]) ((#[.int .i64 5, .string (bA p.1), .string ⟨#[]⟩, .int .i64 0, .int .i64 0])[1]) ((#[.int .i64 5, .string (bA p.1), .string ⟨#[]⟩, .int .i64 0, .int .i64 0])[2]) ((#[.int .i64 5, .string (bA p.1), .string ⟨#[]⟩, .int .i64 0, .int .i64 0])[3]) ((#[.int .i64 5, .string (bA p.1), .string ⟨#[]⟩, .int .i64 0, .int .i64 0])[4])
  exact ⟨rfl,(H4).out.off k5 HZR.out HM.out,(HK4).out.next k5 (fun i hi e=>by omega)⟩
 by_cases e6:x=kExists
 ·have ho:opR r=(⟨6,bA p.1,bA [],0,0⟩,p.2):=by
   have hxk:=HXK.out
   unfold opR
   simp only [HKK.out,HP.out,hxk]
   rw [if_neg e1,if_neg e2,if_neg e3,if_neg e4,if_neg e5,if_pos e6]
  rw [ho]
  have q1:((bA x).toList == [99,114,101,97,116,101])=false:=by rw [bA_beq];exact decide_eq_false e1
  have q2:((bA x).toList == [100,101,108,101,116,101])=false:=by rw [bA_beq];exact decide_eq_false e2
  have q3:((bA x).toList == [115,101,116])=false:=by rw [bA_beq];exact decide_eq_false e3
  have q4:((bA x).toList == [99,104,101,99,107])=false:=by rw [bA_beq];exact decide_eq_false e4
  have q5:((bA x).toList == [103,101,116])=false:=by rw [bA_beq];exact decide_eq_false e5
  have q6:((bA x).toList == [101,120,105,115,116,115])=true:=by rw [bA_beq];exact decide_eq_true e6
  clear ho e1 e2 e3 e4 e5 e6
  go_enter Tryz.func221,Tryz.ntmps221
  go_upto_region 1 with (fail)
  rw [HW0.out]
  clear HW0
  go_wp2_with (fail)
  refine HW.out.mono ?_
  rintro e w1 ⟨rfl,h1,hk1⟩
  have HK1:=Lib.hid (HK0.out.next hk1 (fun _ _ e=>e))
  have HZ1:=Lib.hid (HZ.out.kp hk1 HZR.out)
  have hpa:=part_any rb m _ w1 h1
  rw [HP.out] at hpa
  have HPA:=Lib.hid hpa
  clear h1 hk1 HW HK0 HZ hpa
  go_wp2_with (fail)
  refine HPA.out.mono ?_
  rintro e w2 ⟨rfl,h2,hk2⟩
  have HK2:=Lib.hid (HK1.out.next hk2 (fun _ _ e=>e))
  have HZ2:=Lib.hid (HZ1.out.kp hk2 HZR.out)
  have hrl:=(h2.cells).choose_spec.choose_spec.2.2.2
  obtain ⟨w3,hw3⟩:∃ W,w2.alloc (.cells #[.int .i64 0, .string (bA p.1), .string ⟨#[]⟩, .int .i64 0, .int .i64 0] opTy)=W:=⟨_,rfl⟩
  have hx3:Ext w2 w3:=by rw [← hw3];exact (Kp.refl _ _).alloc _
  have hb3:Blk w3 w2.heap.size #[.int .i64 0, .string (bA p.1), .string ⟨#[]⟩, .int .i64 0, .int .i64 0] opTy:=by rw [← hw3];exact heap_alloc_new w2 _
  have H3:=Lib.hid (h2.ext hx3)
  have HK3:=Lib.hid (HK2.out.next hx3 (fun _ _ f=>f.elim))
  have HZ3:=Lib.hid (HZ2.out.kp hx3 (fun f=>f))
  have HB3:=Lib.hid hb3
  have HW3:=Lib.hid hw3
  have HNE:Hid (w2.heap.size≠rb):=by show _≠_;omega
  have HZL:Hid (w.heap.size<w2.heap.size):=HZ2.out.lt
  clear h2 hk2 hw3 hx3 hb3 hrl HPA HK1 HK2 HZ1 HZ2
  go_upto_region 3 with (fail)
  rw [HW3.out]
  clear HW3
  generalize w2.heap.size=b at *
  have hb3:=HB3.out
  have c0:=hb3.cell 0 _ rfl
  have c1:=hb3.cell 1 _ rfl
  have c2:=hb3.cell 2 _ rfl
  have c3:=hb3.cell 3 _ rfl
  have c4:=hb3.cell 4 _ rfl
  have fc0:=hb3.free 0
  have fc1:=hb3.free 1
  have fc2:=hb3.free 2
  have fc3:=hb3.free 3
  have fc4:=hb3.free 4
  clear hb3
  obtain ⟨w4,hw4⟩:∃ W,w3.setCell ⟨b,0,none⟩ (.int .i64 6)=W:=⟨_,rfl⟩
  have k4:Kp (fun i=>i=b) w3 w4:=by rw [← hw4];exact (Kp.refl _ _).set1 b 0 _ rfl
  have HB4:Hid (Blk w4 b #[.int .i64 6, .string (bA p.1), .string ⟨#[]⟩, .int .i64 0, .int .i64 0] opTy):=by show Blk _ _ _ _;rw [← hw4];exact HB3.out.set 0 _
  have HW4:=Lib.hid hw4
  have H4:=Lib.hid (H3.out.off k4 HNE.out (by have:=HZL.out;have:=HM.out;omega))
  have HK4:=Lib.hid (HK3.out.next k4 (fun i hi e=>by have:=HZL.out;omega))
  have HZ4:=Lib.hid (HZ3.out.kp k4 (by have:=HZL.out;omega))
  clear hw4 k4 H3 HK3 HZ3 HB3
  go_upto_region 21 with (fail)
  rw [HW4.out]
  clear HW4 c0 c1 c2 c3 c4 fc0 fc1 fc2 fc3 fc4
  have hbw:=(HB4).out
  have hzw:=(HZ4).out
  unfold opZ at hzw
  have y0:=hbw.cell 0 _ rfl
  have y1:=hbw.cell 1 _ rfl
  have y2:=hbw.cell 2 _ rfl
  have y3:=hbw.cell 3 _ rfl
  have y4:=hbw.cell 4 _ rfl
  have z0:=hzw.cell 0 _ rfl
  have z1:=hzw.cell 1 _ rfl
  have z2:=hzw.cell 2 _ rfl
  have z3:=hzw.cell 3 _ rfl
  have z4:=hzw.cell 4 _ rfl
  have fz0:=hzw.free 0
  have fz1:=hzw.free 1
  have fz2:=hzw.free 2
  have fz3:=hzw.free 3
  have fz4:=hzw.free 4
  clear hbw hzw
  go_wp2_with (fail)
  go_light
  refine bodyPost_ret (v:=.agg #[.int .i64 6, .string (bA p.1), .string ⟨#[]⟩, .int .i64 0, .int .i64 0]) (by simp [results,Tryz.results221,go_sem,z0,z1,z2,z3,z4]) rfl ?_
  have k5:=kp_set5 (w4) w.heap.size ((#[.int .i64 6, .string (bA p.1), .string ⟨#[]⟩, .int .i64 0, .int .i64 0])[0]) ((#[.int .i64 6, .string (bA p.1), .string ⟨#[]⟩, .int .i64 0, .int .i64 0])[1]) ((#[.int .i64 6, .string (bA p.1), .string ⟨#[]⟩, .int .i64 0, .int .i64 0])[2]) ((#[.int .i64 6, .string (bA p.1), .string ⟨#[]⟩, .int .i64 0, .int .i64 0])[3]) ((#[.int .i64 6, .string (bA p.1), .string ⟨#[]⟩, .int .i64 0, .int .i64 0])[4])
  exact ⟨rfl,(H4).out.off k5 HZR.out HM.out,(HK4).out.next k5 (fun i hi e=>by omega)⟩
 by_cases e7:x=kChildren
 ·have ho:opR r=(⟨7,bA p.1,bA [],0,0⟩,p.2):=by
   have hxk:=HXK.out
   unfold opR
   simp only [HKK.out,HP.out,hxk]
   rw [if_neg e1,if_neg e2,if_neg e3,if_neg e4,if_neg e5,if_neg e6,if_pos e7]
  rw [ho]
  have q1:((bA x).toList == [99,114,101,97,116,101])=false:=by rw [bA_beq];exact decide_eq_false e1
  have q2:((bA x).toList == [100,101,108,101,116,101])=false:=by rw [bA_beq];exact decide_eq_false e2
  have q3:((bA x).toList == [115,101,116])=false:=by rw [bA_beq];exact decide_eq_false e3
  have q4:((bA x).toList == [99,104,101,99,107])=false:=by rw [bA_beq];exact decide_eq_false e4
  have q5:((bA x).toList == [103,101,116])=false:=by rw [bA_beq];exact decide_eq_false e5
  have q6:((bA x).toList == [101,120,105,115,116,115])=false:=by rw [bA_beq];exact decide_eq_false e6
  have q7:((bA x).toList == [99,104,105,108,100,114,101,110])=true:=by rw [bA_beq];exact decide_eq_true e7
  clear ho e1 e2 e3 e4 e5 e6 e7
  go_enter Tryz.func221,Tryz.ntmps221
  go_upto_region 1 with (fail)
  rw [HW0.out]
  clear HW0
  go_wp2_with (fail)
  refine HW.out.mono ?_
  rintro e w1 ⟨rfl,h1,hk1⟩
  have HK1:=Lib.hid (HK0.out.next hk1 (fun _ _ e=>e))
  have HZ1:=Lib.hid (HZ.out.kp hk1 HZR.out)
  have hpa:=part_any rb m _ w1 h1
  rw [HP.out] at hpa
  have HPA:=Lib.hid hpa
  clear h1 hk1 HW HK0 HZ hpa
  go_wp2_with (fail)
  refine HPA.out.mono ?_
  rintro e w2 ⟨rfl,h2,hk2⟩
  have HK2:=Lib.hid (HK1.out.next hk2 (fun _ _ e=>e))
  have HZ2:=Lib.hid (HZ1.out.kp hk2 HZR.out)
  have hrl:=(h2.cells).choose_spec.choose_spec.2.2.2
  obtain ⟨w3,hw3⟩:∃ W,w2.alloc (.cells #[.int .i64 0, .string (bA p.1), .string ⟨#[]⟩, .int .i64 0, .int .i64 0] opTy)=W:=⟨_,rfl⟩
  have hx3:Ext w2 w3:=by rw [← hw3];exact (Kp.refl _ _).alloc _
  have hb3:Blk w3 w2.heap.size #[.int .i64 0, .string (bA p.1), .string ⟨#[]⟩, .int .i64 0, .int .i64 0] opTy:=by rw [← hw3];exact heap_alloc_new w2 _
  have H3:=Lib.hid (h2.ext hx3)
  have HK3:=Lib.hid (HK2.out.next hx3 (fun _ _ f=>f.elim))
  have HZ3:=Lib.hid (HZ2.out.kp hx3 (fun f=>f))
  have HB3:=Lib.hid hb3
  have HW3:=Lib.hid hw3
  have HNE:Hid (w2.heap.size≠rb):=by show _≠_;omega
  have HZL:Hid (w.heap.size<w2.heap.size):=HZ2.out.lt
  clear h2 hk2 hw3 hx3 hb3 hrl HPA HK1 HK2 HZ1 HZ2
  go_upto_region 3 with (fail)
  rw [HW3.out]
  clear HW3
  generalize w2.heap.size=b at *
  have hb3:=HB3.out
  have c0:=hb3.cell 0 _ rfl
  have c1:=hb3.cell 1 _ rfl
  have c2:=hb3.cell 2 _ rfl
  have c3:=hb3.cell 3 _ rfl
  have c4:=hb3.cell 4 _ rfl
  have fc0:=hb3.free 0
  have fc1:=hb3.free 1
  have fc2:=hb3.free 2
  have fc3:=hb3.free 3
  have fc4:=hb3.free 4
  clear hb3
  obtain ⟨w4,hw4⟩:∃ W,w3.setCell ⟨b,0,none⟩ (.int .i64 7)=W:=⟨_,rfl⟩
  have k4:Kp (fun i=>i=b) w3 w4:=by rw [← hw4];exact (Kp.refl _ _).set1 b 0 _ rfl
  have HB4:Hid (Blk w4 b #[.int .i64 7, .string (bA p.1), .string ⟨#[]⟩, .int .i64 0, .int .i64 0] opTy):=by show Blk _ _ _ _;rw [← hw4];exact HB3.out.set 0 _
  have HW4:=Lib.hid hw4
  have H4:=Lib.hid (H3.out.off k4 HNE.out (by have:=HZL.out;have:=HM.out;omega))
  have HK4:=Lib.hid (HK3.out.next k4 (fun i hi e=>by have:=HZL.out;omega))
  have HZ4:=Lib.hid (HZ3.out.kp k4 (by have:=HZL.out;omega))
  clear hw4 k4 H3 HK3 HZ3 HB3
  go_upto_region 21 with (fail)
  rw [HW4.out]
  clear HW4 c0 c1 c2 c3 c4 fc0 fc1 fc2 fc3 fc4
  have hbw:=(HB4).out
  have hzw:=(HZ4).out
  unfold opZ at hzw
  have y0:=hbw.cell 0 _ rfl
  have y1:=hbw.cell 1 _ rfl
  have y2:=hbw.cell 2 _ rfl
  have y3:=hbw.cell 3 _ rfl
  have y4:=hbw.cell 4 _ rfl
  have z0:=hzw.cell 0 _ rfl
  have z1:=hzw.cell 1 _ rfl
  have z2:=hzw.cell 2 _ rfl
  have z3:=hzw.cell 3 _ rfl
  have z4:=hzw.cell 4 _ rfl
  have fz0:=hzw.free 0
  have fz1:=hzw.free 1
  have fz2:=hzw.free 2
  have fz3:=hzw.free 3
  have fz4:=hzw.free 4
  clear hbw hzw
  go_wp2_with (fail)
  go_light
  refine bodyPost_ret (v:=.agg #[.int .i64 7, .string (bA p.1), .string ⟨#[]⟩, .int .i64 0, .int .i64 0]) (by simp [results,Tryz.results221,go_sem,z0,z1,z2,z3,z4]) rfl ?_
  have k5:=kp_set5 (w4) w.heap.size ((#[.int .i64 7, .string (bA p.1), .string ⟨#[]⟩, .int .i64 0, .int .i64 0])[0]) ((#[.int .i64 7, .string (bA p.1), .string ⟨#[]⟩, .int .i64 0, .int .i64 0])[1]) ((#[.int .i64 7, .string (bA p.1), .string ⟨#[]⟩, .int .i64 0, .int .i64 0])[2]) ((#[.int .i64 7, .string (bA p.1), .string ⟨#[]⟩, .int .i64 0, .int .i64 0])[3]) ((#[.int .i64 7, .string (bA p.1), .string ⟨#[]⟩, .int .i64 0, .int .i64 0])[4])
  exact ⟨rfl,(H4).out.off k5 HZR.out HM.out,(HK4).out.next k5 (fun i hi e=>by omega)⟩
 have ho:opR r=(⟨0,bA p.1,bA [],0,0⟩,(p.2.1,true)):=by
  have hxk:=HXK.out
  unfold opR
  simp only [HKK.out,HP.out,hxk]
  rw [if_neg e1,if_neg e2,if_neg e3,if_neg e4,if_neg e5,if_neg e6,if_neg e7]
 rw [ho]
 have q1:((bA x).toList == [99,114,101,97,116,101])=false:=by rw [bA_beq];exact decide_eq_false e1
 have q2:((bA x).toList == [100,101,108,101,116,101])=false:=by rw [bA_beq];exact decide_eq_false e2
 have q3:((bA x).toList == [115,101,116])=false:=by rw [bA_beq];exact decide_eq_false e3
 have q4:((bA x).toList == [99,104,101,99,107])=false:=by rw [bA_beq];exact decide_eq_false e4
 have q5:((bA x).toList == [103,101,116])=false:=by rw [bA_beq];exact decide_eq_false e5
 have q6:((bA x).toList == [101,120,105,115,116,115])=false:=by rw [bA_beq];exact decide_eq_false e6
 have q7:((bA x).toList == [99,104,105,108,100,114,101,110])=false:=by rw [bA_beq];exact decide_eq_false e7
 clear ho e1 e2 e3 e4 e5 e6 e7
 go_enter Tryz.func221,Tryz.ntmps221
 go_upto_region 1 with (fail)
 rw [HW0.out]
 clear HW0
 go_wp2_with (fail)
 refine HW.out.mono ?_
 rintro e w1 ⟨rfl,h1,hk1⟩
 have HK1:=Lib.hid (HK0.out.next hk1 (fun _ _ e=>e))
 have HZ1:=Lib.hid (HZ.out.kp hk1 HZR.out)
 have hpa:=part_any rb m _ w1 h1
 rw [HP.out] at hpa
 have HPA:=Lib.hid hpa
 clear h1 hk1 HW HK0 HZ hpa
 go_wp2_with (fail)
 refine HPA.out.mono ?_
 rintro e w2 ⟨rfl,h2,hk2⟩
 have HK2:=Lib.hid (HK1.out.next hk2 (fun _ _ e=>e))
 have HZ2:=Lib.hid (HZ1.out.kp hk2 HZR.out)
 have hrl:=(h2.cells).choose_spec.choose_spec.2.2.2
 obtain ⟨w3,hw3⟩:∃ W,w2.alloc (.cells #[.int .i64 0, .string (bA p.1), .string ⟨#[]⟩, .int .i64 0, .int .i64 0] opTy)=W:=⟨_,rfl⟩
 have hx3:Ext w2 w3:=by rw [← hw3];exact (Kp.refl _ _).alloc _
 have hb3:Blk w3 w2.heap.size #[.int .i64 0, .string (bA p.1), .string ⟨#[]⟩, .int .i64 0, .int .i64 0] opTy:=by rw [← hw3];exact heap_alloc_new w2 _
 have H3:=Lib.hid (h2.ext hx3)
 have HK3:=Lib.hid (HK2.out.next hx3 (fun _ _ f=>f.elim))
 have HZ3:=Lib.hid (HZ2.out.kp hx3 (fun f=>f))
 have HB3:=Lib.hid hb3
 have HW3:=Lib.hid hw3
 have HNE:Hid (w2.heap.size≠rb):=by show _≠_;omega
 have HZL:Hid (w.heap.size<w2.heap.size):=HZ2.out.lt
 clear h2 hk2 hw3 hx3 hb3 hrl HPA HK1 HK2 HZ1 HZ2
 go_upto_region 3 with (fail)
 rw [HW3.out]
 clear HW3
 generalize w2.heap.size=b at *
 have hfl:=H3.out.flag true
 obtain ⟨a0,c0,cc0,cc1,cf1,_⟩:=H3.out.cells
 obtain ⟨w4,hw4⟩:∃ W,w3.setCell ⟨rb,1,none⟩ (.bool true)=W:=⟨_,rfl⟩
 have k4:Kp (fun i=>i=rb) w3 w4:=by rw [← hw4];exact (Kp.refl _ _).set1 rb 1 _ rfl
 rw [hw4] at hfl
 have H4:=Lib.hid hfl
 have HB4:=Lib.hid (HB3.out.kp k4 HNE.out)
 have HZ4:=Lib.hid (HZ3.out.kp k4 HZR.out)
 have HK4:=Lib.hid (HK3.out.next k4 (fun _ _ e=>e))
 have HW4:=Lib.hid hw4
 clear hw4 k4 H3 HK3 HZ3 HB3 hfl
 go_upto_region 21 with (fail)
 rw [HW4.out]
 clear HW4 cc0 cc1 cf1
 have hbw:=(HB4).out
 have hzw:=(HZ4).out
 unfold opZ at hzw
 have y0:=hbw.cell 0 _ rfl
 have y1:=hbw.cell 1 _ rfl
 have y2:=hbw.cell 2 _ rfl
 have y3:=hbw.cell 3 _ rfl
 have y4:=hbw.cell 4 _ rfl
 have z0:=hzw.cell 0 _ rfl
 have z1:=hzw.cell 1 _ rfl
 have z2:=hzw.cell 2 _ rfl
 have z3:=hzw.cell 3 _ rfl
 have z4:=hzw.cell 4 _ rfl
 have fz0:=hzw.free 0
 have fz1:=hzw.free 1
 have fz2:=hzw.free 2
 have fz3:=hzw.free 3
 have fz4:=hzw.free 4
 clear hbw hzw
 go_wp2_with (fail)
 go_light
 refine bodyPost_ret (v:=.agg #[.int .i64 0, .string (bA p.1), .string ⟨#[]⟩, .int .i64 0, .int .i64 0]) (by simp [results,Tryz.results221,go_sem,z0,z1,z2,z3,z4]) rfl ?_
 have k5:=kp_set5 (w4) w.heap.size ((#[.int .i64 0, .string (bA p.1), .string ⟨#[]⟩, .int .i64 0, .int .i64 0])[0]) ((#[.int .i64 0, .string (bA p.1), .string ⟨#[]⟩, .int .i64 0, .int .i64 0])[1]) ((#[.int .i64 0, .string (bA p.1), .string ⟨#[]⟩, .int .i64 0, .int .i64 0])[2]) ((#[.int .i64 0, .string (bA p.1), .string ⟨#[]⟩, .int .i64 0, .int .i64 0])[3]) ((#[.int .i64 0, .string (bA p.1), .string ⟨#[]⟩, .int .i64 0, .int .i64 0])[4])
 exact ⟨rfl,(H4).out.off k5 HZR.out HM.out,(HK4).out.next k5 (fun i hi e=>by omega)⟩
end Go.Proofs.YtnlefnhdhigecaaGreatDoor
