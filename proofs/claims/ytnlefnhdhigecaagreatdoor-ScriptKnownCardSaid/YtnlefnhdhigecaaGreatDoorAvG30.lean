/- Texts put together: AvScrE, AvScrF, AvScrG. -/
import Derived.Test.YtnlefnhdhigecaaGreatDoorAvHScrD
import Derived.Test.YtnlefnhdhigecaaGreatDoorAvG6
import Derived.Lib.ItoaLen
namespace Go.Proofs.YtnlefnhdhigecaaGreatDoor
set_option maxRecDepth 100000
open Go.RowKit Av
def ClosAt (w:World) (v:Value):Option SAct→Prop
 | none=>v=.nilFunc
 | some (.opn n)=>∃ g,v=.func (.func 180) #[] #[.pointer (some ⟨g,0,none⟩)]∧Blk w g #[.int .i64 n] 2
 | some (.cls n)=>∃ g,v=.func (.func 183) #[] #[.pointer (some ⟨g,0,none⟩)]∧Blk w g #[.int .i64 n] 2
 | some .tick=>v=.func (.func 184) #[] #[]
 | some (.ask a b ops)=>∃ g u,v=.func (.func 187) #[] #[.pointer (some ⟨g,0,none⟩)]∧Blk w g #[.int .i64 a, .int .i64 b,u] reqT∧w.ownsRow 0 opTy 5 u ops.length (ops.flatMap OpV.cells)
 | some (.watch n p k)=>∃ g1 g2 g3,v=.func (.func 189) #[] #[.pointer (some ⟨g1,0,none⟩), .pointer (some ⟨g2,0,none⟩), .pointer (some ⟨g3,0,none⟩)]∧Blk w g1 #[.int .i64 n] 2∧Blk w g2 #[.string (bA p)] 9∧Blk w g3 #[.int .i64 k] 3
 | some (.evs n)=>∃ g,v=.func (.func 190) #[] #[.pointer (some ⟨g,0,none⟩)]∧Blk w g #[.int .i64 n] 2
 | some .paths=>v=.func (.func 192) #[] #[]
abbrev fnT:TypeId:=175
theorem off_fn {S:Nat→Prop} {w:World} {g:Nat} {cs:Array Value} {T:TypeId} (h:Blk w g cs T) (hT:T≠fnT) (hS:∀ i,S i→∃ cur f,w.heap[i]? = some (.cells cur fnT f)):¬ S g:=fun hs=>by
 obtain ⟨cur,f,hc⟩:=hS g hs
 have h2:w.heap[g]? = some (.cells cs T (0,0)):=h
 rw [hc] at h2
 simp only [Option.some.injEq,Obj.cells.injEq] at h2
 exact hT h2.2.1.symm
theorem ClosAt.kp {S:Nat→Prop} {w w':World} {v:Value} {oa:Option SAct} (h:ClosAt w v oa) (k:Kp S w w') (hS:∀ i,S i→∃ cur f,w.heap[i]? = some (.cells cur fnT f)):ClosAt w' v oa:=by
 match oa,h with
 | none,h=>exact h
 | some (.opn n),⟨g,h1,h2⟩=>exact ⟨g,h1,h2.kp k (off_fn h2 (by decide) hS)⟩
 | some (.cls n),⟨g,h1,h2⟩=>exact ⟨g,h1,h2.kp k (off_fn h2 (by decide) hS)⟩
 | some .tick,h=>exact h
 | some (.ask a b ops),⟨g,u,h1,h2,h5⟩=>exact ⟨g,u,h1,h2.kp k (off_fn h2 (by decide) hS),ownsRow.kp h5 k (fun i hi hs=>by
    obtain ⟨cur,f,hc⟩:=hS i hs
    obtain ⟨cur2,f2,hc2⟩:=own_type h5 hi
    rw [hc] at hc2
    simp only [Option.some.injEq,Obj.cells.injEq] at hc2
    exact absurd hc2.2.1 (by decide))⟩
 | some (.watch n p q),⟨g1,g2,g3,h1,h2,h3,h4⟩=>exact ⟨g1,g2,g3,h1,h2.kp k (off_fn h2 (by decide) hS),h3.kp k (off_fn h3 (by decide) hS),h4.kp k (off_fn h4 (by decide) hS)⟩
 | some (.evs n),⟨g,h1,h2⟩=>exact ⟨g,h1,h2.kp k (off_fn h2 (by decide) hS)⟩
 | some .paths,h=>exact h
theorem ClosAt.ext {w w':World} {v:Value} {oa:Option SAct} (h:ClosAt w v oa) (k:Ext w w'):ClosAt w' v oa:=h.kp k (fun _ f=>f.elim)
theorem ops_owned {w:World} {base:Nat} {v:Value} {ops:List OpV} (h:w.ownsRow base opTy 5 v ops.length (ops.flatMap OpV.cells)):OpsAt w v ops:=by
 refine ⟨Sl.of_owns h, ?_⟩
 obtain ⟨_,⟨h1,_⟩|⟨g,c,cur,h1,_⟩⟩:=h
 ·rw [h1];exact Shp.none
 ·rw [h1];exact Shp.some
def PlPost (w:World) (rb m:Nat) (X:Option SAct×RdS) (e:Ending) (w':World):Prop:=∃ v,e=.returned v∧RdrAt w' rb m X.2∧Kp (fun i=>i=rb) w w'∧ClosAt w' v X.1
set_option maxHeartbeats 12800000 in
theorem play_any (rb m:Nat) (r:RdS) (w:World) (h:RdrAt w rb m r) (hs:SmR r) (hm:m≤w.heap.size) (hl:r.1.length≤100000) :
  Calls Tryz.prog 146 #[.pointer (some ⟨rb,0,none⟩)] w (PlPost w rb m (playR r)):=by
 have HW:=Lib.hid (word_any rb m r w h)
 obtain ⟨k,hk⟩:∃ k,wordR r=k:=⟨_,rfl⟩
 have hs1:=hs.word.1
 have hl1:k.2.1.length≤100000:=by rw [← hk];exact Nat.le_trans (word_len r).1 hl
 rw [hk] at HW hs1
 have HS1:=Lib.hid hs1
 have HM:=Lib.hid hm
 have HL1:=Lib.hid hl1
 have HKK:=Lib.hid hk
 obtain ⟨x,hxk⟩:∃ x,k.1=x:=⟨_,rfl⟩
 rw [hxk] at HW
 have HXK:=Lib.hid hxk
 clear h hs hm hl hk hs1 hl1 hxk
 by_cases e1:x=kOpen
 ·have ho:playR r=(some (.opn (numR k.2).1),(numR k.2).2):=by
   have hxk:=HXK.out
   unfold playR
   simp only [HKK.out,hxk]
   rw [if_pos e1]
  rw [ho]
  have q1:((bA x).toList == [111,112,101,110])=true:=by rw [bA_beq];exact decide_eq_true e1
  clear ho e1
  obtain ⟨d,hd⟩:∃ d,numR k.2=d:=⟨_,rfl⟩
  rw [hd]
  have HD:=Lib.hid hd
  clear hd
  go_enter Tryz.func146,Tryz.ntmps146
  go_wp2_with (fail)
  refine HW.out.mono ?_
  rintro e w1 ⟨rfl,h1,k1⟩
  have H1:=Lib.hid h1
  have HK1:=Lib.hid k1
  clear h1 k1 HW
  go_wp2_with (fail)
  have hnum:=number_any rb m k.2 w1 H1.out HS1.out
  rw [HD.out] at hnum
  refine hnum.mono ?_
  rintro e w2 ⟨rfl,h2,k2⟩
  have H2:=Lib.hid (h2.ext ((Kp.refl (fun _=>False) w2).alloc (.cells #[.int .i64 d.1] 2)))
  have HK2:=Lib.hid ((HK1.out.next k2 (fun _ _ e=>e)).next ((Kp.refl (fun _=>False) w2).alloc (.cells #[.int .i64 d.1] 2)) (fun _ _ f=>f.elim))
  have HB2:Hid (Blk (w2.alloc (.cells #[.int .i64 d.1] 2)) w2.heap.size #[.int .i64 d.1] 2):=heap_alloc_new w2 _
  clear h2 k2 H1 HK1 hnum
  go_wp2_with (fail)
  go_ret
  exact ⟨_,rfl,H2.out,HK2.out,⟨w2.heap.size,rfl,HB2.out⟩⟩
 by_cases e2:x=kClose
 ·have ho:playR r=(some (.cls (numR k.2).1),(numR k.2).2):=by
   have hxk:=HXK.out
   unfold playR
   simp only [HKK.out,hxk]
   rw [if_neg e1,if_pos e2]
  rw [ho]
  have q1:((bA x).toList == [111,112,101,110])=false:=by rw [bA_beq];exact decide_eq_false e1
  have q2:((bA x).toList == [99,108,111,115,101])=true:=by rw [bA_beq];exact decide_eq_true e2
  clear ho e1 e2
  obtain ⟨d,hd⟩:∃ d,numR k.2=d:=⟨_,rfl⟩
  rw [hd]
  have HD:=Lib.hid hd
  clear hd
  go_enter Tryz.func146,Tryz.ntmps146
  go_wp2_with (fail)
  refine HW.out.mono ?_
  rintro e w1 ⟨rfl,h1,k1⟩
  have H1:=Lib.hid h1
  have HK1:=Lib.hid k1
  clear h1 k1 HW
  go_wp2_with (fail)
  have hnum:=number_any rb m k.2 w1 H1.out HS1.out
  rw [HD.out] at hnum
  refine hnum.mono ?_
  rintro e w2 ⟨rfl,h2,k2⟩
  have H2:=Lib.hid (h2.ext ((Kp.refl (fun _=>False) w2).alloc (.cells #[.int .i64 d.1] 2)))
  have HK2:=Lib.hid ((HK1.out.next k2 (fun _ _ e=>e)).next ((Kp.refl (fun _=>False) w2).alloc (.cells #[.int .i64 d.1] 2)) (fun _ _ f=>f.elim))
  have HB2:Hid (Blk (w2.alloc (.cells #[.int .i64 d.1] 2)) w2.heap.size #[.int .i64 d.1] 2):=heap_alloc_new w2 _
  clear h2 k2 H1 HK1 hnum
  go_wp2_with (fail)
  go_ret
  exact ⟨_,rfl,H2.out,HK2.out,⟨w2.heap.size,rfl,HB2.out⟩⟩
 by_cases e3:x=kTick
 ·have ho:playR r=(some .tick,k.2):=by
   have hxk:=HXK.out
   unfold playR
   simp only [HKK.out,hxk]
   rw [if_neg e1,if_neg e2,if_pos e3]
  rw [ho]
  have q1:((bA x).toList == [111,112,101,110])=false:=by rw [bA_beq];exact decide_eq_false e1
  have q2:((bA x).toList == [99,108,111,115,101])=false:=by rw [bA_beq];exact decide_eq_false e2
  have q3:((bA x).toList == [116,105,99,107])=true:=by rw [bA_beq];exact decide_eq_true e3
  clear ho e1 e2 e3
  go_enter Tryz.func146,Tryz.ntmps146
  go_wp2_with (fail)
  refine HW.out.mono ?_
  rintro e w1 ⟨rfl,h1,k1⟩
  have H1:=Lib.hid h1
  have HK1:=Lib.hid k1
  clear h1 k1 HW
  go_wp2_with (fail)
  go_ret
  exact ⟨_,rfl,H1.out,HK1.out,rfl⟩
 by_cases e4:x=kAsk
 ·have ho:playR r=(some (.ask (reqR k.2).1.1 (reqR k.2).1.2.1 (reqR k.2).1.2.2),(reqR k.2).2):=by
   have hxk:=HXK.out
   unfold playR
   simp only [HKK.out,hxk]
   rw [if_neg e1,if_neg e2,if_neg e3,if_pos e4]
  rw [ho]
  have q1:((bA x).toList == [111,112,101,110])=false:=by rw [bA_beq];exact decide_eq_false e1
  have q2:((bA x).toList == [99,108,111,115,101])=false:=by rw [bA_beq];exact decide_eq_false e2
  have q3:((bA x).toList == [116,105,99,107])=false:=by rw [bA_beq];exact decide_eq_false e3
  have q4:((bA x).toList == [97,115,107])=true:=by rw [bA_beq];exact decide_eq_true e4
  clear ho e1 e2 e3 e4
  obtain ⟨X,hX⟩:∃ X,reqR k.2=X:=⟨_,rfl⟩
  rw [hX]
  have HX:=Lib.hid hX
  clear hX
  go_enter Tryz.func146,Tryz.ntmps146
  go_wp2_with (fail)
  refine HW.out.mono ?_
  rintro e w1 ⟨rfl,h1,k1⟩
  have H1:=Lib.hid h1
  have HK1:=Lib.hid k1
  clear h1 k1 HW
  go_wp2_with (fail)
  have hrq:=request_rd rb m k.2 w1 H1.out HS1.out (by have:=HK1.out.size;have:=HM.out;omega) HL1.out
  rw [HX.out] at hrq
  refine hrq.mono ?_
  rintro e w2 ⟨v,rfl,ho,h2,k2⟩
  obtain ⟨va,vc,rfl⟩:=owns_slice ho
  have HO:=Lib.hid (ownsRow.base_mono ho (Nat.zero_le _))
  have HXA:Hid (Ext w2 (w2.alloc (.cells #[.int .i64 X.1.1, .int .i64 X.1.2.1, .slice va X.1.2.2.length vc] reqT))):=(Kp.refl (fun _=>False) w2).alloc _
  have H2:=Lib.hid (h2.ext HXA.out)
  have HK2:=Lib.hid ((HK1.out.next k2 (fun _ _ e=>e)).next HXA.out (fun _ _ f=>f.elim))
  have HB2:Hid (Blk (w2.alloc (.cells #[.int .i64 X.1.1, .int .i64 X.1.2.1, .slice va X.1.2.2.length vc] reqT)) w2.heap.size #[.int .i64 X.1.1, .int .i64 X.1.2.1, .slice va X.1.2.2.length vc] reqT):=heap_alloc_new w2 _
  clear h2 k2 H1 HK1 hrq ho
  go_wp2_with (fail)
  go_ret
  exact ⟨_,rfl,H2.out,HK2.out,⟨w2.heap.size,_,rfl,HB2.out,ownsRow.ext HO.out HXA.out⟩⟩
 by_cases e5:x=kWatch
 ·have ho:playR r=(some (.watch (numR k.2).1 (wordR (numR k.2).2).1 (numR (wordR (numR k.2).2).2).1),(numR (wordR (numR k.2).2).2).2):=by
   have hxk:=HXK.out
   unfold playR
   simp only [HKK.out,hxk]
   rw [if_neg e1,if_neg e2,if_neg e3,if_neg e4,if_pos e5]
  rw [ho]
  have q1:((bA x).toList == [111,112,101,110])=false:=by rw [bA_beq];exact decide_eq_false e1
  have q2:((bA x).toList == [99,108,111,115,101])=false:=by rw [bA_beq];exact decide_eq_false e2
  have q3:((bA x).toList == [116,105,99,107])=false:=by rw [bA_beq];exact decide_eq_false e3
  have q4:((bA x).toList == [97,115,107])=false:=by rw [bA_beq];exact decide_eq_false e4
  have q5:((bA x).toList == [119,97,116,99,104])=true:=by rw [bA_beq];exact decide_eq_true e5
  clear ho e1 e2 e3 e4 e5
  obtain ⟨d,hd⟩:∃ d,numR k.2=d:=⟨_,rfl⟩
  have hsd:SmR d.2:=by rw [← hd];exact HS1.out.num
  rw [hd]
  obtain ⟨p,hp⟩:∃ p,wordR d.2=p:=⟨_,rfl⟩
  have hsp:SmR p.2:=by rw [← hp];exact hsd.word.1
  rw [hp]
  obtain ⟨u,hu⟩:∃ u,numR p.2=u:=⟨_,rfl⟩
  rw [hu]
  have HD:=Lib.hid hd
  have HP:=Lib.hid hp
  have HU:=Lib.hid hu
  have HSP:=Lib.hid hsp
  clear hd hp hu hsd hsp
  go_enter Tryz.func146,Tryz.ntmps146
  go_wp2_with (fail)
  refine HW.out.mono ?_
  rintro e w1 ⟨rfl,h1,k1⟩
  have H1:=Lib.hid h1
  have HK1:=Lib.hid k1
  clear h1 k1 HW
  go_wp2_with (fail)
  have hnum:=number_any rb m k.2 w1 H1.out HS1.out
  rw [HD.out] at hnum
  refine hnum.mono ?_
  rintro e w2 ⟨rfl,h2,k2⟩
  have H2:=Lib.hid h2
  have HK2:=Lib.hid (HK1.out.next k2 (fun _ _ e=>e))
  clear h2 k2 H1 HK1 hnum
  go_wp2_with (fail)
  have hwd:=word_any rb m d.2 w2 H2.out
  rw [HP.out] at hwd
  refine hwd.mono ?_
  rintro e w3 ⟨rfl,h3,k3⟩
  have H3:=Lib.hid h3
  have HK3:=Lib.hid (HK2.out.next k3 (fun _ _ e=>e))
  clear h3 k3 H2 HK2 hwd
  go_upto_region 15 with (fail)
  obtain ⟨w4,hw4⟩:∃ w4,w3.alloc (.cells #[.int .i64 d.1] 2)=w4:=⟨_,rfl⟩
  have hx4:Ext w3 w4:=by rw [← hw4];exact (Kp.refl (fun _=>False) w3).alloc _
  have hb4:Blk w4 w3.heap.size #[.int .i64 d.1] 2:=by rw [← hw4];exact heap_alloc_new w3 _
  have hz4:w3.heap.size+1=w4.heap.size:=by rw [← hw4];exact (Array.size_push _).symm
  rw [hw4,hz4]
  obtain ⟨w5,hw5⟩:∃ w5,w4.alloc (.cells #[.string (bA p.1)] 9)=w5:=⟨_,rfl⟩
  have hx5:Ext w4 w5:=by rw [← hw5];exact (Kp.refl (fun _=>False) w4).alloc _
  have hb5:Blk w5 w4.heap.size #[.string (bA p.1)] 9:=by rw [← hw5];exact heap_alloc_new w4 _
  rw [hw5]
  have HB4:=Lib.hid (hb4.kp hx5 (fun f=>f))
  have HB5:=Lib.hid hb5
  have HR3:Hid (rb<w3.heap.size):=Lib.hid H3.out.cells.choose_spec.choose_spec.2.2.2
  have HZ4:=Lib.hid hz4
  have HX45:=Lib.hid (hx4.next hx5 (fun _ _ f=>f.elim))
  have H5:=Lib.hid (H3.out.ext HX45.out)
  have HK5:=Lib.hid (HK3.out.next HX45.out (fun _ _ f=>f.elim))
  clear hw4 hx4 hb4 hz4 hw5 hx5 hb5 H3 HK3
  go_wp2_with (fail)
  have hnum:=number_any rb m p.2 w5 H5.out HSP.out
  rw [HU.out] at hnum
  refine hnum.mono ?_
  rintro e w6 ⟨rfl,h6,k6⟩
  have HX7:Hid (Ext w6 (w6.alloc (.cells #[.int .i64 u.1] 3))):=Lib.hid ((Kp.refl (fun _=>False) w6).alloc _)
  have H7:=Lib.hid (h6.ext HX7.out)
  have HK7:=Lib.hid ((HK5.out.next k6 (fun _ _ e=>e)).next HX7.out (fun _ _ f=>f.elim))
  have HB7:Hid (Blk (w6.alloc (.cells #[.int .i64 u.1] 3)) w6.heap.size #[.int .i64 u.1] 3):=heap_alloc_new w6 _
  have HC4:=Lib.hid ((HB4.out.kp k6 (fun e=>by have:=HR3.out;omega)).kp HX7.out (fun f=>f))
  have HC5:=Lib.hid ((HB5.out.kp k6 (fun e=>by have:=HR3.out;have:=HZ4.out;omega)).kp HX7.out (fun f=>f))
  clear h6 k6 H5 HK5 hnum HB4 HB5
  go_wp2_with (fail)
  go_ret
  exact ⟨_,rfl,H7.out,HK7.out,⟨_,_,_,rfl,HC4.out,HC5.out,HB7.out⟩⟩
 by_cases e6:x=kEvents
 ·have ho:playR r=(some (.evs (numR k.2).1),(numR k.2).2):=by
   have hxk:=HXK.out
   unfold playR
   simp only [HKK.out,hxk]
   rw [if_neg e1,if_neg e2,if_neg e3,if_neg e4,if_neg e5,if_pos e6]
  rw [ho]
  have q1:((bA x).toList == [111,112,101,110])=false:=by rw [bA_beq];exact decide_eq_false e1
  have q2:((bA x).toList == [99,108,111,115,101])=false:=by rw [bA_beq];exact decide_eq_false e2
  have q3:((bA x).toList == [116,105,99,107])=false:=by rw [bA_beq];exact decide_eq_false e3
  have q4:((bA x).toList == [97,115,107])=false:=by rw [bA_beq];exact decide_eq_false e4
  have q5:((bA x).toList == [119,97,116,99,104])=false:=by rw [bA_beq];exact decide_eq_false e5
  have q6:((bA x).toList == [101,118,101,110,116,115])=true:=by rw [bA_beq];exact decide_eq_true e6
  clear ho e1 e2 e3 e4 e5 e6
  obtain ⟨d,hd⟩:∃ d,numR k.2=d:=⟨_,rfl⟩
  rw [hd]
  have HD:=Lib.hid hd
  clear hd
  go_enter Tryz.func146,Tryz.ntmps146
  go_wp2_with (fail)
  refine HW.out.mono ?_
  rintro e w1 ⟨rfl,h1,k1⟩
  have H1:=Lib.hid h1
  have HK1:=Lib.hid k1
  clear h1 k1 HW
  go_wp2_with (fail)
  have hnum:=number_any rb m k.2 w1 H1.out HS1.out
  rw [HD.out] at hnum
  refine hnum.mono ?_
  rintro e w2 ⟨rfl,h2,k2⟩
  have H2:=Lib.hid (h2.ext ((Kp.refl (fun _=>False) w2).alloc (.cells #[.int .i64 d.1] 2)))
  have HK2:=Lib.hid ((HK1.out.next k2 (fun _ _ e=>e)).next ((Kp.refl (fun _=>False) w2).alloc (.cells #[.int .i64 d.1] 2)) (fun _ _ f=>f.elim))
  have HB2:Hid (Blk (w2.alloc (.cells #[.int .i64 d.1] 2)) w2.heap.size #[.int .i64 d.1] 2):=heap_alloc_new w2 _
  clear h2 k2 H1 HK1 hnum
  go_wp2_with (fail)
  go_ret
  exact ⟨_,rfl,H2.out,HK2.out,⟨w2.heap.size,rfl,HB2.out⟩⟩
 by_cases e7:x=kPaths
 ·have ho:playR r=(some .paths,k.2):=by
   have hxk:=HXK.out
   unfold playR
   simp only [HKK.out,hxk]
   rw [if_neg e1,if_neg e2,if_neg e3,if_neg e4,if_neg e5,if_neg e6,if_pos e7]
  rw [ho]
  have q1:((bA x).toList == [111,112,101,110])=false:=by rw [bA_beq];exact decide_eq_false e1
  have q2:((bA x).toList == [99,108,111,115,101])=false:=by rw [bA_beq];exact decide_eq_false e2
  have q3:((bA x).toList == [116,105,99,107])=false:=by rw [bA_beq];exact decide_eq_false e3
  have q4:((bA x).toList == [97,115,107])=false:=by rw [bA_beq];exact decide_eq_false e4
  have q5:((bA x).toList == [119,97,116,99,104])=false:=by rw [bA_beq];exact decide_eq_false e5
  have q6:((bA x).toList == [101,118,101,110,116,115])=false:=by rw [bA_beq];exact decide_eq_false e6
  have q7:((bA x).toList == [112,97,116,104,115])=true:=by rw [bA_beq];exact decide_eq_true e7
  clear ho e1 e2 e3 e4 e5 e6 e7
  go_enter Tryz.func146,Tryz.ntmps146
  go_wp2_with (fail)
  refine HW.out.mono ?_
  rintro e w1 ⟨rfl,h1,k1⟩
  have H1:=Lib.hid h1
  have HK1:=Lib.hid k1
  clear h1 k1 HW
  go_wp2_with (fail)
  go_ret
  exact ⟨_,rfl,H1.out,HK1.out,rfl⟩
 have ho:playR r=(none,(k.2.1,true)):=by
  have hxk:=HXK.out
  unfold playR
  simp only [HKK.out,hxk]
  rw [if_neg e1,if_neg e2,if_neg e3,if_neg e4,if_neg e5,if_neg e6,if_neg e7]
 rw [ho]
 have q1:((bA x).toList == [111,112,101,110])=false:=by rw [bA_beq];exact decide_eq_false e1
 have q2:((bA x).toList == [99,108,111,115,101])=false:=by rw [bA_beq];exact decide_eq_false e2
 have q3:((bA x).toList == [116,105,99,107])=false:=by rw [bA_beq];exact decide_eq_false e3
 have q4:((bA x).toList == [97,115,107])=false:=by rw [bA_beq];exact decide_eq_false e4
 have q5:((bA x).toList == [119,97,116,99,104])=false:=by rw [bA_beq];exact decide_eq_false e5
 have q6:((bA x).toList == [101,118,101,110,116,115])=false:=by rw [bA_beq];exact decide_eq_false e6
 have q7:((bA x).toList == [112,97,116,104,115])=false:=by rw [bA_beq];exact decide_eq_false e7
 clear ho e1 e2 e3 e4 e5 e6 e7
 go_enter Tryz.func146,Tryz.ntmps146
 go_wp2_with (fail)
 refine HW.out.mono ?_
 rintro e w1 ⟨rfl,h1,k1⟩
 have H1:=Lib.hid h1
 have HK1:=Lib.hid k1
 clear h1 k1 HW
 have hfl:=H1.out.flag true
 obtain ⟨a0,c0,cc0,cc1,cf1,_⟩:=H1.out.cells
 have HFL:=Lib.hid hfl
 clear hfl
 go_wp2_with (fail)
 go_ret
 exact ⟨_,rfl,HFL.out,HK1.out.set1 rb 1 _ rfl,rfl⟩
end Go.Proofs.YtnlefnhdhigecaaGreatDoor

namespace Go.Proofs.YtnlefnhdhigecaaGreatDoor
set_option maxRecDepth 100000
open Go.RowKit Av
def In64 (n:Int):Prop:=-9223372036854775808≤n∧n≤9223372036854775807
theorem grow_ext (w:World) (k:Nat) (os:Array Obj):Ext w (Go.Sort.grow (w.drewN k) os):=by
 refine ⟨rfl,rfl,rfl,by simp [Go.Sort.grow],fun j hj _=>?_⟩
 simp only [Go.Sort.grow]
 exact Array.getElem?_append_left hj
theorem Fmt_any (n:Int) (hn:In64 n) (w:World) (hG:GT w) :
  Calls Tryz.prog 182 #[.int .i64 n, .int .i64 10] w fun e w'=>e=.returned (.string (bA (Go.Lib.itoa n)))∧Ext w w':=
 (Tryz.strconv_FormatInt_10 n hn.1 hn.2 w hG.tab).mono fun _ _ ⟨he,k,os,hw⟩=>⟨he,hw ▸ grow_ext w k os⟩
theorem ItoaI_any (n:Int) (hn:In64 n) (w:World) (hG:GT w) :
  Calls Tryz.prog 219 #[.int .i64 n] w fun e w'=>e=.returned (.string (bA (Go.Lib.itoa n)))∧Ext w w':=
 (Tryz.strconv_Itoa n hn.1 hn.2 w hG.tab).mono fun _ _ ⟨he,k,os,hw⟩=>⟨he,hw ▸ grow_ext w k os⟩
theorem itoa_size {n:Int} (hn:In64 n):(bA (Go.Lib.itoa n)).size≤21:=by
 rw [bA_size]
 exact Go.Lib.itoa_length_le n hn.1 hn.2
theorem bA_app (a b:Bs):bA (a++b)=bA a++bA b:=by
 apply ByteArray.ext
 rw [ByteArray.data_append]
 simp [bA]
theorem bA_cons (c:UInt8) (b:Bs):bA (c::b)=⟨#[c]⟩++bA b:=bA_app [c] b
theorem join_bnd (l:List Bs) (sep:Bs):(Go.Lib.join l sep).length≤Go.Lib.lens l+l.length*sep.length:=by
 cases l with
 | nil=>exact Nat.zero_le _
 | cons x r=>
   rw [Go.Lib.join_length,List.length_cons,Nat.add_mul,Nat.mul_comm]
   omega
theorem JoinL_any (sep:ByteArray) (v:Value) (l:List Bs) (w:World) (h:Sl w 1 v l.length (l.map encStr)) (hn:l.length≤140737488355328) (hl:Go.Lib.lens l+l.length*sep.data.toList.length≤140737488355328) :
  Calls Tryz.prog 193 #[v, .string sep] w fun e w'=>e=.returned (.string (bA (Go.Lib.join l sep.data.toList)))∧Ext w w':=by
 have e1:(l.map bA).map (·.data.toList)=l:=by
  rw [List.map_map]
  exact (List.map_congr_left fun x _=>rfl).trans (List.map_id l)
 obtain ⟨a,c,rfl,hcc,hm,hop⟩:=Sl.open h
 by_cases h0:0<l.length
 ·obtain ⟨b,off,rfl,hb,hc⟩:=hop.2 h0
  have hj:=Tryz.strings_Join b off c (l.map bA) sep w (fun j x hx=>?_) hb (by rw [List.length_map];exact hn) (by rw [List.length_map];exact hcc) (by rw [e1];exact Nat.le_trans (join_bnd _ _) hl)
  ·rw [e1,List.length_map] at hj
   exact hj.mono fun e w' hh=>⟨hh.1,Kp.of_below hh.2⟩
  ·rw [List.getElem?_map,Option.map_eq_some_iff] at hx
   obtain ⟨y,hy,rfl⟩:=hx
   exact hc j _ (by rw [List.getElem?_map,hy];rfl)
 ·have:l=[]:=List.eq_nil_of_length_eq_zero (by omega)
  subst this
  exact (Tryz.strings_Join_none a c sep w).mono fun e w' hh=>⟨hh.1,hh.2 ▸ Kp.refl _ _⟩
set_option maxHeartbeats 800000 in
theorem errno_any (e:Int) (he:In64 e) (w:World) (hG:GT w) :
  Calls Tryz.prog 181 #[.int .i64 e] w fun x w'=>x=.returned (.string (bA (errT e)))∧Ext w w':=by
 have HI:=Lib.hid (ItoaI_any e he w hG)
 clear hG
 go_enter Tryz.func181,Tryz.ntmps181
 by_cases h0:e=0
 ·have q:(e == 0)=true:=by simpa using h0
  have hE:errT e=[111,107]:=by unfold errT;rw [if_pos h0]
  rw [hE]
  clear he h0 hE HI
  go_wp2_with (fail)
  go_ret
  exact ⟨rfl,Kp.refl _ _⟩
 ·have q:(e == 0)=false:=by simpa using h0
  have hE:errT e=69::Go.Lib.itoa e:=by unfold errT;rw [if_neg h0]
  rw [hE,bA_cons]
  have hsz:=itoa_size he
  clear h0 hE he
  generalize bA (Go.Lib.itoa e)=I at *
  go_wp2_with (fail)
  refine HI.out.mono ?_
  rintro x w1 ⟨rfl,hx⟩
  go_wp2_with (fail)
  go_ret
  exact ⟨rfl,hx⟩
set_option maxHeartbeats 800000 in
theorem text_any (s:Bs) (w:World) :
  Calls Tryz.prog 222 #[.string (bA s)] w fun x w'=>x=.returned (.string (bA (orT s)))∧w=w':=by
 go_enter Tryz.func222,Tryz.ntmps222
 by_cases h0:s=[]
 ·have q:((bA s).toList == [])=true:=by rw [bA_beq];exact decide_eq_true h0
  have hE:orT s=[45]:=by unfold orT;rw [if_pos h0]
  rw [hE]
  clear h0 hE
  go_wp2_with (fail)
  go_ret
  exact ⟨rfl,rfl⟩
 ·have q:((bA s).toList == [])=false:=by rw [bA_beq];exact decide_eq_false h0
  have hE:orT s=s:=by unfold orT;rw [if_neg h0]
  rw [hE]
  clear h0 hE
  go_wp2_with (fail)
  go_ret
  exact ⟨rfl,rfl⟩
end Go.Proofs.YtnlefnhdhigecaaGreatDoor

namespace Go.Proofs.YtnlefnhdhigecaaGreatDoor
set_option maxRecDepth 100000
open Go.RowKit Av
def NumsLoop (w:World) (l:List Bs) (s3 s8:Value) (wr:World):Prop:=∃ k:Nat,k≤l.length∧s8=.int .i64 k∧wr.ownsRow w.heap.size 9 1 s3 k ((l.take k).map encStr)∧Ext w wr
theorem take_enc {l:List Bs} {k:Nat} (h:k<l.length):(l.take (k+1)).map encStr=(l.take k).map encStr++[encStr l[k]]:=by
 rw [List.take_succ_eq_append_getElem h,List.map_append]
 rfl
theorem lens_le {B:Nat}:∀ l:List Bs,(∀ x∈l,x.length≤B)→Go.Lib.lens l≤l.length*B
 | [],_=>Nat.zero_le _
 | x::l,h=>by
   have h1:=lens_le l fun y hy=>h y (List.mem_cons_of_mem _ hy)
   have h2:=h x (List.mem_cons_self ..)
   unfold Go.Lib.lens at *
   rw [List.map_cons,List.sum_cons,List.length_cons,Nat.add_mul]
   omega
set_option maxHeartbeats 1600000 in
theorem numbers_told (l:List Int) (v:Value) (w:World) (hG:GT w) (h:Sl w 1 v l.length (l.map (Value.int .i64))) (hI:∀ n∈l,In64 n) (hn:l.length≤1000000) :
  Calls Tryz.prog 185 #[v] w fun e w'=>e=.returned (.string (bA (Go.Lib.join (l.map Go.Lib.itoa) [32])))∧Ext w w':=by
 have HG:=Lib.hid hG
 have HI:=Lib.hid hI
 obtain ⟨a,c,rfl,hcc,hm,hop⟩:=Sl.open h
 have HOP:Hid (∀ k (hk:k<l.length),∃ g off,a=some ⟨g,off,none⟩∧w.cell? ⟨g,off+k,none⟩=some (.int .i64 l[k])):=by
  intro k hk
  obtain ⟨g,off,e2,_,hc⟩:=hop.2 (by omega)
  exact ⟨g,off,e2,hc k _ (by rw [List.getElem?_map,List.getElem?_eq_getElem hk];rfl)⟩
 clear hop hm hG hI h hcc
 have HJ:Hid (∀ (x:Value) (wj:World),Sl wj 1 x l.length ((l.map Go.Lib.itoa).map encStr)→Calls Tryz.prog 193 #[x, .string ⟨#[32]⟩] wj fun e w'=>e=.returned (.string (bA (Go.Lib.join (l.map Go.Lib.itoa) [32])))∧Ext wj w'):=by
  intro x wj hs
  refine JoinL_any ⟨#[32]⟩ x (l.map Go.Lib.itoa) wj (by rw [List.length_map];exact hs) (by rw [List.length_map];omega) ?_
  have h1:=lens_le (B:=21) (l.map Go.Lib.itoa) fun x hx=>by
   obtain ⟨n,hn,rfl⟩:=List.mem_map.1 hx
   exact Go.Lib.itoa_length_le n (HI.out n hn).1 (HI.out n hn).2
  rw [List.length_map] at h1 ⊢
  show _+_*1≤_
  omega
 go_enter Tryz.func185,Tryz.ntmps185
 go_wp2_with (fail)
 go_loopw [3,8] (fun s3 s8 wr=>NumsLoop w (l.map Go.Lib.itoa) s3 s8 wr) (fun _ s8 _=>l.length - (intOf s8).toNat)
 case atStart=>exact ⟨0,Nat.zero_le _,rfl,⟨rfl, .inl ⟨rfl,rfl⟩⟩,Kp.refl _ _⟩
 case round=>
  obtain ⟨k,hk,rfl,how,hxr⟩:=hrel
  rw [List.length_map] at hk
  have HOW:=Lib.hid how
  have HXR:=Lib.hid hxr
  clear how hxr
  by_cases hlt:k<l.length
  ·obtain ⟨g,off,rfl,hcl⟩:=HOP.out k hlt
   have hc:=HXR.out.cell hcl (fun f=>f)
   have HF:=Lib.hid (Fmt_any l[k] (HI.out _ (List.getElem_mem hlt)) wr (HG.out.ext HXR.out))
   have HT:Hid (((l.map Go.Lib.itoa).take (k+1)).map encStr=((l.map Go.Lib.itoa).take k).map encStr++[encStr (Go.Lib.itoa l[k])]):=by
    show _=_
    rw [take_enc (by rw [List.length_map];exact hlt),List.getElem_map]
   generalize l[k]=x at hc HF HT
   clear hcl
   go_wp2_with (fail)
   refine HF.out.mono ?_
   rintro e w1 ⟨rfl,hx1⟩
   have HX1:=Lib.hid (HXR.out.next hx1 (fun _ _ f=>f.elim))
   have HO1:=Lib.hid (ownsRow.ext HOW.out hx1)
   clear hx1 HF
   go_wp2_with (at_builtin;refine wpList_app1 36 9 str_facts rfl _ _ rfl w.heap.size _ k _ rfl (ownsRow.ext HO1.out ((Kp.refl _ w1).alloc _)) w1.heap.size 1 (encStr (Go.Lib.itoa x)) rfl (Blk.cell (heap_alloc_new w1 _) 0 _ rfl) rfl ?c1 ?c2 ?_)
   case c1=>omega
   case c2=>exact Nat.le_trans HX1.out.size ((Kp.refl (fun _=>False) w1).alloc _).size
   intro v' w' h1' h2'
   go_wp2_with (fail)
   go_light
   refine ⟨⟨k+1,by rw [List.length_map];omega,by go_num, ?_, ?_⟩,by simp [intOf];omega⟩
   ·rw [HT.out]
    simpa using h1'
   ·exact (HX1.out.alloc _).next h2' (fun i hi e=>by have:=(own_in HO1.out e).1;omega)
  ·have hk2:k=l.length:=by omega
   subst hk2
   have ht:(l.map Go.Lib.itoa).take l.length=l.map Go.Lib.itoa:=List.take_of_length_le (by rw [List.length_map];exact Nat.le_refl _)
   rw [ht] at HOW
   have hsl:=Sl.of_owns HOW.out
   have HJ2:=Lib.hid (HJ.out _ _ hsl)
   clear hsl ht HJ
   go_wp2_with (fail)
   refine HJ2.out.mono ?_
   rintro e w2 ⟨rfl,hx2⟩
   go_wp2_with (fail)
   go_ret
   exact ⟨rfl,HXR.out.next hx2 (fun _ _ f=>f.elim)⟩
end Go.Proofs.YtnlefnhdhigecaaGreatDoor

