/- Texts put together: AvWTreeG, AvWTreeE, AvWRefD, AvWRefE, AvWOp. -/
import Derived.Test.YtnlefnhdhigecaaGreatDoorAvHWTreeF
import Derived.Test.YtnlefnhdhigecaaGreatDoorAvG8
import Derived.Test.YtnlefnhdhigecaaGreatDoorAvG6
import Derived.Deep.QuietTactic
import Derived.BigQuiet
import Derived.Deep.RegionWith
import Derived.Laws.BytesArg
import Derived.Test.YtnlefnhdhigecaaGreatDoorAvG1
import Derived.Deep.DeepCutAuto
namespace Go.Proofs.YtnlefnhdhigecaaGreatDoor
set_option maxRecDepth 100000
open Go.RowKit Av
theorem own_aside {w w':World} {base n:Nat} {v:Value} {xs:List Value} (h:w.ownsRow base strT 1 v n xs) {r:Nat} {A:Array Value} {T:TypeId} (hr:Blk w r A T) (h3:T≠strT) (k:Kp (fun i=>i=r) w w'):w'.ownsRow base strT 1 v n xs:=by
 refine ownsRow.kp h k (fun i hi e=>?_)
 subst e
 obtain ⟨_,⟨rfl,_⟩|⟨q,c,cur,rfl,_,hg,_⟩⟩:=h
 ·simp [Value.ownBlock] at hi
 ·simp only [Value.ownBlock,Option.some.injEq] at hi
  subst hi
  have hr':w.heap[q]? = some (.cells A T (0,0)):=hr
  rw [hr'] at hg
  simp only [Option.some.injEq,Obj.cells.injEq] at hg
  exact h3 hg.2.1
theorem blk_set11 {w:World} {r:Nat} {T:TypeId} (h:Blk w r rsZ T) (u0 u1 u2 u3 u4 u5 u6 u7 u8 u9 u10:Value):Blk (set11 w r u0 u1 u2 u3 u4 u5 u6 u7 u8 u9 u10) r #[u0,u1,u2,u3,u4,u5,u6,u7,u8,u9,u10] T:=by
 unfold rsZ at h
 have h0:Blk (w.setCell ⟨r,0,none⟩ u0) r #[u0,(.string ⟨#[]⟩),(.string ⟨#[]⟩),(.slice none 0 0),(.int .i64 0),(.int .i64 0),(.int .i64 0),(.int .i64 0),(.int .i64 0),(.int .i64 0),(.int .i64 0)] T:=h.set 0 u0
 have h1:Blk ((w.setCell ⟨r,0,none⟩ u0).setCell ⟨r,1,none⟩ u1) r #[u0,u1,(.string ⟨#[]⟩),(.slice none 0 0),(.int .i64 0),(.int .i64 0),(.int .i64 0),(.int .i64 0),(.int .i64 0),(.int .i64 0),(.int .i64 0)] T:=h0.set 1 u1
 have h2:Blk (((w.setCell ⟨r,0,none⟩ u0).setCell ⟨r,1,none⟩ u1).setCell ⟨r,2,none⟩ u2) r #[u0,u1,u2,(.slice none 0 0),(.int .i64 0),(.int .i64 0),(.int .i64 0),(.int .i64 0),(.int .i64 0),(.int .i64 0),(.int .i64 0)] T:=h1.set 2 u2
 have h3:Blk ((((w.setCell ⟨r,0,none⟩ u0).setCell ⟨r,1,none⟩ u1).setCell ⟨r,2,none⟩ u2).setCell ⟨r,3,none⟩ u3) r #[u0,u1,u2,u3,(.int .i64 0),(.int .i64 0),(.int .i64 0),(.int .i64 0),(.int .i64 0),(.int .i64 0),(.int .i64 0)] T:=h2.set 3 u3
 have h4:Blk (((((w.setCell ⟨r,0,none⟩ u0).setCell ⟨r,1,none⟩ u1).setCell ⟨r,2,none⟩ u2).setCell ⟨r,3,none⟩ u3).setCell ⟨r,4,none⟩ u4) r #[u0,u1,u2,u3,u4,(.int .i64 0),(.int .i64 0),(.int .i64 0),(.int .i64 0),(.int .i64 0),(.int .i64 0)] T:=h3.set 4 u4
 have h5:Blk ((((((w.setCell ⟨r,0,none⟩ u0).setCell ⟨r,1,none⟩ u1).setCell ⟨r,2,none⟩ u2).setCell ⟨r,3,none⟩ u3).setCell ⟨r,4,none⟩ u4).setCell ⟨r,5,none⟩ u5) r #[u0,u1,u2,u3,u4,u5,(.int .i64 0),(.int .i64 0),(.int .i64 0),(.int .i64 0),(.int .i64 0)] T:=h4.set 5 u5
 have h6:Blk (((((((w.setCell ⟨r,0,none⟩ u0).setCell ⟨r,1,none⟩ u1).setCell ⟨r,2,none⟩ u2).setCell ⟨r,3,none⟩ u3).setCell ⟨r,4,none⟩ u4).setCell ⟨r,5,none⟩ u5).setCell ⟨r,6,none⟩ u6) r #[u0,u1,u2,u3,u4,u5,u6,(.int .i64 0),(.int .i64 0),(.int .i64 0),(.int .i64 0)] T:=h5.set 6 u6
 have h7:Blk ((((((((w.setCell ⟨r,0,none⟩ u0).setCell ⟨r,1,none⟩ u1).setCell ⟨r,2,none⟩ u2).setCell ⟨r,3,none⟩ u3).setCell ⟨r,4,none⟩ u4).setCell ⟨r,5,none⟩ u5).setCell ⟨r,6,none⟩ u6).setCell ⟨r,7,none⟩ u7) r #[u0,u1,u2,u3,u4,u5,u6,u7,(.int .i64 0),(.int .i64 0),(.int .i64 0)] T:=h6.set 7 u7
 have h8:Blk (((((((((w.setCell ⟨r,0,none⟩ u0).setCell ⟨r,1,none⟩ u1).setCell ⟨r,2,none⟩ u2).setCell ⟨r,3,none⟩ u3).setCell ⟨r,4,none⟩ u4).setCell ⟨r,5,none⟩ u5).setCell ⟨r,6,none⟩ u6).setCell ⟨r,7,none⟩ u7).setCell ⟨r,8,none⟩ u8) r #[u0,u1,u2,u3,u4,u5,u6,u7,u8,(.int .i64 0),(.int .i64 0)] T:=h7.set 8 u8
 have h9:Blk ((((((((((w.setCell ⟨r,0,none⟩ u0).setCell ⟨r,1,none⟩ u1).setCell ⟨r,2,none⟩ u2).setCell ⟨r,3,none⟩ u3).setCell ⟨r,4,none⟩ u4).setCell ⟨r,5,none⟩ u5).setCell ⟨r,6,none⟩ u6).setCell ⟨r,7,none⟩ u7).setCell ⟨r,8,none⟩ u8).setCell ⟨r,9,none⟩ u9) r #[u0,u1,u2,u3,u4,u5,u6,u7,u8,u9,(.int .i64 0)] T:=h8.set 9 u9
 have h10:Blk (((((((((((w.setCell ⟨r,0,none⟩ u0).setCell ⟨r,1,none⟩ u1).setCell ⟨r,2,none⟩ u2).setCell ⟨r,3,none⟩ u3).setCell ⟨r,4,none⟩ u4).setCell ⟨r,5,none⟩ u5).setCell ⟨r,6,none⟩ u6).setCell ⟨r,7,none⟩ u7).setCell ⟨r,8,none⟩ u8).setCell ⟨r,9,none⟩ u9).setCell ⟨r,10,none⟩ u10) r #[u0,u1,u2,u3,u4,u5,u6,u7,u8,u9,u10] T:=h9.set 10 u10
 exact h10
set_option maxHeartbeats 6400000 in
theorem read_any (base b m:Nat) (room:Int) (t:Tr) (k:Int) (p d:ByteArray) (v f:Int) (w:World) (hT:TreeR w base b m room t) (hok:TrOk t) :
  Calls Tryz.prog 111 #[.pointer (some ⟨b,0,none⟩), .agg #[.int .i64 k, .string p, .string d, .int .i64 v, .int .i64 f]] w fun e w'=>DoPost w base b m room t (pl t,readP (pl t) ⟨k,p,d,v,f⟩) e w':=by
 obtain ⟨wA,hWA⟩:∃ wA,w.alloc (.cells #[.int .i64 k, .string p, .string d, .int .i64 v, .int .i64 f] 33)=wA:=⟨_,rfl⟩
 have hxA:Ext w wA:=by rw [← hWA];exact (Kp.refl _ _).alloc _
 have hA:Blk wA w.heap.size #[.int .i64 k, .string p, .string d, .int .i64 v, .int .i64 f] 33:=by rw [← hWA];exact heap_alloc_new w _
 obtain ⟨wB,hWB⟩:∃ wB,wA.alloc (.cells rsZ rsuT)=wB:=⟨_,rfl⟩
 have hxB:Ext wA wB:=by rw [← hWB];exact (Kp.refl _ _).alloc _
 have hsA:wA.heap.size=w.heap.size+1:=by rw [← hWA];exact World.size_alloc _ _
 have hB:Blk wB (w.heap.size+1) rsZ rsuT:=by rw [← hWB,← hsA];exact heap_alloc_new wA _
 have HAB:=Lib.hid (hA.kp hxB (fun f=>f))
 have HB:=Lib.hid hB
 have HXB:=Lib.hid (hxA.ext hxB)
 have HTB:=Lib.hid (hT.ext (hxA.ext hxB))
 have HWA:=Lib.hid hWA
 unfold rsZ at hWB
 have HWB:=Lib.hid hWB
 have HOK:=Lib.hid hok
 have HC:Hid ((pl t,readP (pl t) ⟨k,p,d,v,f⟩)=match mget (pl t) p with
  | none=>(pl t,failR 4)
  | some n=>(pl t,⟨0,p,if k=5 then n.data else ⟨#[]⟩,if k=7 then n.names else [],n⟩)):=by
  show _=_
  unfold readP
  cases mget (pl t) p<;>rfl
 generalize (pl t,readP (pl t) ⟨k,p,d,v,f⟩)=R at HC ⊢
 clear hWA hxA hA hWB hxB hB hsA hok hT
 go_enter Tryz.func111,Tryz.ntmps111
 go_upto_region 1 with (fail)
 rw [HWA.out]
 rw [HWB.out]
 refine' wp_region_dag0 ((7, .val _)::(8, .val _)::(9, .val _)::(10, .val _)::(11, .val _)::(12, .val _)::(13, .val _)::(5, .val _)::[]) (by exact ⟨fun _ _ _ _ _=>trivial,⟨fun _ _ _ _ _=>trivial,⟨fun _ _ _ _ _=>trivial,⟨fun _ _ _ _ _=>trivial,⟨fun _ _ _ _ _=>trivial,⟨fun _ _ _ _ _=>trivial,⟨fun _ _ _ _ _=>trivial,⟨fun _ _ _ _ _=>trivial,trivial⟩⟩⟩⟩⟩⟩⟩⟩) (by kernel_rfl) (by kernel_rfl) (by kernel_rfl) ?_
 rotate_left 8
 repeat (first
  | (refine wpD_skipv ?_ ?_ ?_
     focus rfl
     focus rfl
     simp only [Act.put,List.setIfInBounds_toArray,List.set_cons_succ,List.set_cons_zero])
  | (refine' wpD_val (c:=_) ?_ (fun w=>Kp.refl _ w) ?_ (fun wq hwq hfq=>?_) ?_
     rotate_left
     focus rfl
     focus rfl
     focus ((have a1:=(HAB.out.kp hwq (fun f=>f)).cell 1 _ rfl;have d1:=(HTB.out.blk.kp hwq (fun f=>f)).cell 1 _ rfl;have hlk:=tree_look (HTB.out.ext hwq) p);go_simp;first|done|rfl)
     simp only [Act.put,List.setIfInBounds_toArray,List.set_cons_succ,List.set_cons_zero])
  | (refine' wpD_con (c:=_) ?_ ?_ (fun wq hwq hfq=>?_) ?_
     rotate_left
     focus rfl
     focus rfl
     focus ((have a1:=(HAB.out.kp hwq (fun f=>f)).cell 1 _ rfl;have d1:=(HTB.out.blk.kp hwq (fun f=>f)).cell 1 _ rfl;have hlk:=tree_look (HTB.out.ext hwq) p);go_simp;(try (rw [dUpon_enter]));fail)
     simp only [Act.put,List.setIfInBounds_toArray,List.set_cons_succ,List.set_cons_zero])
  | fail)
 refine wpD_nil ?_
 intro w2 hx2 hend
 clear hend
 have HX2:=Lib.hid hx2
 clear hx2
 cases hg:mget t p with
 | none=>
   have HE:Hid (R=(pl t,failR 4)):=by show _=_;rw [HC.out,pl_get,hg];rfl
   clear hg HC
   go_wp2_with (fail)
   refine (fail_any 4 _).mono ?_
   rintro e9 w9 ⟨rfl,hx9⟩
   have hB9:=(HB.out.kp HX2.out (fun f=>f)).kp hx9 (fun f=>f)
   have HT9:=Lib.hid ((HTB.out.ext HX2.out).ext hx9)
   have HB9:=Lib.hid hB9
   have HX9:=Lib.hid ((HXB.out.ext HX2.out).ext hx9)
   unfold rsZ at hB9
   have c0:=hB9.cell 0 _ rfl
   have c1:=hB9.cell 1 _ rfl
   have c2:=hB9.cell 2 _ rfl
   have c3:=hB9.cell 3 _ rfl
   have c4:=hB9.cell 4 _ rfl
   have c5:=hB9.cell 5 _ rfl
   have c6:=hB9.cell 6 _ rfl
   have c7:=hB9.cell 7 _ rfl
   have c8:=hB9.cell 8 _ rfl
   have c9:=hB9.cell 9 _ rfl
   have c10:=hB9.cell 10 _ rfl
   have fc0:=hB9.free 0
   have fc1:=hB9.free 1
   have fc2:=hB9.free 2
   have fc3:=hB9.free 3
   have fc4:=hB9.free 4
   have fc5:=hB9.free 5
   have fc6:=hB9.free 6
   have fc7:=hB9.free 7
   have fc8:=hB9.free 8
   have fc9:=hB9.free 9
   have fc10:=hB9.free 10
   clear hB9 hx9
   unfold resA
   go_wp2_with (fail)
   go_light
   refine bodyPost_ret (v:=resA 4 ⟨#[]⟩ ⟨#[]⟩ (.slice none 0 0) ndZ) (by simp [results,Tryz.results111,go_sem,resA,ndZ,c0,c1,c2,c3,c4,c5,c6,c7,c8,c9,c10]) rfl ?_
   rw [HE.out]
   have k11:=kp_set11 w9 (w.heap.size+1) (.int .i64 4) (.string ⟨#[]⟩) (.string ⟨#[]⟩) (.slice none 0 0) (.int .i64 0) (.int .i64 0) (.int .i64 0) (.int .i64 0) (.int .i64 0) (.int .i64 0) (.int .i64 0)
   exact ⟨t, .slice none 0 0,rfl,own_nil _,HT9.out.aside HB9.out (by decide) (by decide) (by decide) k11,rfl,(Ext.kp HX9.out).next k11 (fun i hi e=>by omega),Fresh.refl _ _⟩
 | some gn=>
   obtain ⟨g,n⟩:=gn
   have hmem:=mget_mem hg
   have HNO:Hid (NodeOk n):=HOK.out _ hmem
   have HC2:=HC.out
   rw [pl_get,hg] at HC2
   simp only [Option.map_some] at HC2
   have HE:=Lib.hid HC2
   obtain ⟨nv,hnb,hno⟩:NdAt w2 g n:=(HTB.out.nod _ hmem).ext HX2.out
   obtain ⟨na,nc,rfl⟩:=owns_slice hno
   have HNB:=Lib.hid hnb
   have HNS:=Lib.hid hno
   have HA2:=Lib.hid (HAB.out.kp HX2.out (fun f=>f))
   clear hg hmem HC HC2 hnb hno
   simp only [Option.map_some,Option.getD_some]
   go_upto_region 4 with (fail)
   refine' wp_region_dagK 8 [] ((17, .val _)::(18, .val _)::(19, .val _)::(20, .val _)::(21, .val _)::(22, .val _)::(23, .val _)::(6,⟨fun v=>∃ r,v=.pointer (some ⟨r,0,none⟩),fun v w=>∃ r,v=.pointer (some ⟨r,0,none⟩)∧w2.heap.size≤r∧Blk w r rsZ rsuT⟩)::[]) (by exact ⟨fun _ _ _ _ _=>trivial,⟨fun _ _ _ _ _=>trivial,⟨fun _ _ _ _ _=>trivial,⟨fun _ _ _ _ _=>trivial,⟨fun _ _ _ _ _=>trivial,⟨fun _ _ _ _ _=>trivial,⟨fun _ _ _ _ _=>trivial,⟨fun _ _ _ hr ⟨r,h1,h2,h3⟩=>⟨r,h1,h2,h3.kp hr (fun f=>f)⟩,trivial⟩⟩⟩⟩⟩⟩⟩⟩) (by kernel_rfl) (by kernel_rfl) (by kernel_rfl) ?_
   rotate_left 7
   simp only [List.take_succ_cons,List.take_zero]
   repeat (first
    | (refine wpD_skipv ?_ ?_ ?_
       focus rfl
       focus rfl
       simp only [Act.put,List.setIfInBounds_toArray,List.set_cons_succ,List.set_cons_zero])
    | (refine' wpD_val (c:=_) ?_ (fun w=>Kp.refl _ w) ?_ (fun wq hwq hfq=>?_) ?_
       rotate_left
       focus rfl
       focus rfl
       focus ((have hext:Ext w2 wq:=hwq.mono (fun i hi e=>by omega);have a1:=(HA2.out.kp hext (fun f=>f)).cell 1 _ rfl;have n0:=(HNB.out.kp hext (fun f=>f)).cell 0 (.int .i64 n.made) rfl;have n1:=(HNB.out.kp hext (fun f=>f)).cell 1 (.int .i64 n.chg) rfl;have n2:=(HNB.out.kp hext (fun f=>f)).cell 2 (.int .i64 n.ver) rfl;have n3:=(HNB.out.kp hext (fun f=>f)).cell 3 (.int .i64 n.kids) rfl;have n4:=(HNB.out.kp hext (fun f=>f)).cell 4 (.int .i64 n.own) rfl;have n5:=(HNB.out.kp hext (fun f=>f)).cell 5 (.int .i64 n.len) rfl;have n6:=(HNB.out.kp hext (fun f=>f)).cell 6 (.int .i64 n.cnt) rfl);go_simp;first|done|rfl)
       simp only [Act.put,List.setIfInBounds_toArray,List.set_cons_succ,List.set_cons_zero])
    | (refine' wpD_con (c:=_) ?_ ?_ (fun wq hwq hfq=>?_) ?_
       rotate_left
       focus rfl
       focus rfl
       focus ((have hext:Ext w2 wq:=hwq.mono (fun i hi e=>by omega);have a1:=(HA2.out.kp hext (fun f=>f)).cell 1 _ rfl;have n0:=(HNB.out.kp hext (fun f=>f)).cell 0 (.int .i64 n.made) rfl;have n1:=(HNB.out.kp hext (fun f=>f)).cell 1 (.int .i64 n.chg) rfl;have n2:=(HNB.out.kp hext (fun f=>f)).cell 2 (.int .i64 n.ver) rfl;have n3:=(HNB.out.kp hext (fun f=>f)).cell 3 (.int .i64 n.kids) rfl;have n4:=(HNB.out.kp hext (fun f=>f)).cell 4 (.int .i64 n.own) rfl;have n5:=(HNB.out.kp hext (fun f=>f)).cell 5 (.int .i64 n.len) rfl;have n6:=(HNB.out.kp hext (fun f=>f)).cell 6 (.int .i64 n.cnt) rfl);go_simp;(try (rw [dUpon_enter]));fail)
       simp only [Act.put,List.setIfInBounds_toArray,List.set_cons_succ,List.set_cons_zero])
    | (refine wpD_made (A:=fun v=>∃ r,v=.pointer (some ⟨r,0,none⟩)) (V:=fun v w=>∃ r,v=.pointer (some ⟨r,0,none⟩)∧w2.heap.size≤r∧Blk w r rsZ rsuT) 6 ?_ ?_ ?_ ?_ (fun wq hwq hfq=>?_) (fun v6 h6=>?_)
       focus rfl
       focus rfl
       focus (exact ⟨.pointer (some ⟨0,0,none⟩),0,rfl⟩)
       focus rfl
       focus ((have hext:Ext w2 wq:=hwq.mono (fun i hi e=>by omega);have a1:=(HA2.out.kp hext (fun f=>f)).cell 1 _ rfl;have n0:=(HNB.out.kp hext (fun f=>f)).cell 0 (.int .i64 n.made) rfl;have n1:=(HNB.out.kp hext (fun f=>f)).cell 1 (.int .i64 n.chg) rfl;have n2:=(HNB.out.kp hext (fun f=>f)).cell 2 (.int .i64 n.ver) rfl;have n3:=(HNB.out.kp hext (fun f=>f)).cell 3 (.int .i64 n.kids) rfl;have n4:=(HNB.out.kp hext (fun f=>f)).cell 4 (.int .i64 n.own) rfl;have n5:=(HNB.out.kp hext (fun f=>f)).cell 5 (.int .i64 n.len) rfl;have n6:=(HNB.out.kp hext (fun f=>f)).cell 6 (.int .i64 n.cnt) rfl);go_simp;(try (rw [dUpon_enter]));rw [dUpon_value];exact mPost ⟨_,rfl⟩ ⟨_,rfl,hwq.size,heap_alloc_new _ _⟩ ((Kp.refl _ _).alloc _))
       obtain ⟨r6,rfl⟩:=h6
       simp only [Act.put,List.setIfInBounds_toArray,List.set_cons_succ,List.set_cons_zero])
    | fail)
   refine wpD_nil ?_
   intro w5 hx5 hend
   obtain ⟨rr,hr6,hr,hb6⟩:∃ r,Value.pointer (some ⟨r6,0,none⟩)=.pointer (some ⟨r,0,none⟩)∧w2.heap.size≤r∧Blk w5 r rsZ rsuT:=hend 6 (by kernel_rfl)
   obtain rfl:r6=rr:=by simpa using hr6
   clear hend hr6
   have hx5':Ext w2 w5:=hx5.mono (fun i hi e=>by omega)
   obtain ⟨wR,hWR⟩:∃ wR,set11 w5 r6 (.int .i64 0) (.string p) (.string ⟨#[]⟩) (.slice none 0 0) (.int .i64 n.made) (.int .i64 n.chg) (.int .i64 n.ver) (.int .i64 n.kids) (.int .i64 n.own) (.int .i64 n.len) (.int .i64 n.cnt)=wR:=⟨_,rfl⟩
   have hxR:Ext w2 wR:=hx5'.next (by rw [← hWR];exact kp_set11 w5 r6 (.int .i64 0) (.string p) (.string ⟨#[]⟩) (.slice none 0 0) (.int .i64 n.made) (.int .i64 n.chg) (.int .i64 n.ver) (.int .i64 n.kids) (.int .i64 n.own) (.int .i64 n.len) (.int .i64 n.cnt)) (fun i hi e=>by omega)
   have hR:Blk wR r6 (rsQ p n) rsuT:=by
    rw [← hWR]
    exact blk_set11 hb6 _ _ _ _ _ _ _ _ _ _ _
   unfold set11 at hWR
   unfold rsZ at hb6
   have z0:=hb6.cell 0 _ rfl
   have z1:=hb6.cell 1 _ rfl
   have z2:=hb6.cell 2 _ rfl
   have z3:=hb6.cell 3 _ rfl
   have z4:=hb6.cell 4 _ rfl
   have z5:=hb6.cell 5 _ rfl
   have z6:=hb6.cell 6 _ rfl
   have z7:=hb6.cell 7 _ rfl
   have z8:=hb6.cell 8 _ rfl
   have z9:=hb6.cell 9 _ rfl
   have z10:=hb6.cell 10 _ rfl
   have fz0:=hb6.free 0
   have fz1:=hb6.free 1
   have fz2:=hb6.free 2
   have fz3:=hb6.free 3
   have fz4:=hb6.free 4
   have fz5:=hb6.free 5
   have fz6:=hb6.free 6
   have fz7:=hb6.free 7
   have fz8:=hb6.free 8
   have fz9:=hb6.free 9
   have fz10:=hb6.free 10
   clear hb6
   have HXR:=Lib.hid hxR
   have HR:=Lib.hid hR
   have haR:=HA2.out.kp HXR.out (fun f=>f)
   have hnbR:=HNB.out.kp HXR.out (fun f=>f)
   have HNR:=Lib.hid (ownsRow.ext HNS.out HXR.out)
   have HBR:=Lib.hid ((HB.out.kp HX2.out (fun f=>f)).kp HXR.out (fun f=>f))
   have HTR:=Lib.hid ((HTB.out.ext HX2.out).ext HXR.out)
   have HXW:=Lib.hid ((HXB.out.ext HX2.out).ext HXR.out)
   have HWR:=Lib.hid hWR
   have HSR:Hid (w.heap.size+1<r6):=by
    have h1:=HX2.out.size
    have h3:=HB.out.lt
    show _<_
    omega
   clear hWR hxR hR hx5 hx5'
   by_cases k5:k=5
   ·subst k5
    have HE:Hid (R=(pl t,⟨0,p,n.data,[],n⟩)):=HE.out.trans (by simp)
    have hr:=HR.out
    obtain ⟨wS,hWS⟩:∃ wS,wR.setCell ⟨r6,2,none⟩ (.string n.data)=wS:=⟨_,rfl⟩
    have hkS:Kp (fun i=>i=r6) wR wS:=by rw [← hWS];exact (Kp.refl (fun i=>i=r6) wR).set1 _ 2 _ rfl
    have HRS:Hid (Blk wS r6 #[.int .i64 0, .string p, .string n.data, .slice none 0 0, .int .i64 n.made, .int .i64 n.chg, .int .i64 n.ver, .int .i64 n.kids, .int .i64 n.own, .int .i64 n.len, .int .i64 n.cnt] rsuT):=by show Blk _ _ _ _;rw [← hWS];exact hr.set 2 _
    have HBS:=Lib.hid (HBR.out.kp hkS (by have:=HSR.out;omega))
    have HTS:=Lib.hid (HTR.out.aside hr (by decide) (by decide) (by decide) hkS)
    have HXS:Hid (Ext w wS):=HXW.out.next hkS (fun i hi e=>by have:=HSR.out;omega)
    have HWS:=Lib.hid hWS
    unfold rsQ at hr
    unfold ndA at hnbR
    have a0:=haR.cell 0 _ rfl
    have a1:=haR.cell 1 _ rfl
    have a2:=haR.cell 2 _ rfl
    have a3:=haR.cell 3 _ rfl
    have a4:=haR.cell 4 _ rfl
    have j0:=hnbR.cell 0 _ rfl
    have j1:=hnbR.cell 1 _ rfl
    have j2:=hnbR.cell 2 _ rfl
    have j3:=hnbR.cell 3 _ rfl
    have j4:=hnbR.cell 4 _ rfl
    have j5:=hnbR.cell 5 _ rfl
    have j6:=hnbR.cell 6 _ rfl
    have j7:=hnbR.cell 7 _ rfl
    have j8:=hnbR.cell 8 _ rfl
    have j9:=hnbR.cell 9 _ rfl
    have c0:=hr.cell 0 _ rfl
    have c1:=hr.cell 1 _ rfl
    have c2:=hr.cell 2 _ rfl
    have c3:=hr.cell 3 _ rfl
    have c4:=hr.cell 4 _ rfl
    have c5:=hr.cell 5 _ rfl
    have c6:=hr.cell 6 _ rfl
    have c7:=hr.cell 7 _ rfl
    have c8:=hr.cell 8 _ rfl
    have c9:=hr.cell 9 _ rfl
    have c10:=hr.cell 10 _ rfl
    have fc0:=hr.free 0
    have fc1:=hr.free 1
    have fc2:=hr.free 2
    have fc3:=hr.free 3
    have fc4:=hr.free 4
    have fc5:=hr.free 5
    have fc6:=hr.free 6
    have fc7:=hr.free 7
    have fc8:=hr.free 8
    have fc9:=hr.free 9
    have fc10:=hr.free 10
    clear haR hnbR hr hWS hkS
    go_upto_region 5 with (fail)
    rw [HWR.out]
    clear z0 z1 z2 z3 z4 z5 z6 z7 z8 z9 z10 fz0 fz1 fz2 fz3 fz4 fz5 fz6 fz7 fz8 fz9 fz10
    go_upto_region 10 with (fail)
    rw [HWS.out]
    clear a0 a1 a2 a3 a4 j0 j1 j2 j3 j4 j5 j6 j7 j8 j9 c0 c1 c2 c3 c4 c5 c6 c7 c8 c9 c10 fc0 fc1 fc2 fc3 fc4 fc5 fc6 fc7 fc8 fc9 fc10
    have hrr:=HRS.out
    have hbb:=HBS.out
    unfold rsZ at hbb
    have c0:=hrr.cell 0 _ rfl
    have c1:=hrr.cell 1 _ rfl
    have c2:=hrr.cell 2 _ rfl
    have c3:=hrr.cell 3 _ rfl
    have c4:=hrr.cell 4 _ rfl
    have c5:=hrr.cell 5 _ rfl
    have c6:=hrr.cell 6 _ rfl
    have c7:=hrr.cell 7 _ rfl
    have c8:=hrr.cell 8 _ rfl
    have c9:=hrr.cell 9 _ rfl
    have c10:=hrr.cell 10 _ rfl
    have d0:=hbb.cell 0 _ rfl
    have d1:=hbb.cell 1 _ rfl
    have d2:=hbb.cell 2 _ rfl
    have d3:=hbb.cell 3 _ rfl
    have d4:=hbb.cell 4 _ rfl
    have d5:=hbb.cell 5 _ rfl
    have d6:=hbb.cell 6 _ rfl
    have d7:=hbb.cell 7 _ rfl
    have d8:=hbb.cell 8 _ rfl
    have d9:=hbb.cell 9 _ rfl
    have d10:=hbb.cell 10 _ rfl
    have fd0:=hbb.free 0
    have fd1:=hbb.free 1
    have fd2:=hbb.free 2
    have fd3:=hbb.free 3
    have fd4:=hbb.free 4
    have fd5:=hbb.free 5
    have fd6:=hbb.free 6
    have fd7:=hbb.free 7
    have fd8:=hbb.free 8
    have fd9:=hbb.free 9
    have fd10:=hbb.free 10
    clear hrr hbb
    go_wp2_with (fail)
    go_light
    refine bodyPost_ret (v:=resA 0 p n.data (.slice none 0 0) n) (by simp [results,Tryz.results111,go_sem,resA,d0,d1,d2,d3,d4,d5,d6,d7,d8,d9,d10]) rfl ?_
    rw [HE.out]
    have k11:=fun W=>kp_set11 W (w.heap.size+1) (.int .i64 0) (.string p) (.string n.data) (.slice none 0 0) (.int .i64 n.made) (.int .i64 n.chg) (.int .i64 n.ver) (.int .i64 n.kids) (.int .i64 n.own) (.int .i64 n.len) (.int .i64 n.cnt)
    exact ⟨t, .slice none 0 0,rfl,own_nil _,HTS.out.aside HBS.out (by decide) (by decide) (by decide) (k11 wS),rfl,(Ext.kp HXS.out).next (k11 wS) (fun i hi e=>by omega),Fresh.refl _ _⟩
   ·have e5:(k == 5)=false:=by simpa using k5
    by_cases k7:k=7
    ·subst k7
     have HE:Hid (R=(pl t,⟨0,p,⟨#[]⟩,n.names,n⟩)):=HE.out.trans (by simp)
     have HCL:=Lib.hid (cloneS_any (.slice na n.names.length nc) n.names wR (names_own HNR.out) (by have:=HNO.out.few;omega))
     have hr:=HR.out
     unfold rsQ at hr
     unfold ndA at hnbR
     have a0:=haR.cell 0 _ rfl
     have a1:=haR.cell 1 _ rfl
     have a2:=haR.cell 2 _ rfl
     have a3:=haR.cell 3 _ rfl
     have a4:=haR.cell 4 _ rfl
     have j0:=hnbR.cell 0 _ rfl
     have j1:=hnbR.cell 1 _ rfl
     have j2:=hnbR.cell 2 _ rfl
     have j3:=hnbR.cell 3 _ rfl
     have j4:=hnbR.cell 4 _ rfl
     have j5:=hnbR.cell 5 _ rfl
     have j6:=hnbR.cell 6 _ rfl
     have j7:=hnbR.cell 7 _ rfl
     have j8:=hnbR.cell 8 _ rfl
     have j9:=hnbR.cell 9 _ rfl
     have c0:=hr.cell 0 _ rfl
     have c1:=hr.cell 1 _ rfl
     have c2:=hr.cell 2 _ rfl
     have c3:=hr.cell 3 _ rfl
     have c4:=hr.cell 4 _ rfl
     have c5:=hr.cell 5 _ rfl
     have c6:=hr.cell 6 _ rfl
     have c7:=hr.cell 7 _ rfl
     have c8:=hr.cell 8 _ rfl
     have c9:=hr.cell 9 _ rfl
     have c10:=hr.cell 10 _ rfl
     have fc0:=hr.free 0
     have fc1:=hr.free 1
     have fc2:=hr.free 2
     have fc3:=hr.free 3
     have fc4:=hr.free 4
     have fc5:=hr.free 5
     have fc6:=hr.free 6
     have fc7:=hr.free 7
     have fc8:=hr.free 8
     have fc9:=hr.free 9
     have fc10:=hr.free 10
     clear haR hnbR hr k5 e5
     go_upto_region 5 with (fail)
     rw [HWR.out]
     clear z0 z1 z2 z3 z4 z5 z6 z7 z8 z9 z10 fz0 fz1 fz2 fz3 fz4 fz5 fz6 fz7 fz8 fz9 fz10
     go_wp2_with (fail)
     refine HCL.out.mono ?_
     rintro e1 w6 ⟨nv6,rfl,ho6,hx6⟩
     obtain ⟨na6,nc6,rfl⟩:=owns_slice ho6
     have hr:=HR.out.kp hx6 (fun f=>f)
     obtain ⟨wS,hWS⟩:∃ wS,w6.setCell ⟨r6,3,none⟩ (.slice na6 n.names.length nc6)=wS:=⟨_,rfl⟩
     have hkS:Kp (fun i=>i=r6) w6 wS:=by rw [← hWS];exact (Kp.refl (fun i=>i=r6) w6).set1 _ 3 _ rfl
     have HRS:Hid (Blk wS r6 #[.int .i64 0, .string p, .string ⟨#[]⟩, .slice na6 n.names.length nc6, .int .i64 n.made, .int .i64 n.chg, .int .i64 n.ver, .int .i64 n.kids, .int .i64 n.own, .int .i64 n.len, .int .i64 n.cnt] rsuT):=by show Blk _ _ _ _;rw [← hWS];exact hr.set 3 _
     have HBS:=Lib.hid ((HBR.out.kp hx6 (fun f=>f)).kp hkS (by have:=HSR.out;omega))
     have HTS:=Lib.hid ((HTR.out.ext hx6).aside hr (by decide) (by decide) (by decide) hkS)
     have HXS:Hid (Ext w wS):=(HXW.out.ext hx6).next hkS (fun i hi e=>by have:=HSR.out;omega)
     have HOS:=Lib.hid (owns_zero (ownsRow.kp ho6 hkS (fun i hi e=>by have:=(own_in ho6 hi).1;have:=HR.out.lt;omega)))
     have HWS:=Lib.hid hWS
     unfold rsQ at hr
     clear a0 a1 a2 a3 a4 j0 j1 j2 j3 j4 j5 j6 j7 j8 j9 c0 c1 c2 c3 c4 c5 c6 c7 c8 c9 c10 fc0 fc1 fc2 fc3 fc4 fc5 fc6 fc7 fc8 fc9 fc10
     have c0:=hr.cell 0 _ rfl
     have c1:=hr.cell 1 _ rfl
     have c2:=hr.cell 2 _ rfl
     have c3:=hr.cell 3 _ rfl
     have c4:=hr.cell 4 _ rfl
     have c5:=hr.cell 5 _ rfl
     have c6:=hr.cell 6 _ rfl
     have c7:=hr.cell 7 _ rfl
     have c8:=hr.cell 8 _ rfl
     have c9:=hr.cell 9 _ rfl
     have c10:=hr.cell 10 _ rfl
     have fc0:=hr.free 0
     have fc1:=hr.free 1
     have fc2:=hr.free 2
     have fc3:=hr.free 3
     have fc4:=hr.free 4
     have fc5:=hr.free 5
     have fc6:=hr.free 6
     have fc7:=hr.free 7
     have fc8:=hr.free 8
     have fc9:=hr.free 9
     have fc10:=hr.free 10
     clear hr hWS hkS hx6 ho6 HCL
     go_upto_region 10 with (fail)
     rw [HWS.out]
     clear c0 c1 c2 c3 c4 c5 c6 c7 c8 c9 c10 fc0 fc1 fc2 fc3 fc4 fc5 fc6 fc7 fc8 fc9 fc10
     have hrr:=HRS.out
     have hbb:=HBS.out
     unfold rsZ at hbb
     have c0:=hrr.cell 0 _ rfl
     have c1:=hrr.cell 1 _ rfl
     have c2:=hrr.cell 2 _ rfl
     have c3:=hrr.cell 3 _ rfl
     have c4:=hrr.cell 4 _ rfl
     have c5:=hrr.cell 5 _ rfl
     have c6:=hrr.cell 6 _ rfl
     have c7:=hrr.cell 7 _ rfl
     have c8:=hrr.cell 8 _ rfl
     have c9:=hrr.cell 9 _ rfl
     have c10:=hrr.cell 10 _ rfl
     have d0:=hbb.cell 0 _ rfl
     have d1:=hbb.cell 1 _ rfl
     have d2:=hbb.cell 2 _ rfl
     have d3:=hbb.cell 3 _ rfl
     have d4:=hbb.cell 4 _ rfl
     have d5:=hbb.cell 5 _ rfl
     have d6:=hbb.cell 6 _ rfl
     have d7:=hbb.cell 7 _ rfl
     have d8:=hbb.cell 8 _ rfl
     have d9:=hbb.cell 9 _ rfl
     have d10:=hbb.cell 10 _ rfl
     have fd0:=hbb.free 0
     have fd1:=hbb.free 1
     have fd2:=hbb.free 2
     have fd3:=hbb.free 3
     have fd4:=hbb.free 4
     have fd5:=hbb.free 5
     have fd6:=hbb.free 6
     have fd7:=hbb.free 7
     have fd8:=hbb.free 8
     have fd9:=hbb.free 9
     have fd10:=hbb.free 10
     clear hrr hbb
     go_wp2_with (fail)
     go_light
     refine bodyPost_ret (v:=resA 0 p ⟨#[]⟩ (.slice na6 n.names.length nc6) n) (by simp [results,Tryz.results111,go_sem,resA,d0,d1,d2,d3,d4,d5,d6,d7,d8,d9,d10]) rfl ?_
     rw [HE.out]
     have k11:=fun W=>kp_set11 W (w.heap.size+1) (.int .i64 0) (.string p) (.string ⟨#[]⟩) (.slice na6 n.names.length nc6) (.int .i64 n.made) (.int .i64 n.chg) (.int .i64 n.ver) (.int .i64 n.kids) (.int .i64 n.own) (.int .i64 n.len) (.int .i64 n.cnt)
     exact ⟨t,_,rfl,own_aside HOS.out HBS.out (by decide) (k11 wS),HTS.out.aside HBS.out (by decide) (by decide) (by decide) (k11 wS),rfl,(Ext.kp HXS.out).next (k11 wS) (fun i hi e=>by omega),Fresh.refl _ _⟩
    ·have HE:Hid (R=(pl t,⟨0,p,⟨#[]⟩,[],n⟩)):=HE.out.trans (by simp [k5,k7])
     have e7:(k == 7)=false:=by simpa using k7
     have hr:=HR.out
     unfold rsQ at hr
     have a0:=haR.cell 0 _ rfl
     have a1:=haR.cell 1 _ rfl
     have a2:=haR.cell 2 _ rfl
     have a3:=haR.cell 3 _ rfl
     have a4:=haR.cell 4 _ rfl
     have c0:=hr.cell 0 _ rfl
     have c1:=hr.cell 1 _ rfl
     have c2:=hr.cell 2 _ rfl
     have c3:=hr.cell 3 _ rfl
     have c4:=hr.cell 4 _ rfl
     have c5:=hr.cell 5 _ rfl
     have c6:=hr.cell 6 _ rfl
     have c7:=hr.cell 7 _ rfl
     have c8:=hr.cell 8 _ rfl
     have c9:=hr.cell 9 _ rfl
     have c10:=hr.cell 10 _ rfl
     have fc0:=hr.free 0
     have fc1:=hr.free 1
     have fc2:=hr.free 2
     have fc3:=hr.free 3
     have fc4:=hr.free 4
     have fc5:=hr.free 5
     have fc6:=hr.free 6
     have fc7:=hr.free 7
     have fc8:=hr.free 8
     have fc9:=hr.free 9
     have fc10:=hr.free 10
     clear haR hnbR hr k5 k7
     go_upto_region 5 with (fail)
     rw [HWR.out]
     clear z0 z1 z2 z3 z4 z5 z6 z7 z8 z9 z10 fz0 fz1 fz2 fz3 fz4 fz5 fz6 fz7 fz8 fz9 fz10
     have hbb:=HBR.out
     unfold rsZ at hbb
     have d0:=hbb.cell 0 _ rfl
     have d1:=hbb.cell 1 _ rfl
     have d2:=hbb.cell 2 _ rfl
     have d3:=hbb.cell 3 _ rfl
     have d4:=hbb.cell 4 _ rfl
     have d5:=hbb.cell 5 _ rfl
     have d6:=hbb.cell 6 _ rfl
     have d7:=hbb.cell 7 _ rfl
     have d8:=hbb.cell 8 _ rfl
     have d9:=hbb.cell 9 _ rfl
     have d10:=hbb.cell 10 _ rfl
     have fd0:=hbb.free 0
     have fd1:=hbb.free 1
     have fd2:=hbb.free 2
     have fd3:=hbb.free 3
     have fd4:=hbb.free 4
     have fd5:=hbb.free 5
     have fd6:=hbb.free 6
     have fd7:=hbb.free 7
     have fd8:=hbb.free 8
     have fd9:=hbb.free 9
     have fd10:=hbb.free 10
     clear hbb
     go_wp2_with (fail)
     go_light
     refine bodyPost_ret (v:=resA 0 p ⟨#[]⟩ (.slice none 0 0) n) (by simp [results,Tryz.results111,go_sem,resA,d0,d1,d2,d3,d4,d5,d6,d7,d8,d9,d10]) rfl ?_
     rw [HE.out]
     have k11:=fun W=>kp_set11 W (w.heap.size+1) (.int .i64 0) (.string p) (.string ⟨#[]⟩) (.slice none 0 0) (.int .i64 n.made) (.int .i64 n.chg) (.int .i64 n.ver) (.int .i64 n.kids) (.int .i64 n.own) (.int .i64 n.len) (.int .i64 n.cnt)
     exact ⟨t, .slice none 0 0,rfl,own_nil _,HTR.out.aside HBR.out (by decide) (by decide) (by decide) (k11 wR),rfl,(Ext.kp HXW.out).next (k11 wR) (fun i hi e=>by omega),Fresh.refl _ _⟩
end Go.Proofs.YtnlefnhdhigecaaGreatDoor

namespace Go.Proofs.YtnlefnhdhigecaaGreatDoor
set_option maxRecDepth 100000
open Go.RowKit Av
theorem place_small (room:Int) (t:Tr) (p:ByteArray) (f:Int) (hp:p.size≤1000000):(placeT room t p f).1.size≤1000000:=by
 have hz:∀ q:ByteArray,q.size≤1000000→(finP room t q).1.size≤1000000:=by
  intro q hq
  unfold finP
  split
  ·decide
  ·split
   ·decide
   ·exact hq
 unfold placeT
 split
 ·exact hz p hp
 ·split
  ·decide
  ·split
   ·decide
   ·split
    ·split
     ·decide
     ·rename_i q hq
      refine hz _ ?_
      unfold numberL at hq
      split at hq
      ·rename_i hg
       simp only [Option.some.injEq] at hq
       simp only [Bool.and_eq_true] at hg
       have:=path_small ⟨q.toArray⟩ (by simpa [← hq] using hg.2)
       omega
      ·cases hq
    ·exact hz p hp
theorem new_ok (z o:Int) (d:ByteArray):NodeOk (ndNew z o d):=⟨.nil,by simp [ndNew],by simp [ndNew],by simp [ndNew],by simp [ndNew]⟩
theorem statNew_ex (z o:Int) (d:ByteArray) (w:World):Calls Tryz.prog 152 #[.int .i64 z, .int .i64 o, .string d] w fun e w'=>∃ n,n=ndNew z o d∧e=.returned (.agg (ndA n (.slice none 0 0)))∧Ext w w':=by
 refine (statNew_any z o d w).mono ?_
 rintro e w' ⟨rfl,hx⟩
 exact ⟨_,rfl,rfl,hx⟩
set_option maxHeartbeats 6400000 in
theorem create_any (base b m:Nat) (room:Int) (t:Tr) (k:Int) (p d:ByteArray) (v f sess z:Int) (only:Bool) (w0 w:World) (hT:TreeR w base b m room t) (hok:TrOk t) (hG0:GT w0) (hb0:w0.heap.size≤base) (hE:Ext w0 w) (hp:p.size≤1000000) (hf0:0≤f) (hf3:f≤3) :
  Calls Tryz.prog 109 #[.pointer (some ⟨b,0,none⟩), .agg #[.int .i64 k, .string p, .string d, .int .i64 v, .int .i64 f], .int .i64 sess, .int .i64 z, .bool only] w fun e w'=>DoPost w base b m room t (createP room (pl t) ⟨k,p,d,v,f⟩ sess z only) e w':=by
 obtain ⟨wA,hWA⟩:∃ wA,w.alloc (.cells #[.int .i64 k, .string p, .string d, .int .i64 v, .int .i64 f] 33)=wA:=⟨_,rfl⟩
 have hxA:Ext w wA:=by rw [← hWA];exact (Kp.refl _ _).alloc _
 have hA:Blk wA w.heap.size #[.int .i64 k, .string p, .string d, .int .i64 v, .int .i64 f] 33:=by rw [← hWA];exact heap_alloc_new w _
 obtain ⟨wB,hWB⟩:∃ wB,wA.alloc (.cells rsZ rsuT)=wB:=⟨_,rfl⟩
 have hxB:Ext wA wB:=by rw [← hWB];exact (Kp.refl _ _).alloc _
 have hsA:wA.heap.size=w.heap.size+1:=by rw [← hWA];exact World.size_alloc _ _
 have hB:Blk wB (w.heap.size+1) rsZ rsuT:=by rw [← hWB,← hsA];exact heap_alloc_new wA _
 have HAB:=Lib.hid (hA.kp hxB (fun f=>f))
 have HB:=Lib.hid hB
 have HXB:=Lib.hid (hxA.ext hxB)
 have HTB:=Lib.hid (hT.ext (hxA.ext hxB))
 have HPL:=Lib.hid (fun W (hx:Ext wB W)=>place_any base b m room t k p d v f W ((hT.ext (hxA.ext hxB)).ext hx) (((hG0.ext hE).ext (hxA.ext hxB)).ext hx) hp hf0 hf3)
 have HWA:=Lib.hid hWA
 unfold rsZ at hWB
 have HWB:=Lib.hid hWB
 clear hWA hxA hA hWB hxB hB hsA
 obtain ⟨⟨q,e⟩,hR⟩:∃ R,placeT room t p f=R:=⟨_,rfl⟩
 have hqs:=place_small room t p f hp
 rw [hR] at HPL hqs
 have hC:Hid (createP room (pl t) ⟨k,p,d,v,f⟩ sess z only=(if e≠0 then (pl t,failR e) else (if only then pl t else tellP ndAdd (mset (pl t) q (ndNew z (ownF f sess) d)) q,⟨0,q,⟨#[]⟩,[],ndNew z (ownF f sess) d⟩))):=by
  show _=_
  unfold createP
  simp only [← pl_place,hR]
 generalize createP room (pl t) ⟨k,p,d,v,f⟩ sess z only=R at hC ⊢
 have HR:=Lib.hid hR
 have HFR:Hid (∀ i,nodeFr m t i→i<w.heap.size):=by
  rintro i (rfl|⟨e,he,rfl⟩)
  ·exact hT.map.lt
  ·exact (hT.nod e he).lt
 have HOK:=Lib.hid hok
 have HX:=Lib.hid (And.intro hb0 (And.intro hE hG0))
 have HQS:=Lib.hid hqs
 clear hR hok hb0 hE hG0 hp hT hqs
 go_enter Tryz.func109,Tryz.ntmps109
 go_upto_region 1 with (fail)
 rw [HWA.out]
 rw [HWB.out]
 have hab:=HAB.out
 have a0:=hab.cell 0 _ rfl
 have a1:=hab.cell 1 _ rfl
 have a2:=hab.cell 2 _ rfl
 have a3:=hab.cell 3 _ rfl
 have a4:=hab.cell 4 _ rfl
 clear hab
 go_wp2_with (fail)
 refine (HPL.out _ (Kp.refl _ _)).mono ?_
 rintro e1 w2 ⟨rfl,hx2⟩
 have HX2:=Lib.hid hx2
 by_cases he:e=0
 ·subst he
  have HE:=Lib.hid (hC.out.trans (if_neg (by simp)))
  have HT2:=Lib.hid (HTB.out.ext hx2)
  have hfc:f=0∨f=1∨f=2∨f=3:=by omega
  have ha2:=HAB.out.kp hx2 (fun f=>f)
  have i0:=ha2.cell 0 _ rfl
  have i1:=ha2.cell 1 _ rfl
  have i2:=ha2.cell 2 _ rfl
  have i3:=ha2.cell 3 _ rfl
  have i4:=ha2.cell 4 _ rfl
  clear hx2 ha2 HPL hC hf0 hf3
  rcases hfc with rfl|rfl|rfl|rfl
  all_goals
   first
    | rw [show ownF 1 sess=sess from rfl] at HE
    | rw [show ownF 3 sess=sess from rfl] at HE
    | rw [show ownF 0 sess=0 from rfl] at HE
    | rw [show ownF 2 sess=0 from rfl] at HE
   go_wp2_with (fail)
   refine (statNew_ex _ _ _ _).mono ?_
   rintro e1 w3 ⟨n,hn,rfl,hx3⟩
   rw [← hn] at HE
   obtain ⟨wN,hWN⟩:∃ wN,w3.alloc (.cells #[.int .i64 n.made, .int .i64 n.chg, .int .i64 n.ver, .int .i64 n.kids, .int .i64 n.own, .int .i64 n.len, .int .i64 n.cnt, .string n.data, .int .i64 n.next, .slice none 0 0] ndT)=wN:=⟨_,rfl⟩
   have hxN:Ext w3 wN:=by rw [← hWN];exact (Kp.refl _ _).alloc _
   have hN:Blk wN w3.heap.size (ndA n (.slice none 0 0)) ndT:=by rw [← hWN];exact heap_alloc_new w3 _
   have HN:=Lib.hid hN
   have HXN:=Lib.hid ((HX2.out.ext hx3).ext hxN)
   have HWN:=Lib.hid hWN
   have HND:=Lib.hid hn
   have HS3:Hid (w.heap.size+1<w3.heap.size):=by
    have h1:=HX2.out.size
    have h2:=hx3.size
    have h3:=HB.out.lt
    show _<_
    omega
   clear hWN hN hxN hx3 hn i0 i1 i2 i3 i4 a0 a1 a2 a3 a4
   unfold ndA
   go_upto_region 8 with (fail)
   rw [HWN.out]
   cases only
   ·have HTN:=Lib.hid (HTB.out.ext HXN.out)
    have HLY:=Lib.hid (treeLay_any base b m room t q n (.slice none 0 0) w0 wN HTN.out HOK.out (by rw [HND.out];exact new_ok _ _ _) (by rw [HND.out];exact own_nil _) HX.out.2.2.gl HX.out.1 ((HX.out.2.2.ext HX.out.2.1).gl.ext (HXB.out.ext HXN.out)) HQS.out)
    unfold ndA at HLY
    have hn:=HN.out
    unfold ndA at hn
    have j0:=hn.cell 0 _ rfl
    have j1:=hn.cell 1 _ rfl
    have j2:=hn.cell 2 _ rfl
    have j3:=hn.cell 3 _ rfl
    have j4:=hn.cell 4 _ rfl
    have j5:=hn.cell 5 _ rfl
    have j6:=hn.cell 6 _ rfl
    have j7:=hn.cell 7 _ rfl
    have j8:=hn.cell 8 _ rfl
    have j9:=hn.cell 9 _ rfl
    clear hn
    go_wp2_with (fail)
    refine HLY.out.mono ?_
    rintro e1 w4 ⟨⟨u,rfl⟩,g,hg,ht4,hk4⟩
    have hnot:∀ i,w.heap.size≤i→¬ nodeFr m t i:=fun i hi h=>by have:=HFR.out i h;omega
    have hn4:=HN.out.kp hk4 (hnot _ (by have:=HS3.out;omega))
    have hr4:=(HB.out.kp HXN.out (fun f=>f)).kp hk4 (hnot _ (by omega))
    have HR4:=Lib.hid hr4
    have HT4:=Lib.hid ht4
    have HK4:Hid (Kp (nodeFr m t) w w4):=(Ext.kp (HXB.out.ext HXN.out)).trans hk4
    unfold ndA at hn4
    unfold rsZ at hr4
    have y0:=hn4.cell 0 _ rfl
    have y1:=hn4.cell 1 _ rfl
    have y2:=hn4.cell 2 _ rfl
    have y3:=hn4.cell 3 _ rfl
    have y4:=hn4.cell 4 _ rfl
    have y5:=hn4.cell 5 _ rfl
    have y6:=hn4.cell 6 _ rfl
    have y7:=hn4.cell 7 _ rfl
    have y8:=hn4.cell 8 _ rfl
    have y9:=hn4.cell 9 _ rfl
    have c0:=hr4.cell 0 _ rfl
    have c1:=hr4.cell 1 _ rfl
    have c2:=hr4.cell 2 _ rfl
    have c3:=hr4.cell 3 _ rfl
    have c4:=hr4.cell 4 _ rfl
    have c5:=hr4.cell 5 _ rfl
    have c6:=hr4.cell 6 _ rfl
    have c7:=hr4.cell 7 _ rfl
    have c8:=hr4.cell 8 _ rfl
    have c9:=hr4.cell 9 _ rfl
    have c10:=hr4.cell 10 _ rfl
    have fc0:=hr4.free 0
    have fc1:=hr4.free 1
    have fc2:=hr4.free 2
    have fc3:=hr4.free 3
    have fc4:=hr4.free 4
    have fc5:=hr4.free 5
    have fc6:=hr4.free 6
    have fc7:=hr4.free 7
    have fc8:=hr4.free 8
    have fc9:=hr4.free 9
    have fc10:=hr4.free 10
    clear hn4 hr4 hk4 ht4 hnot j0 j1 j2 j3 j4 j5 j6 j7 j8 j9 HLY
    go_wp2_with (fail)
    go_light
    refine bodyPost_ret (v:=resA 0 q ⟨#[]⟩ (.slice none 0 0) n) (by simp [results,Tryz.results109,go_sem,resA,c0,c1,c2,c3,c4,c5,c6,c7,c8,c9,c10]) rfl ?_
    rw [HE.out]
    have k11:=kp_set11 w4 (w.heap.size+1) (.int .i64 0) (.string q) (.string ⟨#[]⟩) (.slice none 0 0) (.int .i64 n.made) (.int .i64 n.chg) (.int .i64 n.ver) (.int .i64 n.kids) (.int .i64 n.own) (.int .i64 n.len) (.int .i64 n.cnt)
    have HFG:w.heap.size≤g:=by have:=HXN.out.size;have:=HB.out.lt;omega
    exact ⟨_, .slice none 0 0,rfl,own_nil _,HT4.out.aside HR4.out (by decide) (by decide) (by decide) k11,by rw [pl_tell,pl_set];rfl,HK4.out.next k11 (fun i hi e=>by omega),((Fresh.refl _ _).set HFG _ _).tell _ _⟩
   ·have hn:=HN.out
    have hr4:=HB.out.kp HXN.out (fun f=>f)
    have HR4:=Lib.hid hr4
    unfold ndA at hn
    unfold rsZ at hr4
    have y0:=hn.cell 0 _ rfl
    have y1:=hn.cell 1 _ rfl
    have y2:=hn.cell 2 _ rfl
    have y3:=hn.cell 3 _ rfl
    have y4:=hn.cell 4 _ rfl
    have y5:=hn.cell 5 _ rfl
    have y6:=hn.cell 6 _ rfl
    have y7:=hn.cell 7 _ rfl
    have y8:=hn.cell 8 _ rfl
    have y9:=hn.cell 9 _ rfl
    have c0:=hr4.cell 0 _ rfl
    have c1:=hr4.cell 1 _ rfl
    have c2:=hr4.cell 2 _ rfl
    have c3:=hr4.cell 3 _ rfl
    have c4:=hr4.cell 4 _ rfl
    have c5:=hr4.cell 5 _ rfl
    have c6:=hr4.cell 6 _ rfl
    have c7:=hr4.cell 7 _ rfl
    have c8:=hr4.cell 8 _ rfl
    have c9:=hr4.cell 9 _ rfl
    have c10:=hr4.cell 10 _ rfl
    have fc0:=hr4.free 0
    have fc1:=hr4.free 1
    have fc2:=hr4.free 2
    have fc3:=hr4.free 3
    have fc4:=hr4.free 4
    have fc5:=hr4.free 5
    have fc6:=hr4.free 6
    have fc7:=hr4.free 7
    have fc8:=hr4.free 8
    have fc9:=hr4.free 9
    have fc10:=hr4.free 10
    clear hn hr4
    go_wp2_with (fail)
    go_light
    refine bodyPost_ret (v:=resA 0 q ⟨#[]⟩ (.slice none 0 0) n) (by simp [results,Tryz.results109,go_sem,resA,c0,c1,c2,c3,c4,c5,c6,c7,c8,c9,c10]) rfl ?_
    rw [HE.out]
    have k11:=kp_set11 wN (w.heap.size+1) (.int .i64 0) (.string q) (.string ⟨#[]⟩) (.slice none 0 0) (.int .i64 n.made) (.int .i64 n.chg) (.int .i64 n.ver) (.int .i64 n.kids) (.int .i64 n.own) (.int .i64 n.len) (.int .i64 n.cnt)
    exact ⟨t, .slice none 0 0,rfl,own_nil _,(HTB.out.ext HXN.out).aside HR4.out (by decide) (by decide) (by decide) k11,rfl,(Ext.kp (HXB.out.ext HXN.out)).next k11 (fun i hi e=>by omega),Fresh.refl _ _⟩
 ·have HE:=Lib.hid (hC.out.trans (if_pos he))
  clear hx2 HPL hC
  go_wp2_with (fail)
  refine (fail_any e _).mono ?_
  rintro e1 w3 ⟨rfl,hx3⟩
  have hB3:=(HB.out.kp HX2.out (fun f=>f)).kp hx3 (fun f=>f)
  have HT3:=Lib.hid ((HTB.out.ext HX2.out).ext hx3)
  have HB3:=Lib.hid hB3
  have HX3:=Lib.hid (((HXB.out.ext HX2.out).ext hx3))
  unfold rsZ at hB3
  have c0:=hB3.cell 0 _ rfl
  have c1:=hB3.cell 1 _ rfl
  have c2:=hB3.cell 2 _ rfl
  have c3:=hB3.cell 3 _ rfl
  have c4:=hB3.cell 4 _ rfl
  have c5:=hB3.cell 5 _ rfl
  have c6:=hB3.cell 6 _ rfl
  have c7:=hB3.cell 7 _ rfl
  have c8:=hB3.cell 8 _ rfl
  have c9:=hB3.cell 9 _ rfl
  have c10:=hB3.cell 10 _ rfl
  have fc0:=hB3.free 0
  have fc1:=hB3.free 1
  have fc2:=hB3.free 2
  have fc3:=hB3.free 3
  have fc4:=hB3.free 4
  have fc5:=hB3.free 5
  have fc6:=hB3.free 6
  have fc7:=hB3.free 7
  have fc8:=hB3.free 8
  have fc9:=hB3.free 9
  have fc10:=hB3.free 10
  clear hB3 hx3
  unfold resA
  go_wp2_with (fail)
  go_light
  refine bodyPost_ret (v:=resA e ⟨#[]⟩ ⟨#[]⟩ (.slice none 0 0) ndZ) (by simp [results,Tryz.results109,go_sem,resA,ndZ,c0,c1,c2,c3,c4,c5,c6,c7,c8,c9,c10]) rfl ?_
  rw [HE.out]
  have k11:=kp_set11 w3 (w.heap.size+1) (.int .i64 e) (.string ⟨#[]⟩) (.string ⟨#[]⟩) (.slice none 0 0) (.int .i64 0) (.int .i64 0) (.int .i64 0) (.int .i64 0) (.int .i64 0) (.int .i64 0) (.int .i64 0)
  exact ⟨t, .slice none 0 0,rfl,own_nil _,HT3.out.aside HB3.out (by decide) (by decide) (by decide) k11,rfl,(Ext.kp HX3.out).next k11 (fun i hi e=>by omega),Fresh.refl _ _⟩
end Go.Proofs.YtnlefnhdhigecaaGreatDoor

namespace Go.Proofs.YtnlefnhdhigecaaGreatDoor
set_option maxRecDepth 100000
open Go.RowKit Av
end Go.Proofs.YtnlefnhdhigecaaGreatDoor

namespace Go.Proofs.YtnlefnhdhigecaaGreatDoor
set_option maxRecDepth 100000
open Go.RowKit Av
theorem ext_cells {w w':World} (h:Ext w w'):∀ b o,b<w.heap.size→w'.cell? ⟨b,o,none⟩=w.cell? ⟨b,o,none⟩:=fun b _ hb=>
 World.cell?_of_block (w:=w) (h.block b hb (fun f=>f))
end Go.Proofs.YtnlefnhdhigecaaGreatDoor

namespace Go.Proofs.YtnlefnhdhigecaaGreatDoor
set_option maxRecDepth 100000
open Go.RowKit Av
set_option maxHeartbeats 400000 in
theorem versioned_any (k:Int) (w:World):Calls Tryz.prog 195 #[.int .i64 k] w fun e w'=>e=.returned (.bool (versionedB k))∧w=w':=by
 go_enter Tryz.func195,Tryz.ntmps195
 go_wp2_with (fail)
 all_goals
  go_ret
  go_light
  refine ⟨ret_bool ?_,rfl⟩
  rw [Bool.eq_iff_iff]
  simp [versionedB, *]
set_option maxHeartbeats 400000 in
theorem reads_any (k:Int) (w:World):Calls Tryz.prog 129 #[.int .i64 k] w fun e w'=>e=.returned (.bool (readsB k))∧w=w':=by
 go_enter Tryz.func129,Tryz.ntmps129
 go_wp2_with (fail)
 all_goals
  go_ret
  go_light
  refine ⟨ret_bool ?_,rfl⟩
  rw [Bool.eq_iff_iff]
  simp [readsB, *]
set_option maxHeartbeats 800000 in
theorem formed_any (o:OpV) (w:World) (hG:GL w) (hp:o.path.size≤maxLen) :
  Calls Tryz.prog 148 #[o.val] w fun e w'=>e=.returned (.bool (formedB o))∧Ext w w':=by
 obtain ⟨k,p,d,v,f⟩:=o
 unfold OpV.val
 have HG:=Lib.hid (fun W (k:Ext w W)=>Good_any p W (hG.ext k) hp)
 have HF:Hid (∀ g,goodL p.data.toList=g→formedB ⟨k,p,d,v,f⟩=(decide (1≤k)&&(decide (k≤7)&&(g&&(decide (-1≤v)&&(decide (0≤f)&&decide (f≤3))))))):=by
  show ∀ g,_→_
  rintro g rfl
  rfl
 simp only
 go_enter Tryz.func148,Tryz.ntmps148
 go_wp2_with (go_at_call 67;refine (HG.out _ ((Kp.refl _ _).alloc _)).mono ?_;rintro e w1 ⟨rfl,hx⟩;have hxc:=ext_cells hx)
 all_goals
  go_ret
  go_light
  refine ⟨ret_bool ?_, ?_⟩
  ·rw [HF.out _ rfl,Bool.eq_iff_iff]
   simp [*]
   try (intros;omega)
  ·first|exact ((Kp.refl _ _).alloc _).ext hx|exact (Kp.refl _ _).alloc _
set_option maxHeartbeats 1600000 in
theorem own_any (o:OpV) (w:World) (hd:o.data.size≤maxLen) :
  Calls Tryz.prog 149 #[o.val] w fun e w'=>e=.returned (.bool (ownB o))∧Ext w w':=by
 obtain ⟨k,p,d,v,f⟩:=o
 unfold OpV.val
 have hv:=versioned_any k
 have HV:=Lib.hid hv
 have hsz:decide (d.size=0)=(d.toList == []):=by
  rw [Lib.size_eq,Lib.toList_data,Bool.eq_iff_iff,decide_eq_true_eq,beq_iff_eq,List.length_eq_zero_iff]
 have HF:Hid (ownB ⟨k,p,d,v,f⟩=(((d.toList == [])||(decide (k=1)||decide (k=3)))&&((decide (v=0)||versionedB k)&&(decide (f=0)||decide (k=1))))):=by
  show _=_
  unfold ownB
  simp only [hsz]
 simp only at hd ⊢
 clear hv hsz
 go_enter Tryz.func149,Tryz.ntmps149
 go_upto_region 1 with (fail)
 go_cut [0,3] (fun s0 s wx=>s0=.agg #[.int .i64 k, .string p, .string d, .int .i64 v, .int .i64 f]∧s=.bool ((d.toList == [])||(decide (k=1)||decide (k=3)))∧wx=w.alloc (.cells #[.int .i64 k, .string p, .string d, .int .i64 v, .int .i64 f] 33))
 case first=>
  go_wp2_with (fail)
  all_goals
   go_meet
   go_light
   refine ⟨by simp [*],congrArg Value.bool ?_,by simp [*]⟩
   rw [Bool.eq_iff_iff]
   simp [*]
 case rest=>
  obtain ⟨rfl,rfl,rfl⟩:=hcut
  obtain ⟨b,hb⟩:∃ b,((d.toList == [])||(decide (k=1)||decide (k=3)))=b:=⟨_,rfl⟩
  rw [hb] at HF ⊢
  clear hb
  go_wp2_with (go_at_call 195;refine (HV.out _).mono ?_;rintro e w1 ⟨rfl,rfl⟩)
  all_goals
   go_ret
   go_light
   refine ⟨ret_bool ?_,(Kp.refl _ _).alloc _⟩
   rw [HF.out,Bool.eq_iff_iff]
   simp [*]
end Go.Proofs.YtnlefnhdhigecaaGreatDoor

