/- Texts put together: AvWTreeB, AvWTreeC, AvWTreeD. -/
import Derived.Test.YtnlefnhdhigecaaGreatDoorAvG6
namespace Go.Proofs.YtnlefnhdhigecaaGreatDoor
set_option maxRecDepth 100000
open Go.RowKit Av
structure NodeOk (n:NodeV):Prop where
 rise:Rising n.names
 few:n.names.length≤100000
 ver : -9223372036854775808≤n.ver
 kids : -9223372036854775808≤n.kids
 next : -9223372036854775808≤n.next
def TrOk (t:Tr):Prop:=∀ e∈t,NodeOk e.2.2
def tellUp (f:NodeV→Bs→NodeV) (t:Tr) (p:ByteArray):Tr:=match parentL p.data.toList with
 | none=>t
 | some up=>match mget t ⟨up.toArray⟩ with
   | none=>t
   | some (g,n)=>mset t ⟨up.toArray⟩ (g,f n (lastL p.data.toList))
def nodeFr (m:Nat) (t:Tr) (i:Nat):Prop:=i=m∨∃ e∈t,i=e.2.1
theorem zPtr (w:World):(zeroValue 127).run Tryz.prog w=.ok (.pointer none) w:=by kernel_rfl
theorem tree_look {w:World} {base b m:Nat} {room:Int} {t:Tr} (h:TreeR w base b m room t) (p:ByteArray):(Instr.lookup 113 (.map (some m)) (.string p) false).run Tryz.prog w=.ok (((mget t p).map fun e=>Value.pointer (some ⟨e.1,0,none⟩)).getD (.pointer none)) w:=by
 have:=MapK.lookup kStr tNodes h.map (.pointer none) zPtr p false
 rw [mget_ptrs] at this
 exact this
theorem gl_keep {w0 w w':World} {base b m:Nat} {room:Int} {t:Tr} (hG:GL w0) (hb:w0.heap.size≤base) (hT:TreeR w base b m room t) (hw:GL w) (k:Kp (nodeFr m t) w w'):GL w':=by
 obtain ⟨x,hx⟩:=hG
 have hlt:=World.block_lt_of_cell? w0 _ hx
 refine hw.kp k (fun hs=>?_)
 rcases hs with hs|⟨e,he,hs⟩
 ·have:=hT.low.2.1
  simp only at hlt
  omega
 ·have:=hT.low.2.2 e he
  simp only at hlt
  omega
def LayPost (w:World) (base b m:Nat) (room:Int) (t:Tr) (p:ByteArray) (n:NodeV) (e:Ending) (w':World):Prop:=
 (∃ u,e=.returned u)∧∃ g,w.heap.size≤g∧TreeR w' base b m room (tellUp ndAdd (mset t p (g,n)) p)∧Kp (nodeFr m t) w w'
theorem mset_ok {t:Tr} (h:TrOk t) (hk:(t.map (·.1)).Nodup) {p:ByteArray} {g:Nat} {n:NodeV} (hn:NodeOk n):TrOk (mset t p (g,n)):=by
 intro e he
 rcases mem_mset hk he with rfl|⟨he,_⟩
 ·exact hn
 ·exact h e he
set_option maxHeartbeats 3200000 in
theorem treeLay_any (base b m:Nat) (room:Int) (t:Tr) (p:ByteArray) (n:NodeV) (nv:Value) (w0 w:World) (hT:TreeR w base b m room t) (hok:TrOk t) (hn:NodeOk n) (hown:w.ownsRow 0 strT 1 nv n.names.length (n.names.map encStr)) (hG0:GL w0) (hb0:w0.heap.size≤base) (hG:GL w) (hp:p.size≤1000000) :
  Calls Tryz.prog 153 #[.pointer (some ⟨b,0,none⟩), .string p, .agg (ndA n nv)] w fun e w'=>LayPost w base b m room t p n e w':=by
 obtain ⟨na,nc,rfl⟩:=owns_slice hown
 obtain ⟨wA,hWA⟩:∃ wA,w.alloc (.cells (ndA n (.slice na n.names.length nc)) ndT)=wA:=⟨_,rfl⟩
 have hxA:Ext w wA:=by rw [← hWA];exact (Kp.refl _ _).alloc _
 have hA:NdAt wA w.heap.size n:=⟨_,by rw [← hWA];exact heap_alloc_new w _,ownsRow.ext hown hxA⟩
 have hTA:=hT.ext hxA
 obtain ⟨wM,u1,u2,u3,u4⟩:=MapK.update kStr tNodes hTA.map p (.pointer (some ⟨w.heap.size,0,none⟩))
 have hbw:base≤w.heap.size:=by have:=hT.low.1;have:=hT.blk.lt;omega
 have hTM:=hTA.lay hbw hA (fun e he e2=>by have:=(hT.nod e he).lt;omega) u2 u3
 have hkM:Kp (nodeFr m t) w wM:=(Ext.kp hxA).trans (u3.mono (fun i _ e=>.inl e))
 have hGM:=gl_keep hG0 hb0 hT hG hkM
 have HTM:=Lib.hid hTM
 have HKM:=Lib.hid hkM
 have HOK:=Lib.hid (mset_ok (p:=p) (g:=w.heap.size) hok hT.keys hn)
 have c1:=hTA.blk.cell 1 _ rfl
 have HPA:=Lib.hid (Parent_any p wM hGM (by unfold maxLen;omega))
 have HNA:=Lib.hid (fun W (hx:Ext wM W)=>pathName_any p W (hGM.ext hx) (by unfold maxLen;omega))
 have HWA:=Lib.hid hWA
 have HU1:=Lib.hid u1
 generalize ht1:mset t p (w.heap.size,n)=t1 at HTM HOK
 have HT1:=Lib.hid ht1
 clear hT hok hn hown hG hG0 hb0 hp hWA hxA hA hTA u1 u2 u3 u4 hTM hkM hGM hbw ht1
 unfold ndA at HWA ⊢
 go_enter Tryz.func153,Tryz.ntmps153
 go_upto_region 1 with (fail)
 rw [HWA.out]
 have hu1:=HU1.out
 go_wp2_with (fail)
 refine HPA.out.mono ?_
 rintro e w2 ⟨rfl,hx2⟩
 have HT2:=Lib.hid (HTM.out.ext hx2)
 have HK2:=Lib.hid (HKM.out.ext hx2)
 have HX2:=Lib.hid hx2
 clear hx2 HPA hu1 c1
 cases hup:parentL p.data.toList with
 | none=>
   have HE:Hid (tellUp ndAdd t1 p=t1):=by show _=_;unfold tellUp;rw [hup]
   clear hup
   go_wp2_with (fail)
   go_light
   exact bodyPost_end (results_none (by rfl) _ _ _) rfl ⟨⟨_,rfl⟩,w.heap.size,Nat.le_refl _,by rw [HT1.out,HE.out];exact HT2.out,HK2.out⟩
 | some up=>
   have hlk:=tree_look HT2.out ⟨up.toArray⟩
   have c1:=HT2.out.blk.cell 1 _ rfl
   have hos:optS (some up)=⟨up.toArray⟩:=rfl
   rw [hos]
   cases hg:mget t1 ⟨up.toArray⟩ with
   | none=>
     have HE:Hid (tellUp ndAdd t1 p=t1):=by show _=_;unfold tellUp;simp only [hup,hg]
     rw [hg] at hlk
     simp only [Option.map_none,Option.getD_none] at hlk
     clear hup hg hos
     go_wp2_with (fail)
     go_light
     exact bodyPost_end (results_none (by rfl) _ _ _) rfl ⟨⟨_,rfl⟩,w.heap.size,Nat.le_refl _,by rw [HT1.out,HE.out];exact HT2.out,HK2.out⟩
   | some gn=>
     obtain ⟨g2,n2⟩:=gn
     have HE:Hid (tellUp ndAdd t1 p=mset t1 ⟨up.toArray⟩ (g2,ndAdd n2 (lastL p.data.toList))):=by show _=_;unfold tellUp;simp only [hup,hg]
     rw [hg] at hlk
     simp only [Option.map_some,Option.getD_some] at hlk
     have HGE:=Lib.hid hg
     have hmem:=mget_mem hg
     have HOK2:=Lib.hid (HOK.out _ hmem)
     have HND:=Lib.hid (HT2.out.nod _ hmem)
     have HLK:=Lib.hid (fun W (hx:Ext w2 W)=>by have:=tree_look (HT2.out.ext hx) ⟨up.toArray⟩;rw [hg] at this;exact this)
     have HC1:=Lib.hid c1
     have HIN:Hid (g2<w.heap.size→∃ e∈t,g2=e.2.1):=by
      intro hlt
      rw [← HT1.out] at hg
      rw [mget_mset] at hg
      by_cases hpu:(⟨up.toArray⟩:ByteArray)=p
      ·rw [if_pos hpu] at hg
       simp only [Option.some.injEq,Prod.mk.injEq] at hg
       omega
      ·rw [if_neg hpu] at hg
       exact ⟨_,mget_mem hg,rfl⟩
     clear hup hg hos hmem
     go_upto_region 4 with (fail)
     refine' wp_region_dagK 8 [] ((28, .val _)::(29, .val _)::(30, .val _)::(31, .val _)::(32, .val _)::(33, .val _)::(34, .val _)::(35, .val _)::[]) (by exact ⟨fun _ _ _ _ _=>trivial,⟨fun _ _ _ _ _=>trivial,⟨fun _ _ _ _ _=>trivial,⟨fun _ _ _ _ _=>trivial,⟨fun _ _ _ _ _=>trivial,⟨fun _ _ _ _ _=>trivial,⟨fun _ _ _ _ _=>trivial,⟨fun _ _ _ _ _=>trivial,trivial⟩⟩⟩⟩⟩⟩⟩⟩) (by kernel_rfl) (by kernel_rfl) (by kernel_rfl) ?_
     rotate_left 8
     simp only [List.take_succ_cons,List.take_zero]
     repeat (first
      | (refine wpD_skipv ?_ ?_ ?_
         focus rfl
         focus rfl
         simp only [Act.put,List.setIfInBounds_toArray,List.set_cons_succ,List.set_cons_zero])
      | (refine' wpD_val (c:=_) ?_ (fun w=>Kp.refl _ w) ?_ (fun wq hwq hfq=>?_) ?_
         rotate_left
         focus rfl
         focus rfl
         focus ((have hext:Ext w2 wq:=hwq.mono (fun i hi e=>by omega);have c1:=hext.cell HC1.out (fun f=>f);have hlk:=HLK.out wq hext);go_simp;first|done|rfl)
         simp only [Act.put,List.setIfInBounds_toArray,List.set_cons_succ,List.set_cons_zero])
      | (refine' wpD_con (c:=_) ?_ ?_ (fun wq hwq hfq=>?_) ?_
         rotate_left
         focus rfl
         focus rfl
         focus ((have hext:Ext w2 wq:=hwq.mono (fun i hi e=>by omega);have c1:=hext.cell HC1.out (fun f=>f);have hlk:=HLK.out wq hext);go_simp;(try (rw [dUpon_enter]));((with_reducible refine (HNA.out _ (HX2.out.ext hext)).mono ?_);rintro e w' ⟨rfl,hx⟩;exact DEnd.con hx))
         simp only [Act.put,List.setIfInBounds_toArray,List.set_cons_succ,List.set_cons_zero])
      | fail)
     refine wpD_nil ?_
     intro w5 hx5 hend
     clear hend
     have hx5':Ext w2 w5:=hx5.mono (fun i hi e=>by omega)
     have HT5:=Lib.hid (HT2.out.ext hx5')
     have HK5:=Lib.hid (HK2.out.ext hx5')
     have HADD:=Lib.hid (statAdd_any g2 n2 (lastL p.data.toList) w5 (HND.out.ext hx5') HOK2.out.rise HOK2.out.few HOK2.out.kids HOK2.out.next)
     clear hx5 hx5'
     go_wp2_with (fail)
     refine HADD.out.mono ?_
     rintro e w6 ⟨⟨u,rfl⟩,hnd6,hk6⟩
     have HT6:=Lib.hid (HT5.out.put HGE.out hnd6 hk6)
     have HK6:Hid (Kp (nodeFr m t) w w6):=HK5.out.next hk6 (fun i hi e=>by
      subst e
      exact .inr (HIN.out hi))
     clear hnd6 hk6
     go_wp2_with (fail)
     go_light
     exact bodyPost_end (results_none (by rfl) _ _ _) rfl ⟨⟨_,rfl⟩,w.heap.size,Nat.le_refl _,by rw [HT1.out,HE.out];exact HT6.out,HK6.out⟩
end Go.Proofs.YtnlefnhdhigecaaGreatDoor

namespace Go.Proofs.YtnlefnhdhigecaaGreatDoor
set_option maxRecDepth 100000
open Go.RowKit Av
def RemPost (w:World) (base b m:Nat) (room:Int) (t:Tr) (p:ByteArray) (e:Ending) (w':World):Prop:=
 (∃ u,e=.returned u)∧TreeR w' base b m room (tellUp ndRem (mdel t p) p)∧Kp (nodeFr m t) w w'
set_option maxHeartbeats 3200000 in
theorem treeRemove_any (base b m:Nat) (room:Int) (t:Tr) (p:ByteArray) (w0 w:World) (hT:TreeR w base b m room t) (hok:TrOk t) (hG0:GL w0) (hb0:w0.heap.size≤base) (hG:GL w) (hp:p.size≤1000000) :
  Calls Tryz.prog 155 #[.pointer (some ⟨b,0,none⟩), .string p] w fun e w'=>RemPost w base b m room t p e w':=by
 obtain ⟨wM,u1,u2,u3,u4⟩:=MapK.delete kStr tNodes hT.map p
 have hTM:=hT.del u2 u3
 have hkM:Kp (nodeFr m t) w wM:=u3.mono (fun i _ e=>.inl e)
 have hGM:=gl_keep hG0 hb0 hT hG hkM
 have HTM:=Lib.hid hTM
 have HKM:=Lib.hid hkM
 have HOK:Hid (TrOk (mdel t p)):=fun e he=>hok e (List.mem_filter.1 he).1
 have c1:=hT.blk.cell 1 _ rfl
 have HPA:=Lib.hid (Parent_any p wM hGM (by unfold maxLen;omega))
 have HNA:=Lib.hid (fun W (hx:Ext wM W)=>pathName_any p W (hGM.ext hx) (by unfold maxLen;omega))
 have HU1:=Lib.hid u1
 generalize ht1:mdel t p=t1 at HTM HOK
 have HT1:=Lib.hid ht1
 clear hT hok hG hG0 hb0 hp u1 u2 u3 u4 hTM hkM hGM ht1
 go_enter Tryz.func155,Tryz.ntmps155
 have hu1:=HU1.out
 go_wp2_with (fail)
 refine HPA.out.mono ?_
 rintro e w2 ⟨rfl,hx2⟩
 have HT2:=Lib.hid (HTM.out.ext hx2)
 have HK2:=Lib.hid (HKM.out.ext hx2)
 have HX2:=Lib.hid hx2
 clear hx2 HPA hu1 c1
 cases hup:parentL p.data.toList with
 | none=>
   have HE:Hid (tellUp ndRem t1 p=t1):=by show _=_;unfold tellUp;rw [hup]
   clear hup
   go_wp2_with (fail)
   go_light
   exact bodyPost_end (results_none (by rfl) _ _ _) rfl ⟨⟨_,rfl⟩,by rw [HT1.out,HE.out];exact HT2.out,HK2.out⟩
 | some up=>
   have hlk:=tree_look HT2.out ⟨up.toArray⟩
   have c1:=HT2.out.blk.cell 1 _ rfl
   have hos:optS (some up)=⟨up.toArray⟩:=rfl
   rw [hos]
   cases hg:mget t1 ⟨up.toArray⟩ with
   | none=>
     have HE:Hid (tellUp ndRem t1 p=t1):=by show _=_;unfold tellUp;simp only [hup,hg]
     rw [hg] at hlk
     simp only [Option.map_none,Option.getD_none] at hlk
     clear hup hg hos
     go_wp2_with (fail)
     go_light
     exact bodyPost_end (results_none (by rfl) _ _ _) rfl ⟨⟨_,rfl⟩,by rw [HT1.out,HE.out];exact HT2.out,HK2.out⟩
   | some gn=>
     obtain ⟨g2,n2⟩:=gn
     have HE:Hid (tellUp ndRem t1 p=mset t1 ⟨up.toArray⟩ (g2,ndRem n2 (lastL p.data.toList))):=by show _=_;unfold tellUp;simp only [hup,hg]
     rw [hg] at hlk
     simp only [Option.map_some,Option.getD_some] at hlk
     have HGE:=Lib.hid hg
     have hmem:=mget_mem hg
     have HOK2:=Lib.hid (HOK.out _ hmem)
     have HND:=Lib.hid (HT2.out.nod _ hmem)
     have HLK:=Lib.hid (fun W (hx:Ext w2 W)=>by have:=tree_look (HT2.out.ext hx) ⟨up.toArray⟩;rw [hg] at this;exact this)
     have HC1:=Lib.hid c1
     have HIN:Hid (g2<w.heap.size→∃ e∈t,g2=e.2.1):=by
      intro _
      rw [← HT1.out] at hmem
      exact ⟨_,(List.mem_filter.1 hmem).1,rfl⟩
     clear hup hg hos hmem
     go_upto_region 3 with (fail)
     refine' wp_region_dagK 8 [] ((26, .val _)::(27, .val _)::(28, .val _)::(29, .val _)::(30, .val _)::(31, .val _)::(32, .val _)::(33, .val _)::[]) (by exact ⟨fun _ _ _ _ _=>trivial,⟨fun _ _ _ _ _=>trivial,⟨fun _ _ _ _ _=>trivial,⟨fun _ _ _ _ _=>trivial,⟨fun _ _ _ _ _=>trivial,⟨fun _ _ _ _ _=>trivial,⟨fun _ _ _ _ _=>trivial,⟨fun _ _ _ _ _=>trivial,trivial⟩⟩⟩⟩⟩⟩⟩⟩) (by kernel_rfl) (by kernel_rfl) (by kernel_rfl) ?_
     rotate_left 8
     simp only [List.take_succ_cons,List.take_zero]
     repeat (first
      | (refine wpD_skipv ?_ ?_ ?_
         focus rfl
         focus rfl
         simp only [Act.put,List.setIfInBounds_toArray,List.set_cons_succ,List.set_cons_zero])
      | (refine' wpD_val (c:=_) ?_ (fun w=>Kp.refl _ w) ?_ (fun wq hwq hfq=>?_) ?_
         rotate_left
         focus rfl
         focus rfl
         focus ((have hext:Ext w2 wq:=hwq.mono (fun i hi e=>by omega);have c1:=hext.cell HC1.out (fun f=>f);have hlk:=HLK.out wq hext);go_simp;first|done|rfl)
         simp only [Act.put,List.setIfInBounds_toArray,List.set_cons_succ,List.set_cons_zero])
      | (refine' wpD_con (c:=_) ?_ ?_ (fun wq hwq hfq=>?_) ?_
         rotate_left
         focus rfl
         focus rfl
         focus ((have hext:Ext w2 wq:=hwq.mono (fun i hi e=>by omega);have c1:=hext.cell HC1.out (fun f=>f);have hlk:=HLK.out wq hext);go_simp;(try (rw [dUpon_enter]));((with_reducible refine (HNA.out _ (HX2.out.ext hext)).mono ?_);rintro e w' ⟨rfl,hx⟩;exact DEnd.con hx))
         simp only [Act.put,List.setIfInBounds_toArray,List.set_cons_succ,List.set_cons_zero])
      | fail)
     refine wpD_nil ?_
     intro w5 hx5 hend
     clear hend
     have hx5':Ext w2 w5:=hx5.mono (fun i hi e=>by omega)
     have HT5:=Lib.hid (HT2.out.ext hx5')
     have HK5:=Lib.hid (HK2.out.ext hx5')
     have HADD:=Lib.hid (statRemove_any g2 n2 (lastL p.data.toList) w5 (HND.out.ext hx5') HOK2.out.rise HOK2.out.few HOK2.out.kids)
     clear hx5 hx5'
     go_wp2_with (fail)
     refine HADD.out.mono ?_
     rintro e w6 ⟨⟨u,rfl⟩,hnd6,hk6⟩
     have HT6:=Lib.hid (HT5.out.put HGE.out hnd6 hk6)
     have HK6:Hid (Kp (nodeFr m t) w w6):=HK5.out.next hk6 (fun i hi e=>by
      subst e
      exact .inr (HIN.out hi))
     clear hnd6 hk6
     go_wp2_with (fail)
     go_light
     exact bodyPost_end (results_none (by rfl) _ _ _) rfl ⟨⟨_,rfl⟩,by rw [HT1.out,HE.out];exact HT6.out,HK6.out⟩
end Go.Proofs.YtnlefnhdhigecaaGreatDoor

namespace Go.Proofs.YtnlefnhdhigecaaGreatDoor
set_option maxRecDepth 100000
open Go.RowKit Av
def finP (room:Int) (t:Tr) (p:ByteArray):ByteArray×Int:=if (mget t p).isSome=true then (⟨#[]⟩,5) else if room≤(t.length:Int) then (⟨#[]⟩,9) else (p,0)
def seqF (f:Int):Bool:=decide (2≤f)
def placeT (room:Int) (t:Tr) (p:ByteArray) (f:Int):ByteArray×Int:=match parentL p.data.toList with
 | none=>finP room t p
 | some up=>match mget t ⟨up.toArray⟩ with
   | none=>(⟨#[]⟩,4)
   | some (_,n)=>if n.own≠0 then (⟨#[]⟩,8) else if seqF f=true then (match numberL p.data.toList n.next with
     | none=>(⟨#[]⟩,1)
     | some q=>finP room t ⟨q.toArray⟩) else finP room t p
set_option maxHeartbeats 6400000 in
theorem place_any (base b m:Nat) (room:Int) (t:Tr) (k:Int) (p d:ByteArray) (v f:Int) (w:World) (hT:TreeR w base b m room t) (hG:GT w) (hp:p.size≤1000000) (hf0:0≤f) (hf3:f≤3) :
  Calls Tryz.prog 151 #[.pointer (some ⟨b,0,none⟩), .agg #[.int .i64 k, .string p, .string d, .int .i64 v, .int .i64 f]] w fun e w'=>e=.returned (.tuple #[.string (placeT room t p f).1, .int .i64 (placeT room t p f).2])∧Ext w w':=by
 obtain ⟨wA,hWA⟩:∃ wA,w.alloc (.cells #[.int .i64 k, .string p, .string d, .int .i64 v, .int .i64 f] 33)=wA:=⟨_,rfl⟩
 have hxA:Ext w wA:=by rw [← hWA];exact (Kp.refl _ _).alloc _
 have hA:Blk wA w.heap.size #[.int .i64 k, .string p, .string d, .int .i64 v, .int .i64 f] 33:=by rw [← hWA];exact heap_alloc_new w _
 have HA:=Lib.hid hA
 have HXA:=Lib.hid hxA
 have HTA:=Lib.hid (hT.ext hxA)
 have HWA:=Lib.hid hWA
 have HPA:=Lib.hid (Parent_any p wA (hG.gl.ext hxA) (by unfold maxLen;omega))
 have HNU:=Lib.hid (fun W (hx:Ext wA W) x=>pathNumber_any p x W (hG.ext (hxA.ext hx)) (by unfold maxLen;omega))
 have HPL:Hid (placeT room t p f=match parentL p.data.toList with
  | none=>finP room t p
  | some up=>match mget t ⟨up.toArray⟩ with
    | none=>(⟨#[]⟩,4)
    | some (_,n)=>if n.own≠0 then (⟨#[]⟩,8) else if seqF f=true then (match numberL p.data.toList n.next with
      | none=>(⟨#[]⟩,1)
      | some q=>finP room t ⟨q.toArray⟩) else finP room t p):=rfl
 generalize placeT room t p f=R at HPL ⊢
 have c1:=hA.cell 1 _ rfl
 clear hT hG hp hWA hxA hA
 go_enter Tryz.func151,Tryz.ntmps151
 go_upto_region 1 with (fail)
 rw [HWA.out]
 go_wp2_with (fail)
 refine HPA.out.mono ?_
 rintro e w2 ⟨rfl,hx2⟩
 have HT2:=Lib.hid (HTA.out.ext hx2)
 have HX2:=Lib.hid hx2
 clear hx2 HPA c1
 cases hup:parentL p.data.toList with
 | none=>
   have HE:Hid (R=finP room t p):=by show _=_;rw [HPL.out,hup]
   clear hup
   have hlk2:=tree_look HT2.out p
   have d0:=HT2.out.blk.cell 0 _ rfl
   have d1:=HT2.out.blk.cell 1 _ rfl
   cases hq:mget t p with
   | some gq=>
     have HE2:Hid (R=(⟨#[]⟩,5)):=by show _=_;rw [HE.out];unfold finP;rw [hq];rfl
     rw [hq] at hlk2
     simp only [Option.map_some,Option.getD_some] at hlk2
     clear hq
     go_wp2_with (fail)
     go_ret2
     go_light
     rw [HE2.out]
     exact ⟨rfl,HXA.out.ext HX2.out⟩
   | none=>
     rw [hq] at hlk2
     simp only [Option.map_none,Option.getD_none] at hlk2
     have HLN:=Lib.hid (fun W (hx:Ext w2 W) ty=>by have:=MapK.len tNodes (HT2.out.map.ext hx) ty;rw [show (ptrs t).length=t.length by simp [ptrs]] at this;exact this)
     have HD0:=Lib.hid d0
     have HD1:=Lib.hid d1
     by_cases hrm:room≤(t.length:Int)
     ·have HE2:Hid (R=(⟨#[]⟩,9)):=by show _=_;rw [HE.out];unfold finP;rw [hq,if_neg (by simp),if_pos hrm]
      clear hq
      go_upto_region 16 with (fail)
      refine' wp_region_dag0 ((58, .val _)::(59, .val _)::(60, .val _)::(61, .val _)::(62, .val _)::(63, .val _)::(64, .val _)::(65, .val _)::(66, .val _)::(67, .val _)::(57, .val _)::[]) (by exact ⟨fun _ _ _ _ _=>trivial,⟨fun _ _ _ _ _=>trivial,⟨fun _ _ _ _ _=>trivial,⟨fun _ _ _ _ _=>trivial,⟨fun _ _ _ _ _=>trivial,⟨fun _ _ _ _ _=>trivial,⟨fun _ _ _ _ _=>trivial,⟨fun _ _ _ _ _=>trivial,⟨fun _ _ _ _ _=>trivial,⟨fun _ _ _ _ _=>trivial,⟨fun _ _ _ _ _=>trivial,trivial⟩⟩⟩⟩⟩⟩⟩⟩⟩⟩⟩) (by kernel_rfl) (by kernel_rfl) (by kernel_rfl) ?_
      rotate_left 11
      repeat (first
       | (refine wpD_skipv ?_ ?_ ?_
          focus rfl
          focus rfl
          simp only [Act.put,List.setIfInBounds_toArray,List.set_cons_succ,List.set_cons_zero])
       | (refine' wpD_val (c:=_) ?_ (fun w=>Kp.refl _ w) ?_ (fun wq hwq hfq=>?_) ?_
          rotate_left
          focus rfl
          focus rfl
          focus ((have d0:=hwq.cell HD0.out (fun f=>f);have d1:=hwq.cell HD1.out (fun f=>f);have hln:=HLN.out wq hwq);go_simp;first|done|rfl)
          simp only [Act.put,List.setIfInBounds_toArray,List.set_cons_succ,List.set_cons_zero])
       | (refine' wpD_con (c:=_) ?_ ?_ (fun wq hwq hfq=>?_) ?_
          rotate_left
          focus rfl
          focus rfl
          focus ((have d0:=hwq.cell HD0.out (fun f=>f);have d1:=hwq.cell HD1.out (fun f=>f);have hln:=HLN.out wq hwq);go_simp;(try (rw [dUpon_enter]));fail)
          simp only [Act.put,List.setIfInBounds_toArray,List.set_cons_succ,List.set_cons_zero])
       | fail)
      refine wpD_nil ?_
      intro w7 hx7 hend
      clear hend
      have HX7:=Lib.hid (HX2.out.ext hx7)
      clear hx7
      go_wp2_with (fail)
      go_ret2
      go_light
      rw [HE2.out]
      exact ⟨rfl,HXA.out.ext HX7.out⟩
     ·have HE2:Hid (R=(p,0)):=by show _=_;rw [HE.out];unfold finP;rw [hq,if_neg (by simp),if_neg hrm]
      clear hq
      go_upto_region 16 with (fail)
      refine' wp_region_dag0 ((58, .val _)::(59, .val _)::(60, .val _)::(61, .val _)::(62, .val _)::(63, .val _)::(64, .val _)::(65, .val _)::(66, .val _)::(67, .val _)::(57, .val _)::[]) (by exact ⟨fun _ _ _ _ _=>trivial,⟨fun _ _ _ _ _=>trivial,⟨fun _ _ _ _ _=>trivial,⟨fun _ _ _ _ _=>trivial,⟨fun _ _ _ _ _=>trivial,⟨fun _ _ _ _ _=>trivial,⟨fun _ _ _ _ _=>trivial,⟨fun _ _ _ _ _=>trivial,⟨fun _ _ _ _ _=>trivial,⟨fun _ _ _ _ _=>trivial,⟨fun _ _ _ _ _=>trivial,trivial⟩⟩⟩⟩⟩⟩⟩⟩⟩⟩⟩) (by kernel_rfl) (by kernel_rfl) (by kernel_rfl) ?_
      rotate_left 11
      repeat (first
       | (refine wpD_skipv ?_ ?_ ?_
          focus rfl
          focus rfl
          simp only [Act.put,List.setIfInBounds_toArray,List.set_cons_succ,List.set_cons_zero])
       | (refine' wpD_val (c:=_) ?_ (fun w=>Kp.refl _ w) ?_ (fun wq hwq hfq=>?_) ?_
          rotate_left
          focus rfl
          focus rfl
          focus ((have d0:=hwq.cell HD0.out (fun f=>f);have d1:=hwq.cell HD1.out (fun f=>f);have hln:=HLN.out wq hwq);go_simp;first|done|rfl)
          simp only [Act.put,List.setIfInBounds_toArray,List.set_cons_succ,List.set_cons_zero])
       | (refine' wpD_con (c:=_) ?_ ?_ (fun wq hwq hfq=>?_) ?_
          rotate_left
          focus rfl
          focus rfl
          focus ((have d0:=hwq.cell HD0.out (fun f=>f);have d1:=hwq.cell HD1.out (fun f=>f);have hln:=HLN.out wq hwq);go_simp;(try (rw [dUpon_enter]));fail)
          simp only [Act.put,List.setIfInBounds_toArray,List.set_cons_succ,List.set_cons_zero])
       | fail)
      refine wpD_nil ?_
      intro w7 hx7 hend
      clear hend
      have HX7:=Lib.hid (HX2.out.ext hx7)
      clear hx7
      go_wp2_with (fail)
      go_ret2
      go_light
      rw [HE2.out]
      exact ⟨rfl,HXA.out.ext HX7.out⟩
 | some up=>
   have hlk:=tree_look HT2.out ⟨up.toArray⟩
   have d1:=HT2.out.blk.cell 1 _ rfl
   have hos:optS (some up)=⟨up.toArray⟩:=rfl
   rw [hos]
   cases hg:mget t ⟨up.toArray⟩ with
   | none=>
     have HE:Hid (R=(⟨#[]⟩,4)):=by show _=_;rw [HPL.out];simp only [hup,hg]
     rw [hg] at hlk
     simp only [Option.map_none,Option.getD_none] at hlk
     clear hup hg hos
     go_wp2_with (fail)
     go_ret2
     go_light
     rw [HE.out]
     exact ⟨rfl,HXA.out.ext HX2.out⟩
   | some gn=>
     obtain ⟨g2,n2⟩:=gn
     have HU:=Lib.hid hup
     have HGQ:=Lib.hid hg
     have hmem:=mget_mem hg
     have hnd:=HT2.out.nod _ hmem
     have HEP:=Lib.hid (ephemeral_any g2 n2 w2 hnd)
     have HND:=Lib.hid hnd
     rw [hg] at hlk
     simp only [Option.map_some,Option.getD_some] at hlk
     have h4:=(HA.out.kp HX2.out (fun f=>f)).cell 4 _ rfl
     clear hup hg hos hmem hnd
     by_cases ho:n2.own=0
     ·have HR:Hid (R=if seqF f=true then (match numberL p.data.toList n2.next with
       | none=>(⟨#[]⟩,1)
       | some q=>finP room t ⟨q.toArray⟩) else finP room t p):=by show _=_;rw [HPL.out];simp only [HU.out,HGQ.out];rw [if_neg (by simpa using ho)]
      rw [ho] at HEP
      clear ho
      go_wp2_with (fail)
      refine HEP.out.mono ?_
      rintro e w3 ⟨rfl,rfl⟩
      have hfc:f=0∨f=1∨f=2∨f=3:=by omega
      obtain ⟨nv,hnb,_⟩:=HND.out
      have n8:=hnb.cell 8 (.int .i64 n2.next) rfl
      have HN8:=Lib.hid n8
      clear hnb n8 hlk d1
      rcases hfc with rfl|rfl|rfl|rfl
      ·have HE:Hid (R=finP room t p):=by show _=_;rw [HR.out];exact if_neg (by decide)
       have hlk2:=tree_look HT2.out p
       have d0:=HT2.out.blk.cell 0 _ rfl
       have d1:=HT2.out.blk.cell 1 _ rfl
       cases hq:mget t p with
       | some gq=>
         have HE2:Hid (R=(⟨#[]⟩,5)):=by show _=_;rw [HE.out];unfold finP;rw [hq];rfl
         rw [hq] at hlk2
         simp only [Option.map_some,Option.getD_some] at hlk2
         clear hq
         go_wp2_with (fail)
         go_ret2
         go_light
         rw [HE2.out]
         exact ⟨rfl,HXA.out.ext HX2.out⟩
       | none=>
         rw [hq] at hlk2
         simp only [Option.map_none,Option.getD_none] at hlk2
         have HLN:=Lib.hid (fun W (hx:Ext w2 W) ty=>by have:=MapK.len tNodes (HT2.out.map.ext hx) ty;rw [show (ptrs t).length=t.length by simp [ptrs]] at this;exact this)
         have HD0:=Lib.hid d0
         have HD1:=Lib.hid d1
         by_cases hrm:room≤(t.length:Int)
         ·have HE2:Hid (R=(⟨#[]⟩,9)):=by show _=_;rw [HE.out];unfold finP;rw [hq,if_neg (by simp),if_pos hrm]
          clear hq
          go_upto_region 16 with (fail)
          refine' wp_region_dag0 ((58, .val _)::(59, .val _)::(60, .val _)::(61, .val _)::(62, .val _)::(63, .val _)::(64, .val _)::(65, .val _)::(66, .val _)::(67, .val _)::(57, .val _)::[]) (by exact ⟨fun _ _ _ _ _=>trivial,⟨fun _ _ _ _ _=>trivial,⟨fun _ _ _ _ _=>trivial,⟨fun _ _ _ _ _=>trivial,⟨fun _ _ _ _ _=>trivial,⟨fun _ _ _ _ _=>trivial,⟨fun _ _ _ _ _=>trivial,⟨fun _ _ _ _ _=>trivial,⟨fun _ _ _ _ _=>trivial,⟨fun _ _ _ _ _=>trivial,⟨fun _ _ _ _ _=>trivial,trivial⟩⟩⟩⟩⟩⟩⟩⟩⟩⟩⟩) (by kernel_rfl) (by kernel_rfl) (by kernel_rfl) ?_
          rotate_left 11
          repeat (first
           | (refine wpD_skipv ?_ ?_ ?_
              focus rfl
              focus rfl
              simp only [Act.put,List.setIfInBounds_toArray,List.set_cons_succ,List.set_cons_zero])
           | (refine' wpD_val (c:=_) ?_ (fun w=>Kp.refl _ w) ?_ (fun wq hwq hfq=>?_) ?_
              rotate_left
              focus rfl
              focus rfl
              focus ((have d0:=hwq.cell HD0.out (fun f=>f);have d1:=hwq.cell HD1.out (fun f=>f);have hln:=HLN.out wq hwq);go_simp;first|done|rfl)
              simp only [Act.put,List.setIfInBounds_toArray,List.set_cons_succ,List.set_cons_zero])
           | (refine' wpD_con (c:=_) ?_ ?_ (fun wq hwq hfq=>?_) ?_
              rotate_left
              focus rfl
              focus rfl
              focus ((have d0:=hwq.cell HD0.out (fun f=>f);have d1:=hwq.cell HD1.out (fun f=>f);have hln:=HLN.out wq hwq);go_simp;(try (rw [dUpon_enter]));fail)
              simp only [Act.put,List.setIfInBounds_toArray,List.set_cons_succ,List.set_cons_zero])
           | fail)
          refine wpD_nil ?_
          intro w7 hx7 hend
          clear hend
          have HX7:=Lib.hid (HX2.out.ext hx7)
          clear hx7
          go_wp2_with (fail)
          go_ret2
          go_light
          rw [HE2.out]
          exact ⟨rfl,HXA.out.ext HX7.out⟩
         ·have HE2:Hid (R=(p,0)):=by show _=_;rw [HE.out];unfold finP;rw [hq,if_neg (by simp),if_neg hrm]
          clear hq
          go_upto_region 16 with (fail)
          refine' wp_region_dag0 ((58, .val _)::(59, .val _)::(60, .val _)::(61, .val _)::(62, .val _)::(63, .val _)::(64, .val _)::(65, .val _)::(66, .val _)::(67, .val _)::(57, .val _)::[]) (by exact ⟨fun _ _ _ _ _=>trivial,⟨fun _ _ _ _ _=>trivial,⟨fun _ _ _ _ _=>trivial,⟨fun _ _ _ _ _=>trivial,⟨fun _ _ _ _ _=>trivial,⟨fun _ _ _ _ _=>trivial,⟨fun _ _ _ _ _=>trivial,⟨fun _ _ _ _ _=>trivial,⟨fun _ _ _ _ _=>trivial,⟨fun _ _ _ _ _=>trivial,⟨fun _ _ _ _ _=>trivial,trivial⟩⟩⟩⟩⟩⟩⟩⟩⟩⟩⟩) (by kernel_rfl) (by kernel_rfl) (by kernel_rfl) ?_
          rotate_left 11
          repeat (first
           | (refine wpD_skipv ?_ ?_ ?_
              focus rfl
              focus rfl
              simp only [Act.put,List.setIfInBounds_toArray,List.set_cons_succ,List.set_cons_zero])
           | (refine' wpD_val (c:=_) ?_ (fun w=>Kp.refl _ w) ?_ (fun wq hwq hfq=>?_) ?_
              rotate_left
              focus rfl
              focus rfl
              focus ((have d0:=hwq.cell HD0.out (fun f=>f);have d1:=hwq.cell HD1.out (fun f=>f);have hln:=HLN.out wq hwq);go_simp;first|done|rfl)
              simp only [Act.put,List.setIfInBounds_toArray,List.set_cons_succ,List.set_cons_zero])
           | (refine' wpD_con (c:=_) ?_ ?_ (fun wq hwq hfq=>?_) ?_
              rotate_left
              focus rfl
              focus rfl
              focus ((have d0:=hwq.cell HD0.out (fun f=>f);have d1:=hwq.cell HD1.out (fun f=>f);have hln:=HLN.out wq hwq);go_simp;(try (rw [dUpon_enter]));fail)
              simp only [Act.put,List.setIfInBounds_toArray,List.set_cons_succ,List.set_cons_zero])
           | fail)
          refine wpD_nil ?_
          intro w7 hx7 hend
          clear hend
          have HX7:=Lib.hid (HX2.out.ext hx7)
          clear hx7
          go_wp2_with (fail)
          go_ret2
          go_light
          rw [HE2.out]
          exact ⟨rfl,HXA.out.ext HX7.out⟩
      ·have HE:Hid (R=finP room t p):=by show _=_;rw [HR.out];exact if_neg (by decide)
       have hlk2:=tree_look HT2.out p
       have d0:=HT2.out.blk.cell 0 _ rfl
       have d1:=HT2.out.blk.cell 1 _ rfl
       cases hq:mget t p with
       | some gq=>
         have HE2:Hid (R=(⟨#[]⟩,5)):=by show _=_;rw [HE.out];unfold finP;rw [hq];rfl
         rw [hq] at hlk2
         simp only [Option.map_some,Option.getD_some] at hlk2
         clear hq
         go_wp2_with (fail)
         go_ret2
         go_light
         rw [HE2.out]
         exact ⟨rfl,HXA.out.ext HX2.out⟩
       | none=>
         rw [hq] at hlk2
         simp only [Option.map_none,Option.getD_none] at hlk2
         have HLN:=Lib.hid (fun W (hx:Ext w2 W) ty=>by have:=MapK.len tNodes (HT2.out.map.ext hx) ty;rw [show (ptrs t).length=t.length by simp [ptrs]] at this;exact this)
         have HD0:=Lib.hid d0
         have HD1:=Lib.hid d1
         by_cases hrm:room≤(t.length:Int)
         ·have HE2:Hid (R=(⟨#[]⟩,9)):=by show _=_;rw [HE.out];unfold finP;rw [hq,if_neg (by simp),if_pos hrm]
          clear hq
          go_upto_region 16 with (fail)
          refine' wp_region_dag0 ((58, .val _)::(59, .val _)::(60, .val _)::(61, .val _)::(62, .val _)::(63, .val _)::(64, .val _)::(65, .val _)::(66, .val _)::(67, .val _)::(57, .val _)::[]) (by exact ⟨fun _ _ _ _ _=>trivial,⟨fun _ _ _ _ _=>trivial,⟨fun _ _ _ _ _=>trivial,⟨fun _ _ _ _ _=>trivial,⟨fun _ _ _ _ _=>trivial,⟨fun _ _ _ _ _=>trivial,⟨fun _ _ _ _ _=>trivial,⟨fun _ _ _ _ _=>trivial,⟨fun _ _ _ _ _=>trivial,⟨fun _ _ _ _ _=>trivial,⟨fun _ _ _ _ _=>trivial,trivial⟩⟩⟩⟩⟩⟩⟩⟩⟩⟩⟩) (by kernel_rfl) (by kernel_rfl) (by kernel_rfl) ?_
          rotate_left 11
          repeat (first
           | (refine wpD_skipv ?_ ?_ ?_
              focus rfl
              focus rfl
              simp only [Act.put,List.setIfInBounds_toArray,List.set_cons_succ,List.set_cons_zero])
           | (refine' wpD_val (c:=_) ?_ (fun w=>Kp.refl _ w) ?_ (fun wq hwq hfq=>?_) ?_
              rotate_left
              focus rfl
              focus rfl
              focus ((have d0:=hwq.cell HD0.out (fun f=>f);have d1:=hwq.cell HD1.out (fun f=>f);have hln:=HLN.out wq hwq);go_simp;first|done|rfl)
              simp only [Act.put,List.setIfInBounds_toArray,List.set_cons_succ,List.set_cons_zero])
           | (refine' wpD_con (c:=_) ?_ ?_ (fun wq hwq hfq=>?_) ?_
              rotate_left
              focus rfl
              focus rfl
              focus ((have d0:=hwq.cell HD0.out (fun f=>f);have d1:=hwq.cell HD1.out (fun f=>f);have hln:=HLN.out wq hwq);go_simp;(try (rw [dUpon_enter]));fail)
              simp only [Act.put,List.setIfInBounds_toArray,List.set_cons_succ,List.set_cons_zero])
           | fail)
          refine wpD_nil ?_
          intro w7 hx7 hend
          clear hend
          have HX7:=Lib.hid (HX2.out.ext hx7)
          clear hx7
          go_wp2_with (fail)
          go_ret2
          go_light
          rw [HE2.out]
          exact ⟨rfl,HXA.out.ext HX7.out⟩
         ·have HE2:Hid (R=(p,0)):=by show _=_;rw [HE.out];unfold finP;rw [hq,if_neg (by simp),if_neg hrm]
          clear hq
          go_upto_region 16 with (fail)
          refine' wp_region_dag0 ((58, .val _)::(59, .val _)::(60, .val _)::(61, .val _)::(62, .val _)::(63, .val _)::(64, .val _)::(65, .val _)::(66, .val _)::(67, .val _)::(57, .val _)::[]) (by exact ⟨fun _ _ _ _ _=>trivial,⟨fun _ _ _ _ _=>trivial,⟨fun _ _ _ _ _=>trivial,⟨fun _ _ _ _ _=>trivial,⟨fun _ _ _ _ _=>trivial,⟨fun _ _ _ _ _=>trivial,⟨fun _ _ _ _ _=>trivial,⟨fun _ _ _ _ _=>trivial,⟨fun _ _ _ _ _=>trivial,⟨fun _ _ _ _ _=>trivial,⟨fun _ _ _ _ _=>trivial,trivial⟩⟩⟩⟩⟩⟩⟩⟩⟩⟩⟩) (by kernel_rfl) (by kernel_rfl) (by kernel_rfl) ?_
          rotate_left 11
          repeat (first
           | (refine wpD_skipv ?_ ?_ ?_
              focus rfl
              focus rfl
              simp only [Act.put,List.setIfInBounds_toArray,List.set_cons_succ,List.set_cons_zero])
           | (refine' wpD_val (c:=_) ?_ (fun w=>Kp.refl _ w) ?_ (fun wq hwq hfq=>?_) ?_
              rotate_left
              focus rfl
              focus rfl
              focus ((have d0:=hwq.cell HD0.out (fun f=>f);have d1:=hwq.cell HD1.out (fun f=>f);have hln:=HLN.out wq hwq);go_simp;first|done|rfl)
              simp only [Act.put,List.setIfInBounds_toArray,List.set_cons_succ,List.set_cons_zero])
           | (refine' wpD_con (c:=_) ?_ ?_ (fun wq hwq hfq=>?_) ?_
              rotate_left
              focus rfl
              focus rfl
              focus ((have d0:=hwq.cell HD0.out (fun f=>f);have d1:=hwq.cell HD1.out (fun f=>f);have hln:=HLN.out wq hwq);go_simp;(try (rw [dUpon_enter]));fail)
              simp only [Act.put,List.setIfInBounds_toArray,List.set_cons_succ,List.set_cons_zero])
           | fail)
          refine wpD_nil ?_
          intro w7 hx7 hend
          clear hend
          have HX7:=Lib.hid (HX2.out.ext hx7)
          clear hx7
          go_wp2_with (fail)
          go_ret2
          go_light
          rw [HE2.out]
          exact ⟨rfl,HXA.out.ext HX7.out⟩
      all_goals
       have HRS:Hid (R=(match numberL p.data.toList n2.next with
        | none=>(⟨#[]⟩,1)
        | some q=>finP room t ⟨q.toArray⟩)):=by show _=_;rw [HR.out];exact if_pos (by decide)
       have n8:=HN8.out
       have HNB:=Lib.hid (HNU.out w2 HX2.out n2.next)
       cases hnu:numberL p.data.toList n2.next with
       | none=>
         rw [hnu] at HNB
         have HE:Hid (R=(⟨#[]⟩,1)):=by show _=_;rw [HRS.out,hnu]
         rw [show errI none=1 from rfl] at HNB
         clear hnu
         go_wp2_with (fail)
         refine HNB.out.mono ?_
         rintro e w4 ⟨rfl,hx4⟩
         have HX4:=Lib.hid (HX2.out.ext hx4)
         clear hx4
         go_wp2_with (fail)
         go_ret2
         go_light
         rw [HE.out]
         exact ⟨rfl,HXA.out.ext HX4.out⟩
       | some q=>
         rw [hnu] at HNB
         have HE:Hid (R=finP room t ⟨q.toArray⟩):=by show _=_;rw [HRS.out,hnu]
         rw [show errI (some q)=0 from rfl,show optS (some q)=⟨q.toArray⟩ from rfl] at HNB
         clear hnu
         go_wp2_with (fail)
         refine HNB.out.mono ?_
         rintro e w4 ⟨rfl,hx4⟩
         have HX4:=Lib.hid (HX2.out.ext hx4)
         have HT4:=Lib.hid (HT2.out.ext hx4)
         clear hx4 n8
         have hlk2:=tree_look HT4.out (⟨q.toArray⟩:ByteArray)
         have d0:=HT4.out.blk.cell 0 _ rfl
         have d1:=HT4.out.blk.cell 1 _ rfl
         cases hq:mget t (⟨q.toArray⟩:ByteArray) with
         | some gq=>
           have HE2:Hid (R=(⟨#[]⟩,5)):=by show _=_;rw [HE.out];unfold finP;rw [hq];rfl
           rw [hq] at hlk2
           simp only [Option.map_some,Option.getD_some] at hlk2
           clear hq
           go_wp2_with (fail)
           go_ret2
           go_light
           rw [HE2.out]
           exact ⟨rfl,HXA.out.ext HX4.out⟩
         | none=>
           rw [hq] at hlk2
           simp only [Option.map_none,Option.getD_none] at hlk2
           have HLN:=Lib.hid (fun W (hx:Ext w4 W) ty=>by have:=MapK.len tNodes (HT4.out.map.ext hx) ty;rw [show (ptrs t).length=t.length by simp [ptrs]] at this;exact this)
           have HD0:=Lib.hid d0
           have HD1:=Lib.hid d1
           by_cases hrm:room≤(t.length:Int)
           ·have HE2:Hid (R=(⟨#[]⟩,9)):=by show _=_;rw [HE.out];unfold finP;rw [hq,if_neg (by simp),if_pos hrm]
            clear hq
            go_upto_region 16 with (fail)
            refine' wp_region_dag0 ((58, .val _)::(59, .val _)::(60, .val _)::(61, .val _)::(62, .val _)::(63, .val _)::(64, .val _)::(65, .val _)::(66, .val _)::(67, .val _)::(57, .val _)::[]) (by exact ⟨fun _ _ _ _ _=>trivial,⟨fun _ _ _ _ _=>trivial,⟨fun _ _ _ _ _=>trivial,⟨fun _ _ _ _ _=>trivial,⟨fun _ _ _ _ _=>trivial,⟨fun _ _ _ _ _=>trivial,⟨fun _ _ _ _ _=>trivial,⟨fun _ _ _ _ _=>trivial,⟨fun _ _ _ _ _=>trivial,⟨fun _ _ _ _ _=>trivial,⟨fun _ _ _ _ _=>trivial,trivial⟩⟩⟩⟩⟩⟩⟩⟩⟩⟩⟩) (by kernel_rfl) (by kernel_rfl) (by kernel_rfl) ?_
            rotate_left 11
            repeat (first
             | (refine wpD_skipv ?_ ?_ ?_
                focus rfl
                focus rfl
                simp only [Act.put,List.setIfInBounds_toArray,List.set_cons_succ,List.set_cons_zero])
             | (refine' wpD_val (c:=_) ?_ (fun w=>Kp.refl _ w) ?_ (fun wq hwq hfq=>?_) ?_
                rotate_left
                focus rfl
                focus rfl
                focus ((have d0:=hwq.cell HD0.out (fun f=>f);have d1:=hwq.cell HD1.out (fun f=>f);have hln:=HLN.out wq hwq);go_simp;first|done|rfl)
                simp only [Act.put,List.setIfInBounds_toArray,List.set_cons_succ,List.set_cons_zero])
             | (refine' wpD_con (c:=_) ?_ ?_ (fun wq hwq hfq=>?_) ?_
                rotate_left
                focus rfl
                focus rfl
                focus ((have d0:=hwq.cell HD0.out (fun f=>f);have d1:=hwq.cell HD1.out (fun f=>f);have hln:=HLN.out wq hwq);go_simp;(try (rw [dUpon_enter]));fail)
                simp only [Act.put,List.setIfInBounds_toArray,List.set_cons_succ,List.set_cons_zero])
             | fail)
            refine wpD_nil ?_
            intro w7 hx7 hend
            clear hend
            have HX7:=Lib.hid (HX4.out.ext hx7)
            clear hx7
            go_wp2_with (fail)
            go_ret2
            go_light
            rw [HE2.out]
            exact ⟨rfl,HXA.out.ext HX7.out⟩
           ·have HE2:Hid (R=((⟨q.toArray⟩:ByteArray),0)):=by show _=_;rw [HE.out];unfold finP;rw [hq,if_neg (by simp),if_neg hrm]
            clear hq
            go_upto_region 16 with (fail)
            refine' wp_region_dag0 ((58, .val _)::(59, .val _)::(60, .val _)::(61, .val _)::(62, .val _)::(63, .val _)::(64, .val _)::(65, .val _)::(66, .val _)::(67, .val _)::(57, .val _)::[]) (by exact ⟨fun _ _ _ _ _=>trivial,⟨fun _ _ _ _ _=>trivial,⟨fun _ _ _ _ _=>trivial,⟨fun _ _ _ _ _=>trivial,⟨fun _ _ _ _ _=>trivial,⟨fun _ _ _ _ _=>trivial,⟨fun _ _ _ _ _=>trivial,⟨fun _ _ _ _ _=>trivial,⟨fun _ _ _ _ _=>trivial,⟨fun _ _ _ _ _=>trivial,⟨fun _ _ _ _ _=>trivial,trivial⟩⟩⟩⟩⟩⟩⟩⟩⟩⟩⟩) (by kernel_rfl) (by kernel_rfl) (by kernel_rfl) ?_
            rotate_left 11
            repeat (first
             | (refine wpD_skipv ?_ ?_ ?_
                focus rfl
                focus rfl
                simp only [Act.put,List.setIfInBounds_toArray,List.set_cons_succ,List.set_cons_zero])
             | (refine' wpD_val (c:=_) ?_ (fun w=>Kp.refl _ w) ?_ (fun wq hwq hfq=>?_) ?_
                rotate_left
                focus rfl
                focus rfl
                focus ((have d0:=hwq.cell HD0.out (fun f=>f);have d1:=hwq.cell HD1.out (fun f=>f);have hln:=HLN.out wq hwq);go_simp;first|done|rfl)
                simp only [Act.put,List.setIfInBounds_toArray,List.set_cons_succ,List.set_cons_zero])
             | (refine' wpD_con (c:=_) ?_ ?_ (fun wq hwq hfq=>?_) ?_
                rotate_left
                focus rfl
                focus rfl
                focus ((have d0:=hwq.cell HD0.out (fun f=>f);have d1:=hwq.cell HD1.out (fun f=>f);have hln:=HLN.out wq hwq);go_simp;(try (rw [dUpon_enter]));fail)
                simp only [Act.put,List.setIfInBounds_toArray,List.set_cons_succ,List.set_cons_zero])
             | fail)
            refine wpD_nil ?_
            intro w7 hx7 hend
            clear hend
            have HX7:=Lib.hid (HX4.out.ext hx7)
            clear hx7
            go_wp2_with (fail)
            go_ret2
            go_light
            rw [HE2.out]
            exact ⟨rfl,HXA.out.ext HX7.out⟩
     ·have HE:Hid (R=(⟨#[]⟩,8)):=by show _=_;rw [HPL.out];simp only [HU.out,HGQ.out];exact if_pos (by simpa using ho)
      have hb:(n2.own != 0)=true:=by simpa using ho
      rw [hb] at HEP
      clear ho hb
      go_wp2_with (fail)
      refine HEP.out.mono ?_
      rintro e w3 ⟨rfl,rfl⟩
      go_wp2_with (fail)
      go_ret2
      go_light
      rw [HE.out]
      exact ⟨rfl,HXA.out.ext HX2.out⟩
end Go.Proofs.YtnlefnhdhigecaaGreatDoor

