/- Texts put together: AvMulD, AvScrA, AvScrB, AvSesD. -/
import Derived.Test.YtnlefnhdhigecaaGreatDoorAvG18
import Derived.Test.YtnlefnhdhigecaaGreatDoorAvG13
import Derived.Test.YtnlefnhdhigecaaGreatDoorAvG6
import Derived.Test.YtnlefnhdhigecaaGreatDoorShelfT
import Derived.Test.YtnlefnhdhigecaaGreatDoorAvG12
import Derived.Test.YtnlefnhdhigecaaGreatDoorAvG1
import Derived.Shelf.AbstractIn
namespace Go.Proofs.YtnlefnhdhigecaaGreatDoor
set_option maxRecDepth 100000
open Go.RowKit Av
def CpdRel (w:World) (xs:List RsE) (s3 s9:Value) (wr:World):Prop:=
 ∃ (k:Nat) (ys:List RsE),k≤xs.length∧s9=.int .i64 k∧RsAt wr w.heap.size s3 ys∧ys.map (·.r)=(xs.take k).map (·.r)∧Ext w wr
theorem fresh_owns (w:World):(w.alloc (.cells #[] strT)).ownsRow w.heap.size strT 1 (.slice (some ⟨w.heap.size,0,none⟩) 0 0) 0 []:=(Fresh0.new (k:=1) (Nat.le_refl _)).1
set_option maxHeartbeats 6400000 in
theorem copied_any (base:Nat) (v:Value) (r:RpV) (w:World) (h:RpAt w base v r) (hn:r.res.length≤1000) (hm:∀ x∈r.res,x.names.length≤100000):Calls Tryz.prog 82 #[.agg (rplA r v)] w (RpPost w r):=by
 obtain ⟨xs,hrs,hxe⟩:=h
 obtain ⟨wB,hWB⟩:∃ wB,(w.alloc (.cells (rplA r v) rplT)).alloc (.cells rpZ rplT)=wB:=⟨_,rfl⟩
 have hxB:Ext w wB:=by rw [← hWB];exact ((Kp.refl _ _).alloc _).alloc _
 have hA:Blk wB w.heap.size (rplA r v) rplT:=by
  rw [← hWB]
  exact Blk.kp (heap_alloc_new w _) ((Kp.refl (fun _=>False) _).alloc _) (fun f=>f)
 have hB:Blk wB (w.heap.size+1) rpZ rplT:=by
  rw [← hWB]
  have:=heap_alloc_new (w.alloc (.cells (rplA r v) rplT)) (.cells rpZ rplT)
  rw [World.size_alloc] at this
  exact this
 have HN:Hid (∀ x∈xs,x.r.names.length≤100000):=fun x hx=>hm _ (by rw [← hxe];exact List.mem_map.2 ⟨x,hx,rfl⟩)
 have hxl:xs.length≤1000:=by
  have:=congrArg List.length hxe
  rw [List.length_map] at this
  omega
 obtain ⟨a,c,rfl,hmx,hop⟩:=hrs.open
 have HRS:=Lib.hid hrs
 have HXE:=Lib.hid hxe
 have HOP:=Lib.hid hop
 have HA:=Lib.hid hA
 have HB:=Lib.hid hB
 have HXB:=Lib.hid hxB
 have HWB:=Lib.hid hWB
 obtain ⟨rn,rz,re,ra,rr⟩:=r
 unfold rplA at hA HWB ⊢
 simp only at hA HWB HXE ⊢
 have a4:=hA.cell 4 _ rfl
 unfold maxLen at hmx
 clear hrs hxe hop hA hB hxB hWB hn hm
 go_enter Tryz.func82,Tryz.ntmps82
 go_upto_region 1 with (fail)
 rw [HWB.out]
 go_wp2_with (fail)
 go_loopw [3,9] (fun s3 s9 wr=>CpdRel wB xs s3 s9 wr) (fun _ s9 _=>xs.length - (intOf s9).toNat)
 case atStart=>exact ⟨0,[],Nat.zero_le _,rfl,RsAt.nil _ _,rfl,Kp.refl _ _⟩
 case round=>
  obtain ⟨k,ys,hk,rfl,hys,hye,hx⟩:=hrel
  obtain ⟨ya,yc,rfl⟩:=hys.slice
  have hyl:ys.length=k:=by
   have h1:=congrArg List.length hye
   rw [List.length_map,List.length_map,List.length_take] at h1
   omega
  have HYL:=Lib.hid hyl
  have HYS:=Lib.hid hys
  have HYE:=Lib.hid hye
  have HX:=Lib.hid hx
  by_cases hlt:k<xs.length
  ·obtain ⟨g,off,rfl,hg,hcl⟩:=HOP.out (by omega)
   have hcells:=hcl k hlt
   have hnk:=HRS.out.nm _ (List.getElem_mem hlt)
   have hlk:=HN.out _ (List.getElem_mem hlt)
   have htk:(xs.take (k+1)).map (·.r)=(xs.take k).map (·.r)++[xs[k].r]:=by rw [List.take_succ_eq_append_getElem hlt,List.map_append];rfl
   generalize xs[k]=x at hcells hnk hlk htk
   obtain ⟨⟨xe,xp,xd,xn,xst⟩,xv⟩:=x
   simp only at hnk hlk htk
   obtain ⟨na,nc,rfl⟩:=hnk.slice
   have hxw:Ext w wr:=HXB.out.trans hx
   have e0:=hxw.cell (hcells 0 _ (by decide) rfl) (fun f=>f)
   have e1:=hxw.cell (hcells 1 _ (by decide) rfl) (fun f=>f)
   have e2:=hxw.cell (hcells 2 _ (by decide) rfl) (fun f=>f)
   have e3:=hxw.cell (hcells 3 _ (by decide) rfl) (fun f=>f)
   have e4:=hxw.cell (hcells 4 _ (by decide) rfl) (fun f=>f)
   have e5:=hxw.cell (hcells 5 _ (by decide) rfl) (fun f=>f)
   have e6:=hxw.cell (hcells 6 _ (by decide) rfl) (fun f=>f)
   have e7:=hxw.cell (hcells 7 _ (by decide) rfl) (fun f=>f)
   have e8:=hxw.cell (hcells 8 _ (by decide) rfl) (fun f=>f)
   have e9:=hxw.cell (hcells 9 _ (by decide) rfl) (fun f=>f)
   have e10:=hxw.cell (hcells 10 _ (by decide) rfl) (fun f=>f)
   simp only [Nat.add_zero] at e0 e1 e2 e3 e4 e5 e6 e7 e8 e9 e10
   obtain ⟨wC,hWC⟩:∃ wC,wr.alloc (.cells #[.int .i64 xe, .string xp, .string xd, .slice na xn.length nc, .int .i64 xst.made, .int .i64 xst.chg, .int .i64 xst.ver, .int .i64 xst.kids, .int .i64 xst.own, .int .i64 xst.len, .int .i64 xst.cnt] rsuT)=wC:=⟨_,rfl⟩
   have hxC:Ext wr wC:=by rw [← hWC];exact (Kp.refl _ _).alloc _
   have hC:Blk wC wr.heap.size #[.int .i64 xe, .string xp, .string xd, .slice na xn.length nc, .int .i64 xst.made, .int .i64 xst.chg, .int .i64 xst.ver, .int .i64 xst.kids, .int .i64 xst.own, .int .i64 xst.len, .int .i64 xst.cnt] rsuT:=by rw [← hWC];exact heap_alloc_new wr _
   have HWC:=Lib.hid hWC
   have HXC:=Lib.hid hxC
   have HC:=Lib.hid hC
   have HNK:=Lib.hid (hnk.extO (hxw.trans hxC))
   have HTK:=Lib.hid htk
   have hI1:(0:Int)≤(k:Int):=by omega
   have hI2:(k:Int)<(xs.length:Int):=by omega
   have HSZ:Hid (w.heap.size+2≤wr.heap.size):=by have h1:=HB.out.lt;have h2:=HX.out.size;show _≤_;omega
   clear hcl hcells hnk htk hWC hxC hC hys hye hx hyl hxw hg
   go_upto_region 5 with (fail)
   rw [HWC.out]
   clear e0 e1 e2 e3 e4 e5 e6 e7 e8 e9 e10
   have c3:=HC.out.cell 3 _ rfl
   have hcX:∀ o:Obj,(wC.alloc o).cell? ⟨wr.heap.size,3,none⟩=some (.slice na xn.length nc):=fun o=>Lib.cell?_alloc_some o c3
   have HNA:Hid (NmO (wC.alloc (.cells #[] strT)) (.slice na xn.length nc) xn):=HNK.out.extO ((Kp.refl _ _).alloc _)
   have HONS:Hid (∀ y∈xn.map encStr,y.oneCell'=true):=fun y hy=>by
    obtain ⟨q,_,rfl⟩:=List.mem_map.1 hy
    rfl
   go_wp2_with (at_builtin;refine wpList_appK 36 strT 1 (by decide) str_factsR rfl _ _ rfl wC.heap.size _ 0 [] rfl (fresh_owns wC) _ xn.length (xn.map encStr) rfl HNA.out.nms (shp_owns HNA.out) HONS.out ?c1 ?c2 ?_)
   case c1=>omega
   intro v' w' h1 k2
   obtain ⟨a4,c4,hv4⟩:=owns_slice h1
   subst hv4
   have hxD:Ext wC w':=(Kp.alloc (Kp.refl _ _) _).next k2 (fun i hi h=>by simp [Value.ownBlock] at h;omega)
   have hD:=HC.out.kp hxD (fun f=>f)
   obtain ⟨wD,hWD⟩:∃ wD,w'.setCell ⟨wr.heap.size,3,none⟩ (.slice a4 xn.length c4)=wD:=⟨_,rfl⟩
   have hkD:Kp (fun i=>i=wr.heap.size) w' wD:=by rw [← hWD];exact Kp.set1 (S:=fun i=>i=wr.heap.size) (Kp.refl _ _) _ 3 _ rfl
   have hE:Blk wD wr.heap.size (rsE ⟨⟨xe,xp,xd,xn,xst⟩, .slice a4 xn.length c4⟩).toArray rsuT:=by rw [← hWD];exact hD.set 3 _
   have hnE:NmO wD (.slice a4 xn.length c4) xn:=NmO.kpT (own_less h1 (Nat.zero_le _)) hkD (noT_blk hD (by decide))
   have hxE:Ext wr wD:=(HXC.out.trans hxD).next hkD (fun i hi e=>by omega)
   have f3:=hD.free 3
   have d3:=hD.cell 3 _ rfl
   have HE:=Lib.hid hE
   have HNE:=Lib.hid hnE
   have HXE2:=Lib.hid hxE
   have HYD:=Lib.hid (HYS.out.ext hxE)
   have HWD:=Lib.hid hWD
   have HONE:=Lib.hid (rsE_one (w:=wD) (x:=⟨⟨xe,xp,xd,xn,xst⟩, .slice a4 xn.length c4⟩) hnE)
   clear h1 k2 hxD hD hkD hE hnE hxE hWD c3 hcX HNA HONS HNK
   go_upto_region 6 with (fail)
   rw [HWD.out]
   clear f3 d3
   have hE:=HE.out
   unfold rsE at hE
   have x0:=hE.cell 0 _ rfl
   have x1:=hE.cell 1 _ rfl
   have x2:=hE.cell 2 _ rfl
   have x3:=hE.cell 3 _ rfl
   have x4:=hE.cell 4 _ rfl
   have x5:=hE.cell 5 _ rfl
   have x6:=hE.cell 6 _ rfl
   have x7:=hE.cell 7 _ rfl
   have x8:=hE.cell 8 _ rfl
   have x9:=hE.cell 9 _ rfl
   have x10:=hE.cell 10 _ rfl
   clear hE
   go_wp2_with (at_builtin;refine wpList_appK rssT rsuT 11 (by decide) rss_facts rfl _ _ rfl (wB.heap.size) _ _ _ rfl (ownsRow.ext HYD.out.row ((Kp.refl _ _).alloc _)) _ 1 (rsE ⟨⟨xe,xp,xd,xn,xst⟩, .slice a4 xn.length c4⟩) rfl (Sl.of_block (heap_alloc_new wD _) rfl (by decide) (Nat.le_refl _)) Shp.some HONE.out ?d1 ?d2 ?_)
   case d1=>have:=HYL.out;omega
   case d2=>have h1:=HX.out.size;have h2:=HXE2.out.size;simp;omega
   intro v' w' h1 k2
   obtain ⟨a5,l5,c5,hv5⟩:∃ a4 l4 c4,v'=.slice a4 l4 c4:=by obtain ⟨a4,c4,e,_⟩:=Sl.open (Sl.of_owns h1);exact ⟨_,_,_,e⟩
   subst hv5
   have hlow:∀ i,(Value.slice ya ys.length yc).ownBlock=some i→wB.heap.size≤i:=fun i hi=>(own_in HYD.out.row hi).1
   have hxF:Ext wB w':=(((HX.out.trans HXE2.out).alloc _)).next k2 (fun i hi h=>by have:=hlow _ h;omega)
   have hrF:RsAt w' (wB.heap.size) (.slice a5 l5 c5) (ys++[⟨⟨xe,xp,xd,xn,xst⟩, .slice a4 xn.length c4⟩]):=(HYD.out.ext ((Kp.refl _ _).alloc _)).snoc (HNE.out.extO ((Kp.refl _ _).alloc _)) h1 k2 (HYD.out.ext ((Kp.refl _ _).alloc _)).noStr
   have HXF:=Lib.hid hxF
   have HRF:=Lib.hid hrF
   clear h1 k2 hlow hxF hrF x0 x1 x2 x3 x4 x5 x6 x7 x8 x9 x10 HE HWD
   go_wp2_with (fail)
   go_light
   refine ⟨⟨k+1,ys++[⟨⟨xe,xp,xd,xn,xst⟩, .slice a4 xn.length c4⟩], ?_, ?_,HRF.out, ?_,HXF.out⟩, ?_⟩
   ·omega
   ·go_num
   ·rw [HTK.out,List.map_append,HYE.out];rfl
   ·simp [intOf];omega
  ·obtain rfl:k=xs.length:=by omega
   rw [List.take_length] at hye
   have hA2:=HA.out.kp hx (fun f=>f)
   have hB2:=HB.out.kp hx (fun f=>f)
   have HYE2:=Lib.hid hye
   unfold rplA at hA2
   have HA2:=Lib.hid hA2
   have HB2:=Lib.hid hB2
   obtain ⟨w3,hW3⟩:∃ w3,wr.setCell ⟨w.heap.size,4,none⟩ (.slice ya ys.length yc)=w3:=⟨_,rfl⟩
   have hk3:Kp (fun i=>i=w.heap.size) wr w3:=by rw [← hW3];exact Kp.set1 (S:=fun i=>i=w.heap.size) (Kp.refl _ _) _ 4 _ rfl
   have hA3:Blk w3 w.heap.size #[.int .i64 rn, .int .i64 rz, .int .i64 re, .int .i64 ra, .slice ya ys.length yc] rplT:=by rw [← hW3];exact hA2.set 4 _
   have hB3:=hB2.kp hk3 (by omega)
   have HB3:=Lib.hid hB3
   have HYS3:=Lib.hid (hys.kpT hk3 (noT_blk hA2 (by decide)) (noT_blk hA2 (by decide)))
   have HX3:Hid (Ext w w3):=(HXB.out.trans hx).next hk3 (fun i hi e=>by omega)
   have f4:=hA2.free 4
   have g4:=hA2.cell 4 _ rfl
   have HW3:=Lib.hid hW3
   clear hA2 hB2 hys hye hx hyl hW3 hk3
   go_upto_region 9 with (fail)
   rw [HW3.out]
   clear f4 g4
   unfold rpZ at hB3
   have x0:=hA3.cell 0 _ rfl
   have x1:=hA3.cell 1 _ rfl
   have x2:=hA3.cell 2 _ rfl
   have x3:=hA3.cell 3 _ rfl
   have x4:=hA3.cell 4 _ rfl
   have c0:=hB3.cell 0 _ rfl
   have c1:=hB3.cell 1 _ rfl
   have c2:=hB3.cell 2 _ rfl
   have c3:=hB3.cell 3 _ rfl
   have c4:=hB3.cell 4 _ rfl
   have fc0:=hB3.free 0
   have fc1:=hB3.free 1
   have fc2:=hB3.free 2
   have fc3:=hB3.free 3
   have fc4:=hB3.free 4
   clear hA3 hB3
   go_wp2_with (fail)
   go_light
   refine bodyPost_ret (v:=.agg #[.int .i64 rn, .int .i64 rz, .int .i64 re, .int .i64 ra, .slice ya ys.length yc]) (by simp [results,Tryz.results82,go_sem,c0,c1,c2,c3,c4]) rfl ?_
   have k5:=kp_set5 w3 (w.heap.size+1) (.int .i64 rn) (.int .i64 rz) (.int .i64 re) (.int .i64 ra) (.slice ya ys.length yc)
   exact ⟨.slice ya ys.length yc,rfl,⟨ys,(HYS3.out.kpT k5 (noT_blk HB3.out (by decide)) (noT_blk HB3.out (by decide))).less (by have:=HXB.out.size;omega),HYE2.out.trans HXE.out⟩,HX3.out.next k5 (fun i hi e=>by omega)⟩
end Go.Proofs.YtnlefnhdhigecaaGreatDoor

namespace Go.Proofs.YtnlefnhdhigecaaGreatDoor
set_option maxRecDepth 100000
open Go.RowKit Av
abbrev rdT:TypeId:=227
def RdrAt (w:World) (rb m:Nat) (r:RdS):Prop:=∃ (a:Option Addr) (c:Nat),Blk w rb #[.slice a r.1.length c, .bool r.2] rdT∧r.1.length≤c∧r.1.length≤1000000∧(0<r.1.length→∃ q off,a=some ⟨q,off,none⟩∧(q≠rb∧q<m)∧∀ k (hk:k<r.1.length),w.cell? ⟨q,off+k,none⟩=some (encStr r.1[k]))
theorem RdrAt.ext {w w':World} {rb m:Nat} {r:RdS} (h:RdrAt w rb m r) (k:Ext w w'):RdrAt w' rb m r:=by
 obtain ⟨a,c,h1,h2,h3,h4⟩:=h
 refine ⟨a,c,h1.kp k (fun f=>f),h2,h3,fun hn=>?_⟩
 obtain ⟨q,off,rfl,hq,hc⟩:=h4 hn
 exact ⟨q,off,rfl,hq,fun i hi=>k.cell (hc i hi) (fun f=>f)⟩
set_option maxHeartbeats 1600000 in
theorem word_any (rb m:Nat) (r:RdS) (w:World) (h:RdrAt w rb m r) :
  Calls Tryz.prog 178 #[.pointer (some ⟨rb,0,none⟩)] w fun e w'=>e=.returned (.string (bA (wordR r).1))∧RdrAt w' rb m (wordR r).2∧Kp (fun i=>i=rb) w w':=by
 obtain ⟨a,c,hb,hc,hm,hop⟩:=h
 obtain ⟨ws,bad⟩:=r
 simp only at hb hc hm hop
 cases ws with
 | nil=>
   have HB:=Lib.hid hb
   rw [List.length_nil] at hb
   have b0:=hb.cell 0 _ rfl
   have b1:=hb.cell 1 _ rfl
   have fb0:=hb.free 0
   have fb1:=hb.free 1
   clear hb hop hc hm
   go_enter Tryz.func178,Tryz.ntmps178
   go_wp2_with (fail)
   go_light
   go_ret
   exact ⟨rfl,⟨a,c,HB.out.set 1 _,Nat.zero_le _,Nat.zero_le _,fun h=>absurd h (Nat.lt_irrefl 0)⟩,(Kp.refl _ _).set1 _ 1 _ rfl⟩
 | cons s l=>
   have HB:=Lib.hid hb
   obtain ⟨q,off,rfl,hq,hcell⟩:=hop (Nat.succ_pos _)
   have HCELL:=Lib.hid hcell
   have HC:=Lib.hid hc
   have HM:=Lib.hid hm
   have c0:w.cell? ⟨q,off,none⟩=some (.string (bA s)):=hcell 0 (Nat.succ_pos _)
   rw [List.length_cons] at hb hc hm
   obtain ⟨n,hn⟩:∃ n,l.length=n:=⟨_,rfl⟩
   rw [hn] at hb hc hm
   have HN:=Lib.hid hn
   have b0:=hb.cell 0 _ rfl
   have b1:=hb.cell 1 _ rfl
   have fb0:=hb.free 0
   have fb1:=hb.free 1
   clear hb hop hcell hn
   go_enter Tryz.func178,Tryz.ntmps178
   go_wp2_with (fail)
   all_goals
    go_ret
    refine ⟨rfl, ?_,(Kp.refl _ _).set1 _ 0 _ rfl⟩
   ·rename_i hc1
    have hl0:l=[]:=List.length_eq_zero_iff.1 (by have:=HN.out;omega)
    subst hl0
    refine ⟨some ⟨q,off,none⟩,0, ?_,Nat.zero_le _,Nat.zero_le _,fun h=>absurd h (Nat.lt_irrefl 0)⟩
    show Blk _ rb #[.slice (some ⟨q,off,none⟩) (List.length ([]:List Bs)) 0, .bool bad] rdT
    rw [HN.out]
    exact HB.out.set 0 _
   ·refine ⟨some ⟨q,off+1,none⟩,c - 1, ?_, ?_, ?_,fun _=>⟨q,off+1,rfl,hq,fun k hk=>?_⟩⟩
    ·show Blk _ rb #[.slice (some ⟨q,off+1,none⟩) l.length (c - 1), .bool bad] rdT
     rw [HN.out]
     exact HB.out.set 0 _
    ·show l.length≤c - 1
     have:=HN.out
     omega
    ·show l.length≤1000000
     have:=HN.out
     omega
    ·have h1:=HCELL.out (k+1) (Nat.succ_lt_succ hk)
     rw [← Nat.add_assoc,Nat.add_right_comm] at h1
     exact ((Kp.refl (fun i=>i=rb) w).set1 rb 0 _ rfl).cell h1 hq.1
def dgs:ByteArray:=⟨#[48,49,50,51,52,53,54,55,56,57]⟩
theorem dgs_mem (c:UInt8):dgs.data.toList.contains c=digitB c:=by
 have h:∀ i:Nat,i<256→dgs.data.toList.contains (UInt8.ofNat i)=digitB (UInt8.ofNat i):=by decide +kernel
 have h2:=h c.toNat c.toNat_lt
 rwa [UInt8.ofNat_toNat] at h2
theorem Trim_any (s:ByteArray) (w:World) (hs:s.size≤1000000):Calls Tryz.prog 217 #[.string s, .string dgs] w fun e w'=>e=.returned (.string ⟨(Lib.trimS s.data.toList dgs.data.toList).toArray⟩)∧Ext w w':=
 (Any.strings_Trim_laid Tryz.laysT160 (by kernel_rfl) s dgs w (by omega) (by decide) (ascii_of_all (by decide))).mono fun e w' h=>⟨h.1,Kp.of_below h.2⟩
theorem drop_nil {p:UInt8→Bool}:∀ l:Bs,l.dropWhile p=[]↔l.all p=true
 | []=>by simp
 | c::t=>by
   rw [List.dropWhile_cons]
   split
   ·rename_i h;rw [drop_nil t];simp [h]
   ·rename_i h;simp [h]
theorem drop_all {p:UInt8→Bool}:∀ l:Bs,(l.dropWhile p).all p=true→l.dropWhile p=[]
 | [],_=>rfl
 | c::t,h=>by
   rw [List.dropWhile_cons] at h ⊢
   split at h
   ·rename_i hp;rw [if_pos hp];exact drop_all t h
   ·rename_i hp
    exfalso
    rw [List.all_cons] at h
    simp [hp] at h
theorem trim_nil (l:Bs):Lib.trimS l dgs.data.toList=[]↔l.all digitB=true:=by
 have hp:(fun c=>dgs.data.toList.contains c)=digitB:=funext dgs_mem
 unfold Lib.trimS Lib.trimLeftS Lib.trimRightS
 rw [hp,drop_nil,List.all_reverse]
 constructor
 ·intro h
  have h1:=drop_all _ h
  rw [drop_nil,List.all_reverse] at h1
  exact h1
 ·intro h
  have h1:l.reverse.dropWhile digitB=[]:=by rw [drop_nil,List.all_reverse];exact h
  rw [h1];rfl
theorem dec_all:∀ (l:Bs) (acc:Nat),l.all digitB=true→∃ m,Lib.decFrom acc l=some m
 | [],acc,_=>⟨acc,rfl⟩
 | c::t,acc,h=>by
   rw [List.all_cons,Bool.and_eq_true] at h
   have hd:Lib.digitVal c=some (c.toNat - 48):=by
    have h1:=h.1
    unfold digitB at h1
    simp only [Bool.and_eq_true,decide_eq_true_eq,UInt8.le_iff_toNat_le] at h1
    unfold Lib.digitVal
    rw [if_pos ⟨h1.1,h1.2⟩]
   unfold Lib.decFrom
   rw [hd]
   exact dec_all t _ h.2
theorem decN_all {l:Bs} (h0:l≠[]) (h:l.all digitB=true):∃ m,Lib.decNat l=some m:=by
 unfold Lib.decNat
 rw [if_neg (by simpa using h0)]
 exact dec_all l 0 h
theorem atoi_num {s:Bs} {n:Int} (h:numL s=some n):Lib.atoi s=some n∧s.length≤10:=by
 unfold numL at h
 split at h
 ·rename_i hc
  obtain ⟨h1,h2,h3⟩:=hc
  simp only [Option.some.injEq] at h
  have key:∃ x,Lib.atoi s=some x∧s.length≤10:=by
   cases s with
   | nil=>simp [restN] at h1
   | cons b r=>
     by_cases hb:b=45
     ·subst hb
      have hr:restN (45::r)=r:=by unfold restN;simp
      rw [hr] at h1 h2 h3
      obtain ⟨m,hm⟩:=decN_all (by intro e;subst e;simp at h1) h3
      refine ⟨-(m:Int), ?_,by rw [List.length_cons];omega⟩
      show (Lib.decNat r).map (fun (m:Nat)=>-(m:Int))=_
      rw [hm];rfl
     ·have hr:restN (b::r)=b::r:=by unfold restN;simp [hb]
      rw [hr] at h1 h2 h3
      obtain ⟨m,hm⟩:=decN_all (by simp) h3
      have h43:b≠43:=by
       rintro rfl
       rw [List.all_cons,Bool.and_eq_true] at h3
       exact absurd h3.1 (by decide)
      refine ⟨(m:Int), ?_,by omega⟩
      show (if (b == 45)=true then _ else if (b == 43)=true then _ else (Lib.decNat (b::r)).map (fun (m:Nat)=>(m:Int)))=_
      rw [if_neg (by simpa using hb),if_neg (by simpa using h43),hm];rfl
  obtain ⟨x,hx,hl⟩:=key
  rw [hx] at h
  exact ⟨by rw [hx];exact congrArg some h,hl⟩
 ·cases h
theorem CutMinus_any (s:ByteArray) (w:World):Calls Tryz.prog 120 #[.string s, .string ⟨#[45]⟩] w fun e w'=>e=.returned (.tuple #[.string (bA (restN s.data.toList)), .bool (decide (s.data.toList.head? = some 45))])∧w=w':=by
 refine (Tryz.strings_CutPrefix s ⟨#[45]⟩ w).mono ?_
 rintro e w' ⟨rfl,rfl⟩
 refine ⟨?_,rfl⟩
 unfold restN bA Lib.trimPrefix
 cases hl:s.data.toList with
 | nil=>rfl
 | cons c t=>
   by_cases hc:c=45
   ·subst hc;simp [Lib.hasPrefix]
   ·have h1:Lib.hasPrefix (c::t) [45]=false:=by simp [Lib.hasPrefix,List.isPrefixOf,Ne.symm hc]
    simp [h1,hc]
theorem bytes_ext (w:World) (e:TypeId) (t:ByteArray):Ext w (Lib.bytesWorld w e t):=
 ⟨rfl,rfl,rfl,by rw [Lib.bytesWorld_size];omega,fun k hk _=>Lib.bytesWorld_at_old w e t k hk⟩
theorem bA_size (l:Bs):(bA l).size=l.length:=by rw [Lib.size_eq];rfl
set_option maxHeartbeats 3200000 in
theorem number_any (rb m:Nat) (r:RdS) (w:World) (h:RdrAt w rb m r) (hs:∀ s∈r.1,s.length≤100000) :
  Calls Tryz.prog 179 #[.pointer (some ⟨rb,0,none⟩), .bool true] w fun e w'=>e=.returned (.int .i64 (numR r).1)∧RdrAt w' rb m (numR r).2∧Kp (fun i=>i=rb) w w':=by
 have HW:=Lib.hid (word_any rb m r w h)
 have hsz:(wordR r).1.length≤100000:=by
  unfold wordR
  split
  ·exact Nat.zero_le _
  ·rename_i s l he;exact hs s (by rw [he];simp)
 obtain ⟨⟨x,r2⟩,hx⟩:∃ X,wordR r=X:=⟨_,rfl⟩
 rw [hx] at HW hsz
 have hnum:numR r=match numL x with|none=>(0,(r2.1,true))|some n=>(n,r2):=by unfold numR;rw [hx];rfl
 simp only at HW hsz
 obtain ⟨y,hy⟩:∃ y,restN x=y:=⟨_,rfl⟩
 have hyl:y.length≤x.length:=by
  rw [← hy]
  unfold restN
  split
  ·rw [List.length_tail];omega
  ·exact Nat.le_refl _
 have hyn:y.length≤100000:=by omega
 have hcut:Hid (∀ W,Calls Tryz.prog 120 #[.string (bA x), .string ⟨#[45]⟩] W fun e w'=>e=.returned (.tuple #[.string (bA y), .bool (decide (x.head? = some 45))])∧W=w'):=by
  intro W
  have:=CutMinus_any (bA x) W
  rw [show restN (bA x).data.toList=y from hy] at this
  exact this
 have HTRIM:Hid (∀ W,Calls Tryz.prog 217 #[.string (bA y), .string dgs] W fun e w'=>e=.returned (.string (bA (Lib.trimS y dgs.data.toList)))∧Ext W w'):=fun W=>Trim_any (bA y) W (by rw [bA_size];omega)
 have hbs:=bA_size y
 have HBAD:Hid (∀ W,RdrAt W rb m r2→RdrAt (W.setCell ⟨rb,1,none⟩ (.bool true)) rb m (r2.1,true)∧∃ v,W.cell? ⟨rb,1,none⟩=some v∧W.frozen? ⟨rb,1,none⟩=false):=by
  rintro W ⟨a,c,h1,h2,h3,h4⟩
  refine ⟨⟨a,c,h1.set 1 _,h2,h3,fun hn=>?_⟩,_,h1.cell 1 _ rfl,h1.free 1⟩
  obtain ⟨q,off,rfl,hq,hc⟩:=h4 hn
  exact ⟨q,off,rfl,hq,fun k hk=>((Kp.refl (fun i=>i=rb) W).set1 rb 1 _ rfl).cell (hc k hk) hq.1⟩
 have HY:=Lib.hid hy
 obtain ⟨bl,hbl⟩:∃ b,decide (x.head? = some 45)=b:=⟨_,rfl⟩
 rw [hbl] at hcut
 clear h hs hsz hx hyl hbl hy
 have HCUT:=hcut
 clear hcut
 cases hn:numL x with
 | none=>
   rw [hn] at hnum
   rw [hnum]
   have hno:y.length<1∨9<y.length∨¬ y.all digitB=true:=by
    unfold numL at hn
    rw [HY.out] at hn
    split at hn
    ·cases hn
    ·rename_i hc
     by_cases d1:y.length<1
     ·exact .inl d1
     ·by_cases d2:9<y.length
      ·exact .inr (.inl d2)
      ·exact .inr (.inr fun h=>hc ⟨by omega,by omega,h⟩)
   clear hn hnum
   by_cases c1:y.length<1
   ·have c1':((bA y).size:Int)<1:=by omega
    clear hno
    go_enter Tryz.func179,Tryz.ntmps179
    go_wp2_with (fail)
    refine HW.out.mono ?_
    rintro e w1 ⟨rfl,h1,hk1⟩
    have H1:=Lib.hid h1
    have HK1:=Lib.hid hk1
    clear h1 hk1 HW
    go_wp2_with (fail)
    refine (HCUT.out w1).mono ?_
    rintro e w2 ⟨rfl,rfl⟩
    clear HCUT
    obtain ⟨hq1,v,hq2,hq3⟩:=HBAD.out w1 H1.out
    have HQ:=Lib.hid hq1
    clear hq1
    go_wp2_with (fail)
    all_goals
     go_ret
     exact ⟨rfl,HQ.out,HK1.out.set1 rb 1 _ rfl⟩
   ·by_cases c2:9<y.length
    ·have c1':¬ ((bA y).size:Int)<1:=by omega
     have c2':(9:Int)<((bA y).size:Int):=by omega
     clear hno
     go_enter Tryz.func179,Tryz.ntmps179
     go_wp2_with (fail)
     refine HW.out.mono ?_
     rintro e w1 ⟨rfl,h1,hk1⟩
     have H1:=Lib.hid h1
     have HK1:=Lib.hid hk1
     clear h1 hk1 HW
     go_wp2_with (fail)
     refine (HCUT.out w1).mono ?_
     rintro e w2 ⟨rfl,rfl⟩
     clear HCUT
     obtain ⟨hq1,v,hq2,hq3⟩:=HBAD.out w1 H1.out
     have HQ:=Lib.hid hq1
     clear hq1
     go_wp2_with (fail)
     all_goals
      go_ret
      exact ⟨rfl,HQ.out,HK1.out.set1 rb 1 _ rfl⟩
    ·have hnd:¬ y.all digitB=true:=by
      rcases hno with h|h|h
      ·omega
      ·omega
      ·exact h
     have c1':¬ ((bA y).size:Int)<1:=by omega
     have c2':¬ (9:Int)<((bA y).size:Int):=by omega
     obtain ⟨T,hT⟩:∃ T,Lib.trimS y dgs.data.toList=T:=⟨_,rfl⟩
     have hTn:T≠[]:=by rw [← hT];exact fun h=>hnd ((trim_nil y).1 h)
     rw [hT] at HTRIM
     have hne:(bA T).toList.isEmpty=false:=by
      rw [Lib.toList_data]
      cases T with
      | nil=>exact absurd rfl hTn
      | cons _ _=>rfl
     clear hno hnd hT hTn
     go_enter Tryz.func179,Tryz.ntmps179
     go_wp2_with (fail)
     refine HW.out.mono ?_
     rintro e w1 ⟨rfl,h1,hk1⟩
     have H1:=Lib.hid h1
     have HK1:=Lib.hid hk1
     clear h1 hk1 HW
     go_wp2_with (fail)
     refine (HCUT.out w1).mono ?_
     rintro e w2 ⟨rfl,rfl⟩
     clear HCUT
     go_wp2_with (fail)
     all_goals
      refine (HTRIM.out w1).mono ?_
      rintro e w3 ⟨rfl,hx3⟩
      have HX3:=Lib.hid hx3
      obtain ⟨hq1,v,hq2,hq3⟩:=HBAD.out w3 (H1.out.ext hx3)
      have HQ:=Lib.hid hq1
      clear hq1 hx3
      go_wp2_with (fail)
      go_ret
      exact ⟨rfl,HQ.out,(HK1.out.next HX3.out (fun _ _ f=>f.elim)).set1 rb 1 _ rfl⟩
 | some n=>
   have hat:=atoi_num hn
   rw [hn] at hnum
   rw [hnum]
   have hyes:1≤y.length∧y.length≤9∧y.all digitB=true:=by
    unfold numL at hn
    rw [HY.out] at hn
    split at hn
    ·rename_i hc;exact hc
    ·cases hn
   have c1':¬ ((bA y).size:Int)<1:=by omega
   have c2':¬ (9:Int)<((bA y).size:Int):=by omega
   have hT:=(trim_nil y).2 hyes.2.2
   rw [hT] at HTRIM
   have HAT:Hid (∀ W,Calls Tryz.prog 218 #[.string (bA x)] W fun e w'=>e=.returned (.tuple #[.int .i64 n, .nilIface])∧Ext W w'):=fun W=>(Tryz.strconv_Atoi (bA x) n (by rw [bA_size];omega) hat.1 W).mono fun e w' h=>⟨h.1,by obtain ⟨_,t,rfl⟩:=h;exact bytes_ext W _ t⟩
   have he0:(bA []).toList.isEmpty=true:=by rw [Lib.toList_data];rfl
   clear hn hnum hyes hT hat
   go_enter Tryz.func179,Tryz.ntmps179
   go_wp2_with (fail)
   refine HW.out.mono ?_
   rintro e w1 ⟨rfl,h1,hk1⟩
   have H1:=Lib.hid h1
   have HK1:=Lib.hid hk1
   clear h1 hk1 HW
   go_wp2_with (fail)
   refine (HCUT.out w1).mono ?_
   rintro e w2 ⟨rfl,rfl⟩
   clear HCUT
   go_wp2_with (fail)
   all_goals
    refine (HTRIM.out w1).mono ?_
    rintro e w3 ⟨rfl,hx3⟩
    have HX3:=Lib.hid hx3
    clear hx3
    go_wp2_with (fail)
    refine (HAT.out w3).mono ?_
    rintro e w4 ⟨rfl,hx4⟩
    have HX4:=Lib.hid (HX3.out.trans hx4)
    clear hx4
    go_wp2_with (fail)
    go_ret
    exact ⟨rfl,H1.out.ext HX4.out,HK1.out.next HX4.out (fun _ _ f=>f.elim)⟩
end Go.Proofs.YtnlefnhdhigecaaGreatDoor

namespace Go.Proofs.YtnlefnhdhigecaaGreatDoor
set_option maxRecDepth 100000
open Go.RowKit Av
theorem bA_beq (x l:Bs):((bA x).toList == l)=decide (x=l):=by
 rw [Lib.toList_data,Bool.eq_iff_iff]
 show (x == l)=true↔_
 simp
def SmR (r:RdS):Prop:=∀ s∈r.1,s.length≤100000
theorem SmR.word {r:RdS} (h:SmR r):SmR (wordR r).2∧(wordR r).1.length≤100000:=by
 unfold wordR
 split
 ·exact ⟨fun s hs=>(nomatch hs),Nat.zero_le _⟩
 ·rename_i s l he
  exact ⟨fun x hx=>h x (by rw [he];exact List.mem_cons_of_mem _ hx),h s (by rw [he];simp)⟩
theorem SmR.num {r:RdS} (h:SmR r):SmR (numR r).2:=by
 unfold numR
 split
 ·exact h.word.1
 ·exact h.word.1
theorem SmR.part {r:RdS} (h:SmR r):SmR (partR r).2∧(partR r).1.length≤100000:=⟨h.word.1,h.word.2⟩
theorem SmR.data {r:RdS} (h:SmR r):SmR (dataR r).2∧(dataR r).1.length≤100000:=by
 refine ⟨h.part.1, ?_⟩
 unfold dataR
 simp only
 split
 ·exact Nat.zero_le _
 ·exact h.part.2
theorem RdrAt.flag {W:World} {rb m:Nat} {r:RdS} (h:RdrAt W rb m r) (b:Bool):RdrAt (W.setCell ⟨rb,1,none⟩ (.bool b)) rb m (r.1,b):=by
 obtain ⟨a,c,h1,h2,h3,h4⟩:=h
 refine ⟨a,c,h1.set 1 _,h2,h3,fun hn=>?_⟩
 obtain ⟨q,off,rfl,hq,hc⟩:=h4 hn
 exact ⟨q,off,rfl,hq,fun k hk=>((Kp.refl (fun i=>i=rb) W).set1 rb 1 _ rfl).cell (hc k hk) hq.1⟩
theorem RdrAt.off {W W':World} {rb m b:Nat} {r:RdS} (h:RdrAt W rb m r) (k:Kp (fun i=>i=b) W W') (hb:b≠rb) (hm:m≤b):RdrAt W' rb m r:=by
 obtain ⟨a,c,h1,h2,h3,h4⟩:=h
 refine ⟨a,c,h1.kp k (fun e=>hb e.symm),h2,h3,fun hn=>?_⟩
 obtain ⟨q,off,rfl,hq,hc⟩:=h4 hn
 exact ⟨q,off,rfl,hq,fun i hi=>k.cell (hc i hi) (fun e=>by have e2:q=b:=e;omega)⟩
theorem RdrAt.cells {W:World} {rb m:Nat} {r:RdS} (h:RdrAt W rb m r):∃ a c,W.cell? ⟨rb,0,none⟩=some (.slice a r.1.length c)∧W.cell? ⟨rb,1,none⟩=some (.bool r.2)∧W.frozen? ⟨rb,1,none⟩=false∧rb<W.heap.size:=by
 obtain ⟨a,c,h1,_⟩:=h
 exact ⟨a,c,h1.cell 0 _ rfl,h1.cell 1 _ rfl,h1.free 1,h1.lt⟩
set_option maxHeartbeats 1600000 in
theorem part_any (rb m:Nat) (r:RdS) (w:World) (h:RdrAt w rb m r) :
  Calls Tryz.prog 263 #[.pointer (some ⟨rb,0,none⟩)] w fun e w'=>e=.returned (.string (bA (partR r).1))∧RdrAt w' rb m (partR r).2∧Kp (fun i=>i=rb) w w':=by
 have HW:=Lib.hid (word_any rb m r w h)
 have hp:partR r=((wordR r).1,((wordR r).2.1,(wordR r).2.2||decide ((wordR r).1=[43]))):=rfl
 rw [hp]
 obtain ⟨⟨x,ws,b⟩,hx⟩:∃ X,wordR r=X:=⟨_,rfl⟩
 rw [hx] at HW ⊢
 simp only at HW ⊢
 clear h hp hx
 by_cases hb:b=true
 ·subst hb
  rw [Bool.true_or]
  go_enter Tryz.func263,Tryz.ntmps263
  go_wp2_with (fail)
  refine HW.out.mono ?_
  rintro e w1 ⟨rfl,h1,hk1⟩
  have H1:=Lib.hid h1
  have HK1:=Lib.hid hk1
  obtain ⟨a,c,c0,c1,f1,_⟩:=h1.cells
  simp only at c0 c1
  clear h1 hk1 HW
  go_wp2_with (fail)
  go_ret
  exact ⟨rfl,H1.out.flag true,HK1.out.set1 rb 1 _ rfl⟩
 ·have hb:b=false:=by cases b<;>simp_all
  subst hb
  rw [Bool.false_or]
  by_cases he:x=[43]
  ·subst he
   rw [decide_eq_true rfl]
   go_enter Tryz.func263,Tryz.ntmps263
   go_wp2_with (fail)
   refine HW.out.mono ?_
   rintro e w1 ⟨rfl,h1,hk1⟩
   have H1:=Lib.hid h1
   have HK1:=Lib.hid hk1
   obtain ⟨a,c,c0,c1,f1,_⟩:=h1.cells
   simp only at c0 c1
   have he2:bA [43]=⟨#[43]⟩:=rfl
   clear h1 hk1 HW
   go_wp2_with (fail)
   go_ret
   exact ⟨rfl,H1.out.flag true,HK1.out.set1 rb 1 _ rfl⟩
  ·rw [decide_eq_false he]
   go_enter Tryz.func263,Tryz.ntmps263
   go_wp2_with (fail)
   refine HW.out.mono ?_
   rintro e w1 ⟨rfl,h1,hk1⟩
   have H1:=Lib.hid h1
   have HK1:=Lib.hid hk1
   obtain ⟨a,c,c0,c1,f1,_⟩:=h1.cells
   simp only at c0 c1
   have he2:((bA x).toList == [43])=false:=by rw [bA_beq,decide_eq_false he]
   clear h1 hk1 HW
   go_wp2_with (fail)
   go_ret
   exact ⟨rfl,H1.out.flag false,HK1.out.set1 rb 1 _ rfl⟩
set_option maxHeartbeats 1600000 in
theorem data_any (rb m:Nat) (r:RdS) (w:World) (h:RdrAt w rb m r) :
  Calls Tryz.prog 264 #[.pointer (some ⟨rb,0,none⟩)] w fun e w'=>e=.returned (.string (bA (dataR r).1))∧RdrAt w' rb m (dataR r).2∧Kp (fun i=>i=rb) w w':=by
 have HW:=Lib.hid (part_any rb m r w h)
 have hp:dataR r=(if (partR r).1=[45] then [] else (partR r).1,(partR r).2):=rfl
 rw [hp]
 obtain ⟨⟨x,r2⟩,hx⟩:∃ X,partR r=X:=⟨_,rfl⟩
 rw [hx] at HW ⊢
 simp only at HW ⊢
 clear h hp hx
 by_cases he:x=[45]
 ·subst he
  rw [if_pos rfl]
  go_enter Tryz.func264,Tryz.ntmps264
  go_wp2_with (fail)
  refine HW.out.mono ?_
  rintro e w1 ⟨rfl,h1,hk1⟩
  have H1:=Lib.hid h1
  have HK1:=Lib.hid hk1
  have he2:bA [45]=⟨#[45]⟩:=rfl
  clear h1 hk1 HW
  go_wp2_with (fail)
  go_ret
  exact ⟨rfl,H1.out,HK1.out⟩
 ·rw [if_neg he]
  go_enter Tryz.func264,Tryz.ntmps264
  go_wp2_with (fail)
  refine HW.out.mono ?_
  rintro e w1 ⟨rfl,h1,hk1⟩
  have H1:=Lib.hid h1
  have HK1:=Lib.hid hk1
  have he2:((bA x).toList == [45])=false:=by rw [bA_beq,decide_eq_false he]
  clear h1 hk1 HW
  go_wp2_with (fail)
  go_ret
  exact ⟨rfl,H1.out,HK1.out⟩
end Go.Proofs.YtnlefnhdhigecaaGreatDoor

namespace Go.Proofs.YtnlefnhdhigecaaGreatDoor
set_option maxRecDepth 100000
open Go.RowKit Av
structure AskedS (g:Nat) (lb:Array Value) (p:SeV→Bool) (S0:Nat→Prop) (base rb:Nat) (Inv:List SeV→Option Nat→World→Prop):Prop where
 eg:∀ args w,(callFunc g args).run Tryz.prog w=.ok (.enter g args) w
 call:∀ seen cur x W,seen.length<100000→Inv seen cur W→Calls Tryz.prog g (#[.agg (scell x).toArray]++lb) W fun e w'=>e=.returned (.bool (p x))∧∃ cur',Inv (seen++[x]) cur' w'∧Kp (fun i=>S0 i∨cur=some i) W w'
 kp:∀ seen cur W W',Inv seen cur W→Kp (fun i=>i=rb) W W'→Inv seen cur W'
 cur:∀ seen cur W i,Inv seen cur W→cur=some i→base≤i∧i<W.heap.size∧i≠rb
 s0:∀ i,S0 i→i≠rb∧i<base
def FoundS (p:SeV→Bool) (Inv:List SeV→Option Nat→World→Prop) (xs:List SeV) (e:Ending) (w':World):Prop:=
 (e=.returned (.int .i64 (-1))∧(∀ x∈xs,p x=false)∧∃ cur,Inv xs cur w')∨∃ k:Nat,∃ hk:k<xs.length,e=.returned (.int .i64 k)∧(∀ x∈xs.take k,p x=false)∧p xs[k]=true∧∃ cur,Inv (xs.take (k+1)) cur w'
def IFRelS (p:SeV→Bool) (S0:Nat→Prop) (base:Nat) (Inv:List SeV→Option Nat→World→Prop) (xs:List SeV) (w:World) (i:Value) (wr:World):Prop:=
 ∃ k:Nat,k≤xs.length∧i=.int .i64 k∧(∀ x∈xs.take k,p x=false)∧(∃ cur,Inv (xs.take k) cur wr)∧Kp (fun i=>S0 i∨base≤i) w wr
set_option maxHeartbeats 1600000 in
theorem indexFuncS_any {g:Nat} {lb:Array Value} {p:SeV→Bool} {S0:Nat→Prop} {base rb:Nat} {Inv:List SeV→Option Nat→World→Prop} (hA:AskedS g lb p S0 base rb Inv) (ad:Option Addr) (xs:List SeV) (cap:Nat) (w:World)
  (had:xs≠[]→ad=some ⟨rb,0,none⟩∧rb<base∧RowB w rb 206 3 cap (xs.flatMap scell)) (hm:xs.length≤100000) (h0:∃ cur,Inv [] cur w) :
  Calls Tryz.prog 168 #[.slice ad xs.length cap, .func (.func g) #[] lb] w fun e w'=>FoundS p Inv xs e w'∧Kp (fun i=>S0 i∨base≤i) w w':=by
 have eg:=hA.eg
 have HAD:=Lib.hid had
 have H0:=Lib.hid h0
 have HA:=Lib.hid hA
 clear had h0 hA
 go_enter Tryz.func168,Tryz.ntmps168
 go_wp2_with (fail)
 go_loopw [8] (fun i wr=>IFRelS p S0 base Inv xs w i wr) (fun i _=>xs.length - (intOf i).toNat)
 case atStart=>exact ⟨0,Nat.zero_le _,rfl,by simp,by simpa using H0.out,Kp.refl _ _⟩
 case round=>
  obtain ⟨k,hk,rfl,hall,⟨cur,hinv⟩,hkp⟩:=hrel
  have HALL:=Lib.hid hall
  have HK:=Lib.hid hkp
  have HI:=Lib.hid hinv
  clear hall hkp hinv
  by_cases hlt:k<xs.length
  ·have hne:xs≠[]:=by rintro rfl;simp at hlt
   obtain ⟨rfl,hrb,hrow⟩:=HAD.out hne
   have hrow2:RowB wr rb 206 3 cap (xs.flatMap scell):=hrow.kp HK.out (fun f=>Or.elim f (fun h=>(HA.out.s0 rb h).1 rfl) (fun h=>by omega))
   have c0:=hrow2.cell (i:=k*3) (v:=.int .i64 xs[k].id) (rowK_cell scell 3 (fun _=>rfl) xs k hlt 0 (by decide))
   have c1:=hrow2.cell (i:=k*3+1) (v:=.int .i64 xs[k].span) (rowK_cell scell 3 (fun _=>rfl) xs k hlt 1 (by decide))
   have c2:=hrow2.cell (i:=k*3+2) (v:=.int .i64 xs[k].till) (rowK_cell scell 3 (fun _=>rfl) xs k hlt 2 (by decide))
   have HC:=Lib.hid (HA.out.call (xs.take k) cur xs[k] wr (by rw [List.length_take];omega) HI.out)
   have HCUR:=Lib.hid (HA.out.cur (xs.take k) cur wr)
   have hcon:Calls Tryz.prog g (#[.agg #[.int .i64 xs[k].id, .int .i64 xs[k].span, .int .i64 xs[k].till]]++lb) wr fun e w'=>e=.returned (.bool (p xs[k]))∧∃ cur',Inv (xs.take (k+1)) cur' w'∧Kp (fun i=>S0 i∨base≤i) w w':=by
    refine HC.out.mono ?_
    rintro e w' ⟨rfl,cur',h1,h2⟩
    refine ⟨rfl,cur',by rw [List.take_succ_eq_append_getElem hlt];exact h1,HK.out.next h2 ?_⟩
    rintro i hi (h|h)
    ·exact .inl h
    ·exact .inr (HCUR.out i HI.out h).1
   have HCON:=Lib.hid hcon
   clear hcon hrow hrow2 hrb HC HCUR
   cases hp:p xs[k] with
   | true=>
     have HP:=Lib.hid hp
     rw [hp] at HCON
     clear hp
     go_wp2_with (go_at_fn g;refine HCON.out.mono ?_;rintro e w1 ⟨rfl,cur',h1,h2⟩;have H1:=Lib.hid h1;have H2:=Lib.hid h2;clear h1 h2)
     go_ret
     go_light
     exact ⟨.inr ⟨k,hlt,rfl,HALL.out,HP.out,cur',H1.out⟩,H2.out⟩
   | false=>
     have HP:=Lib.hid hp
     rw [hp] at HCON
     clear hp
     go_wp2_with (go_at_fn g;refine HCON.out.mono ?_;rintro e w1 ⟨rfl,cur',h1,h2⟩;have H1:=Lib.hid h1;have H2:=Lib.hid h2;clear h1 h2)
     go_light
     refine ⟨⟨k+1,by omega,by go_num,fun x hx=>?_,⟨cur',H1.out⟩,H2.out⟩,by simp [intOf];omega⟩
     rw [List.take_succ_eq_append_getElem hlt] at hx
     rcases List.mem_append.1 hx with hx|hx
     ·exact HALL.out x hx
     ·simp only [List.mem_singleton] at hx;subst hx;exact HP.out
  ·have e1:xs.take k=xs:=List.take_of_length_le (by omega)
   rw [e1] at HALL HI
   clear e1 HAD
   go_wp2_with (fail)
   go_ret
   go_light
   exact ⟨.inl ⟨rfl,HALL.out,cur,HI.out⟩,HK.out⟩
end Go.Proofs.YtnlefnhdhigecaaGreatDoor

