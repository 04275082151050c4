/- Texts put together: AvRepA, AvMulA. -/
import Derived.Test.YtnlefnhdhigecaaGreatDoorAvG12
import Derived.Test.YtnlefnhdhigecaaGreatDoorAvG16
import Derived.Test.YtnlefnhdhigecaaGreatDoorAvG10
import Derived.Test.YtnlefnhdhigecaaGreatDoorAvG15
import Derived.Test.YtnlefnhdhigecaaGreatDoorAvG8
namespace Go.Proofs.YtnlefnhdhigecaaGreatDoor
set_option maxRecDepth 100000
open Go.RowKit Av
abbrev rssT:TypeId:=65
abbrev rplT:TypeId:=67
theorem rss_facts:ElemOk Tryz.prog rssT rsuT 11:=⟨by kernel_rfl,by kernel_rfl⟩
structure RsE where
 r:Rp
 nv:Value
def rsE (x:RsE):List Value:=[.int .i64 x.r.err, .string x.r.path, .string x.r.data,x.nv, .int .i64 x.r.st.made, .int .i64 x.r.st.chg, .int .i64 x.r.st.ver, .int .i64 x.r.st.kids, .int .i64 x.r.st.own, .int .i64 x.r.st.len, .int .i64 x.r.st.cnt]
theorem rsE_len (x:RsE):(rsE x).length=11:=rfl
theorem NmO.slice {w:World} {v:Value} {l:List Bs} (h:NmO w v l):∃ a c,v=.slice a l.length c:=owns_slice h
theorem NmO.extO {w w':World} {v:Value} {l:List Bs} (h:NmO w v l) (k:Ext w w'):NmO w' v l:=ownsRow.ext h k
theorem NmO.kpT {S:Nat→Prop} {w w':World} {v:Value} {l:List Bs} (h:NmO w v l) (k:Kp S w w') (hs:NoT w S strT):NmO w' v l:=owns_kpT h k hs
theorem rsE_one {w:World} {x:RsE} (h:NmO w x.nv x.r.names):∀ y∈rsE x,y.oneCell'=true:=by
 obtain ⟨a,c,e⟩:=h.slice
 intro y hy
 simp only [rsE,e,List.mem_cons,List.not_mem_nil,or_false] at hy
 rcases hy with rfl|rfl|rfl|rfl|rfl|rfl|rfl|rfl|rfl|rfl|rfl<;>rfl
structure RsAt (w:World) (base:Nat) (v:Value) (xs:List RsE):Prop where
 row:w.ownsRow base rsuT 11 v xs.length (xs.flatMap rsE)
 nm:∀ x∈xs,NmO w x.nv x.r.names
theorem RsAt.nil (w:World) (base:Nat):RsAt w base (.slice none 0 0) []:=⟨⟨rfl, .inl ⟨rfl,rfl⟩⟩,fun _ h=>by cases h⟩
theorem RsAt.ext {w w':World} {base:Nat} {v:Value} {xs:List RsE} (h:RsAt w base v xs) (k:Ext w w'):RsAt w' base v xs:=⟨ownsRow.ext h.row k,fun x hx=>(h.nm x hx).extO k⟩
theorem RsAt.kpT {S:Nat→Prop} {w w':World} {base:Nat} {v:Value} {xs:List RsE} (h:RsAt w base v xs) (k:Kp S w w') (h1:NoT w S rsuT) (h2:NoT w S strT):RsAt w' base v xs:=⟨owns_kpT h.row k h1,fun x hx=>(h.nm x hx).kpT k h2⟩
theorem RsAt.less {w:World} {base base':Nat} {v:Value} {xs:List RsE} (h:RsAt w base v xs) (hb:base'≤base):RsAt w base' v xs:=⟨own_less h.row hb,h.nm⟩
theorem RsAt.slice {w:World} {base:Nat} {v:Value} {xs:List RsE} (h:RsAt w base v xs):∃ a c,v=.slice a xs.length c:=owns_slice h.row
theorem RsAt.snoc {S:Nat→Prop} {w w':World} {base:Nat} {v v':Value} {xs:List RsE} {x:RsE} (h:RsAt w base v xs) (hx:NmO w x.nv x.r.names) (h1:w'.ownsRow base rsuT 11 v' (xs.length+1) (xs.flatMap rsE++rsE x)) (k:Kp S w w') (h2:NoT w S strT):RsAt w' base v' (xs++[x]):=by
 refine ⟨?_,fun y hy=>?_⟩
 ·rw [flatMap_snoc,List.length_append];exact h1
 ·rcases List.mem_append.1 hy with hy|hy
  ·exact (h.nm y hy).kpT k h2
  ·simp only [List.mem_singleton] at hy
   subst hy
   exact hx.kpT k h2
theorem RsAt.open {w:World} {base:Nat} {v:Value} {xs:List RsE} (h:RsAt w base v xs):∃ a c,v=.slice a xs.length c∧xs.length≤maxLen∧(0<xs.length→∃ b off,a=some ⟨b,off,none⟩∧b<w.heap.size∧∀ k (hk:k<xs.length) i u,i<11→(rsE xs[k])[i]? = some u→w.cell? ⟨b,off+k*11+i,none⟩=some u):=by
 obtain ⟨a,c,e,_,hm,hop⟩:=Sl.rows (f:=rsE) (K:=11) rsE_len (Sl.of_owns h.row)
 refine ⟨a,c,e,hm,fun h0=>?_⟩
 obtain ⟨b,off,e2,hb,hc⟩:=hop h0
 exact ⟨b,off,e2,hb,hc⟩
theorem RsAt.noStr {w:World} {base:Nat} {v:Value} {xs:List RsE} (h:RsAt w base v xs):NoT w (fun i=>v.ownBlock=some i) strT:=fun i hi cur f hc=>by
 obtain ⟨cur2,f2,h2⟩:=own_type h.row hi
 rw [h2] at hc
 simp only [Option.some.injEq,Obj.cells.injEq] at hc
 exact absurd hc.2.1 (by decide)
def rplA (r:RpV) (v:Value):Array Value:=#[.int .i64 r.num, .int .i64 r.zxid, .int .i64 r.err, .int .i64 r.at_,v]
def RpAt (w:World) (base:Nat) (v:Value) (r:RpV):Prop:=∃ xs,RsAt w base v xs∧xs.map (·.r)=r.res
theorem RpAt.ext {w w':World} {base:Nat} {v:Value} {r:RpV} (h:RpAt w base v r) (k:Ext w w'):RpAt w' base v r:=by
 obtain ⟨xs,h1,h2⟩:=h
 exact ⟨xs,h1.ext k,h2⟩
theorem RpAt.kpT {S:Nat→Prop} {w w':World} {base:Nat} {v:Value} {r:RpV} (h:RpAt w base v r) (k:Kp S w w') (h1:NoT w S rsuT) (h2:NoT w S strT):RpAt w' base v r:=by
 obtain ⟨xs,h3,h4⟩:=h
 exact ⟨xs,h3.kpT k h1 h2,h4⟩
theorem RpAt.less {w:World} {base base':Nat} {v:Value} {r:RpV} (h:RpAt w base v r) (hb:base'≤base):RpAt w base' v r:=by
 obtain ⟨xs,h3,h4⟩:=h
 exact ⟨xs,h3.less hb,h4⟩
def RpPost (w:World) (r:RpV) (e:Ending) (w':World):Prop:=∃ v,e=.returned (.agg (rplA r v))∧RpAt w' w.heap.size v r∧Ext w w'
theorem kp_set5 (w:World) (r:Nat) (u0 u1 u2 u3 u4:Value):Kp (fun i=>i=r) w (((((w.setCell ⟨r,0,none⟩ u0).setCell ⟨r,1,none⟩ u1).setCell ⟨r,2,none⟩ u2).setCell ⟨r,3,none⟩ u3).setCell ⟨r,4,none⟩ u4):=by
 have k:∀ {W:World} (i:Nat) (u:Value),Kp (fun i=>i=r) w W→Kp (fun i=>i=r) w (W.setCell ⟨r,i,none⟩ u):=fun i u h=>h.set1 r i u rfl
 exact k 4 u4 (k 3 u3 (k 2 u2 (k 1 u1 (k 0 u0 (Kp.refl _ _)))))
theorem noT_blk {w:World} {r:Nat} {A:Array Value} {T T':TypeId} (h:Blk w r A T) (hT:T≠T'):NoT w (fun i=>i=r) T':=fun i hi cur f hc=>by
 have e:i=r:=hi
 subst e
 have h1:w.heap[i]? = some (.cells A T (0,0)):=h
 rw [h1] at hc
 simp only [Option.some.injEq,Obj.cells.injEq] at hc
 exact hT hc.2.1
theorem failRs_snoc (e at_:Int) (k:Nat):failRs e at_ (k+1)=failRs e at_ k++[failR (if (k:Int)=at_ then e else 14)]:=by
 unfold failRs
 rw [List.range_succ,List.map_append]
 rfl
def FailRel (w:World) (num e at_:Int) (n:Nat) (s24:Value) (wr:World):Prop:=
 ∃ (k:Nat) (v:Value) (xs:List RsE),k≤n∧s24=.int .i64 k∧Blk wr (w.heap.size+1) #[.int .i64 num, .int .i64 0, .int .i64 e, .int .i64 at_,v] rplT∧Blk wr w.heap.size #[.int .i64 0, .int .i64 0, .int .i64 0, .int .i64 0, .slice none 0 0] rplT∧RsAt wr (w.heap.size+2) v xs∧xs.map (·.r)=failRs e at_ k∧Ext w wr
set_option maxHeartbeats 3200000 in
theorem repFail_any (num e at_ n:Int) (w:World):Calls Tryz.prog 80 #[.int .i64 num, .int .i64 e, .int .i64 at_, .int .i64 n] w (RpPost w (failRp num e at_ n)):=by
 obtain ⟨wB,hWB⟩:∃ wB,(w.alloc (.cells #[.int .i64 0, .int .i64 0, .int .i64 0, .int .i64 0, .slice none 0 0] rplT)).alloc (.cells #[.int .i64 num, .int .i64 0, .int .i64 e, .int .i64 at_, .slice none 0 0] rplT)=wB:=⟨_,rfl⟩
 have hxB:Ext w wB:=by rw [← hWB];exact ((Kp.refl _ _).alloc _).alloc _
 have hA:Blk wB w.heap.size #[.int .i64 0, .int .i64 0, .int .i64 0, .int .i64 0, .slice none 0 0] rplT:=by
  rw [← hWB]
  exact Blk.kp (heap_alloc_new w _) ((Kp.refl (fun _=>False) _).alloc _) (fun f=>f)
 have hB:Blk wB (w.heap.size+1) #[.int .i64 num, .int .i64 0, .int .i64 e, .int .i64 at_, .slice none 0 0] rplT:=by
  rw [← hWB]
  have:=heap_alloc_new (w.alloc (.cells #[.int .i64 0, .int .i64 0, .int .i64 0, .int .i64 0, .slice none 0 0] rplT)) (.cells #[.int .i64 num, .int .i64 0, .int .i64 e, .int .i64 at_, .slice none 0 0] rplT)
  rw [World.size_alloc] at this
  exact this
 have HA:=Lib.hid hA
 have HB:=Lib.hid hB
 have HXB:=Lib.hid hxB
 have HWB:=Lib.hid hWB
 clear hWB hxB
 by_cases hbad:n<0∨16<n
 ·have HR:Hid ((failRp num e at_ n)=⟨num,0,e,at_,[]⟩):=by show _=_;unfold failRp;rw [if_pos hbad]
  rw [HR.out]
  have b0:=hB.cell 0 _ rfl
  have b1:=hB.cell 1 _ rfl
  have b2:=hB.cell 2 _ rfl
  have b3:=hB.cell 3 _ rfl
  have b4:=hB.cell 4 _ rfl
  have c0:=hA.cell 0 _ rfl
  have c1:=hA.cell 1 _ rfl
  have c2:=hA.cell 2 _ rfl
  have c3:=hA.cell 3 _ rfl
  have c4:=hA.cell 4 _ rfl
  have fc0:=hA.free 0
  have fc1:=hA.free 1
  have fc2:=hA.free 2
  have fc3:=hA.free 3
  have fc4:=hA.free 4
  clear hA hB
  rcases hbad with h1|h1
  ·go_enter Tryz.func80,Tryz.ntmps80
   go_upto_region 2 with (fail)
   rw [HWB.out]
   go_wp2_with (fail)
   go_light
   refine bodyPost_ret (v:=.agg #[.int .i64 num, .int .i64 0, .int .i64 e, .int .i64 at_, .slice none 0 0]) (by simp [results,Tryz.results80,go_sem,c0,c1,c2,c3,c4]) rfl ?_
   have k5:=kp_set5 wB w.heap.size (.int .i64 num) (.int .i64 0) (.int .i64 e) (.int .i64 at_) (.slice none 0 0)
   exact ⟨.slice none 0 0,rfl,⟨[],RsAt.nil _ _,rfl⟩,HXB.out.next k5 (fun i hi e=>by omega)⟩
  ·have h2:¬ n<0:=by omega
   go_enter Tryz.func80,Tryz.ntmps80
   go_upto_region 2 with (fail)
   rw [HWB.out]
   go_wp2_with (fail)
   go_light
   refine bodyPost_ret (v:=.agg #[.int .i64 num, .int .i64 0, .int .i64 e, .int .i64 at_, .slice none 0 0]) (by simp [results,Tryz.results80,go_sem,c0,c1,c2,c3,c4]) rfl ?_
   have k5:=kp_set5 wB w.heap.size (.int .i64 num) (.int .i64 0) (.int .i64 e) (.int .i64 at_) (.slice none 0 0)
   exact ⟨.slice none 0 0,rfl,⟨[],RsAt.nil _ _,rfl⟩,HXB.out.next k5 (fun i hi e=>by omega)⟩
 ·have HR:Hid ((failRp num e at_ n)=⟨num,0,e,at_,failRs e at_ n.toNat⟩):=by show _=_;unfold failRp;rw [if_neg hbad]
  rw [HR.out]
  obtain ⟨m,rfl⟩:∃ m:Nat,n=m:=⟨n.toNat,by omega⟩
  have hm:m≤16:=by omega
  have h2:¬ (m:Int)<0:=by omega
  have h3:¬ 16<(m:Int):=by omega
  rw [Int.toNat_natCast]
  clear hA hB hbad HR
  go_enter Tryz.func80,Tryz.ntmps80
  go_upto_region 2 with (fail)
  rw [HWB.out]
  go_wp2_with (fail)
  go_loopw [24] (fun s24 wr=>FailRel w num e at_ m s24 wr) (fun s24 _=>m - (intOf s24).toNat)
  case atStart=>exact ⟨0, .slice none 0 0,[],Nat.zero_le _,rfl,HB.out,HA.out,RsAt.nil _ _,rfl,HXB.out⟩
  case round=>
   obtain ⟨k,v,xs,hk,rfl,hb,ha,hrs,hxs,hx⟩:=hrel
   obtain ⟨va,vc,rfl⟩:=hrs.slice
   have hxl:xs.length=k:=by
    have:=congrArg List.length hxs
    rwa [List.length_map,failRs_len] at this
   have HXS:=Lib.hid hxs
   have HRS:=Lib.hid hrs
   have HA:=Lib.hid ha
   have HB:=Lib.hid hb
   have HX:=Lib.hid hx
   have HXL:=Lib.hid hxl
   by_cases hlt:k<m
   ·obtain ⟨z,hz⟩:∃ z,(if (k:Int)=at_ then e else 14)=z:=⟨_,rfl⟩
    have HSN:Hid (failRs e at_ (k+1)=failRs e at_ k++[failR z]):=by show _=_;rw [failRs_snoc,hz]
    have HONE:=Lib.hid (rsE_one (w:=wr) (x:=⟨failR z, .slice none 0 0⟩) (own_nil _))
    have hsz:w.heap.size+2≤wr.heap.size:=by have:=hb.lt;omega
    by_cases hat:(k:Int)=at_
    ·rw [if_pos hat] at hz
     subst hz
     subst hat
     obtain ⟨wD,hWD⟩:∃ wD,wr.alloc (.cells #[.int .i64 e, .string ⟨#[]⟩, .string ⟨#[]⟩, .slice none 0 0, .int .i64 0, .int .i64 0, .int .i64 0, .int .i64 0, .int .i64 0, .int .i64 0, .int .i64 0] rsuT)=wD:=⟨_,rfl⟩
     have hxD:Ext wr wD:=by rw [← hWD];exact (Kp.refl _ _).alloc _
     have hD:Blk wD wr.heap.size (rsE ⟨failR e, .slice none 0 0⟩).toArray rsuT:=by rw [← hWD];exact heap_alloc_new wr _
     have HWD:=Lib.hid hWD
     clear hWD ha hb hrs hxs hx hxl
     have hbD:=HB.out.kp hxD (fun f=>f)
     have haD:=HA.out.kp hxD (fun f=>f)
     have HBD:=Lib.hid hbD
     have HAD:=Lib.hid haD
     have HRD:=Lib.hid (HRS.out.ext hxD)
     have HXD:=Lib.hid (HX.out.trans hxD)
     have HSD:Hid (w.heap.size+2≤wD.heap.size):=by have:=hxD.size;show _≤_;omega
     have b4:=hbD.cell 4 _ rfl
     unfold rsE at hD
     have x0:=hD.cell 0 _ rfl
     have x1:=hD.cell 1 _ rfl
     have x2:=hD.cell 2 _ rfl
     have x3:=hD.cell 3 _ rfl
     have x4:=hD.cell 4 _ rfl
     have x5:=hD.cell 5 _ rfl
     have x6:=hD.cell 6 _ rfl
     have x7:=hD.cell 7 _ rfl
     have x8:=hD.cell 8 _ rfl
     have x9:=hD.cell 9 _ rfl
     have x10:=hD.cell 10 _ rfl
     clear hD hbD haD hxD
     go_upto_region 10 with (fail)
     rw [HWD.out]
     go_wp2_with (at_builtin;refine wpList_appK rssT rsuT 11 (by decide) rss_facts rfl _ _ rfl (w.heap.size+2) _ _ _ rfl (ownsRow.ext HRD.out.row ((Kp.refl _ _).alloc _)) _ 1 (rsE ⟨failR e, .slice none 0 0⟩) rfl (Sl.of_block (heap_alloc_new wD _) rfl (by decide) (Nat.le_refl _)) Shp.some HONE.out ?c1 ?c2 ?_)
     case c1=>have:=HXL.out;omega
     case c2=>have:=HSD.out;simp;omega
     intro v' w' h1 k2
     obtain ⟨a4,l4,c4,hv4⟩:∃ a4 l4 c4,v'=.slice a4 l4 c4:=by obtain ⟨a4,c4,e,_⟩:=Sl.open (Sl.of_owns h1);exact ⟨_,_,_,e⟩
     subst hv4
     have hlow:∀ i,(Value.slice va xs.length vc).ownBlock=some i→w.heap.size+2≤i:=fun i hi=>(own_in HRD.out.row hi).1
     have hbE:Blk w' (w.heap.size+1) #[.int .i64 num, .int .i64 0, .int .i64 e, .int .i64 ((k:Nat):Int), .slice va xs.length vc] rplT:=(HBD.out.kp (S:=fun _=>False) ((Kp.refl _ _).alloc _) (fun f=>f)).kp k2 (fun h=>by have:=hlow _ h;omega)
     have haE:Blk w' w.heap.size #[.int .i64 0, .int .i64 0, .int .i64 0, .int .i64 0, .slice none 0 0] rplT:=(HAD.out.kp (S:=fun _=>False) ((Kp.refl _ _).alloc _) (fun f=>f)).kp k2 (fun h=>by have:=hlow _ h;omega)
     have hxE:Ext w w':=(HXD.out.alloc _).next k2 (fun i hi h=>by have:=hlow _ h;omega)
     have hrE:RsAt w' (w.heap.size+2) (.slice a4 l4 c4) (xs++[⟨failR e, .slice none 0 0⟩]):=(HRD.out.ext ((Kp.refl _ _).alloc _)).snoc (own_nil _) h1 k2 (HRD.out.ext ((Kp.refl _ _).alloc _)).noStr
     have o4:=hbE.cell 4 _ rfl
     have f4:=hbE.free 4
     have HBE:=Lib.hid hbE
     have HAE:=Lib.hid haE
     have HXE:=Lib.hid hxE
     have HRE:=Lib.hid hrE
     clear h1 k2 hlow hbE haE hxE hrE x0 x1 x2 x3 x4 x5 x6 x7 x8 x9 x10 b4
     go_wp2_with (fail)
     go_light
     have hst:Kp (fun i=>i=w.heap.size+1) w' (w'.setCell ⟨w.heap.size+1,4,none⟩ (.slice a4 l4 c4)):=Kp.set1 (S:=fun i=>i=w.heap.size+1) (Kp.refl _ _) _ 4 _ rfl
     refine ⟨⟨k+1, .slice a4 l4 c4,xs++[⟨failR e, .slice none 0 0⟩], ?_, ?_,HBE.out.set 4 _,HAE.out.kp hst (by omega),HRE.out.kpT hst (noT_blk HBE.out (by decide)) (noT_blk HBE.out (by decide)), ?_,HXE.out.next hst (fun i hi e=>by omega)⟩, ?_⟩
     ·omega
     ·go_num
     ·rw [HSN.out,List.map_append,HXS.out];rfl
     ·simp [intOf];omega
    ·rw [if_neg hat] at hz
     subst hz
     obtain ⟨wD,hWD⟩:∃ wD,wr.alloc (.cells #[.int .i64 14, .string ⟨#[]⟩, .string ⟨#[]⟩, .slice none 0 0, .int .i64 0, .int .i64 0, .int .i64 0, .int .i64 0, .int .i64 0, .int .i64 0, .int .i64 0] rsuT)=wD:=⟨_,rfl⟩
     have hxD:Ext wr wD:=by rw [← hWD];exact (Kp.refl _ _).alloc _
     have hD:Blk wD wr.heap.size (rsE ⟨failR 14, .slice none 0 0⟩).toArray rsuT:=by rw [← hWD];exact heap_alloc_new wr _
     have HWD:=Lib.hid hWD
     clear hWD ha hb hrs hxs hx hxl
     have hbD:=HB.out.kp hxD (fun f=>f)
     have haD:=HA.out.kp hxD (fun f=>f)
     have HBD:=Lib.hid hbD
     have HAD:=Lib.hid haD
     have HRD:=Lib.hid (HRS.out.ext hxD)
     have HXD:=Lib.hid (HX.out.trans hxD)
     have HSD:Hid (w.heap.size+2≤wD.heap.size):=by have:=hxD.size;show _≤_;omega
     have b4:=hbD.cell 4 _ rfl
     unfold rsE at hD
     have x0:=hD.cell 0 _ rfl
     have x1:=hD.cell 1 _ rfl
     have x2:=hD.cell 2 _ rfl
     have x3:=hD.cell 3 _ rfl
     have x4:=hD.cell 4 _ rfl
     have x5:=hD.cell 5 _ rfl
     have x6:=hD.cell 6 _ rfl
     have x7:=hD.cell 7 _ rfl
     have x8:=hD.cell 8 _ rfl
     have x9:=hD.cell 9 _ rfl
     have x10:=hD.cell 10 _ rfl
     clear hD hbD haD hxD
     go_upto_region 10 with (fail)
     rw [HWD.out]
     go_wp2_with (at_builtin;refine wpList_appK rssT rsuT 11 (by decide) rss_facts rfl _ _ rfl (w.heap.size+2) _ _ _ rfl (ownsRow.ext HRD.out.row ((Kp.refl _ _).alloc _)) _ 1 (rsE ⟨failR 14, .slice none 0 0⟩) rfl (Sl.of_block (heap_alloc_new wD _) rfl (by decide) (Nat.le_refl _)) Shp.some HONE.out ?c1 ?c2 ?_)
     case c1=>have:=HXL.out;omega
     case c2=>have:=HSD.out;simp;omega
     intro v' w' h1 k2
     obtain ⟨a4,l4,c4,hv4⟩:∃ a4 l4 c4,v'=.slice a4 l4 c4:=by obtain ⟨a4,c4,e,_⟩:=Sl.open (Sl.of_owns h1);exact ⟨_,_,_,e⟩
     subst hv4
     have hlow:∀ i,(Value.slice va xs.length vc).ownBlock=some i→w.heap.size+2≤i:=fun i hi=>(own_in HRD.out.row hi).1
     have hbE:Blk w' (w.heap.size+1) #[.int .i64 num, .int .i64 0, .int .i64 e, .int .i64 at_, .slice va xs.length vc] rplT:=(HBD.out.kp (S:=fun _=>False) ((Kp.refl _ _).alloc _) (fun f=>f)).kp k2 (fun h=>by have:=hlow _ h;omega)
     have haE:Blk w' w.heap.size #[.int .i64 0, .int .i64 0, .int .i64 0, .int .i64 0, .slice none 0 0] rplT:=(HAD.out.kp (S:=fun _=>False) ((Kp.refl _ _).alloc _) (fun f=>f)).kp k2 (fun h=>by have:=hlow _ h;omega)
     have hxE:Ext w w':=(HXD.out.alloc _).next k2 (fun i hi h=>by have:=hlow _ h;omega)
     have hrE:RsAt w' (w.heap.size+2) (.slice a4 l4 c4) (xs++[⟨failR 14, .slice none 0 0⟩]):=(HRD.out.ext ((Kp.refl _ _).alloc _)).snoc (own_nil _) h1 k2 (HRD.out.ext ((Kp.refl _ _).alloc _)).noStr
     have o4:=hbE.cell 4 _ rfl
     have f4:=hbE.free 4
     have HBE:=Lib.hid hbE
     have HAE:=Lib.hid haE
     have HXE:=Lib.hid hxE
     have HRE:=Lib.hid hrE
     clear h1 k2 hlow hbE haE hxE hrE x0 x1 x2 x3 x4 x5 x6 x7 x8 x9 x10 b4
     go_wp2_with (fail)
     go_light
     have hst:Kp (fun i=>i=w.heap.size+1) w' (w'.setCell ⟨w.heap.size+1,4,none⟩ (.slice a4 l4 c4)):=Kp.set1 (S:=fun i=>i=w.heap.size+1) (Kp.refl _ _) _ 4 _ rfl
     refine ⟨⟨k+1, .slice a4 l4 c4,xs++[⟨failR 14, .slice none 0 0⟩], ?_, ?_,HBE.out.set 4 _,HAE.out.kp hst (by omega),HRE.out.kpT hst (noT_blk HBE.out (by decide)) (noT_blk HBE.out (by decide)), ?_,HXE.out.next hst (fun i hi e=>by omega)⟩, ?_⟩
     ·omega
     ·go_num
     ·rw [HSN.out,List.map_append,HXS.out];rfl
     ·simp [intOf];omega
   ·obtain rfl:k=m:=by omega
    have hb4:=hb
    have ha4:=ha
    have b0:=hb4.cell 0 _ rfl
    have b1:=hb4.cell 1 _ rfl
    have b2:=hb4.cell 2 _ rfl
    have b3:=hb4.cell 3 _ rfl
    have b4:=hb4.cell 4 _ rfl
    have c0:=ha4.cell 0 _ rfl
    have c1:=ha4.cell 1 _ rfl
    have c2:=ha4.cell 2 _ rfl
    have c3:=ha4.cell 3 _ rfl
    have c4:=ha4.cell 4 _ rfl
    have fc0:=ha4.free 0
    have fc1:=ha4.free 1
    have fc2:=ha4.free 2
    have fc3:=ha4.free 3
    have fc4:=ha4.free 4
    clear hb4 ha4 ha hb hrs hxs hx hxl
    go_wp2_with (fail)
    go_light
    refine bodyPost_ret (v:=.agg #[.int .i64 num, .int .i64 0, .int .i64 e, .int .i64 at_, .slice va xs.length vc]) (by simp [results,Tryz.results80,go_sem,c0,c1,c2,c3,c4]) rfl ?_
    have k5:=kp_set5 wr w.heap.size (.int .i64 num) (.int .i64 0) (.int .i64 e) (.int .i64 at_) (.slice va xs.length vc)
    exact ⟨.slice va xs.length vc,rfl,⟨xs,(HRS.out.kpT k5 (noT_blk HA.out (by decide)) (noT_blk HA.out (by decide))).less (by omega),HXS.out⟩,HX.out.next k5 (fun i hi e=>by omega)⟩
end Go.Proofs.YtnlefnhdhigecaaGreatDoor

namespace Go.Proofs.YtnlefnhdhigecaaGreatDoor
set_option maxRecDepth 100000
open Go.RowKit Av
structure GoodQ (room:Int) (P:Pt):Prop where
 snd:SoundP room P
 free:PtN P
 parts:AllN PartsOk P
theorem GoodQ.nil {room:Int} (h:0≤room):GoodQ room []:=⟨SoundP.nil h,fun e he=>by (cases he),AllN.nil _⟩
theorem GoodQ.step {room:Int} {P:Pt} (h:GoodQ room P) {K:Nat} (hk:PtK K P) (o:OpV) (sess z:Int):GoodQ room (doP room P o sess z false).1:=
 ⟨h.snd.doP hk h.free _ _ _,h.free.doP _ _ _ _ _,h.parts.doP (partsOk_inv o sess z) _ _⟩
theorem lenQ_same {t u:Pt} (ht:(t.map (·.1)).Nodup) (hu:(u.map (·.1)).Nodup) (e:∀ p,mget u p=mget t p):u.length=t.length:=by
 have h:=own_same hu ht e
 rw [← own_len,h,own_len]
theorem GoodQ.same {room:Int} {t u:Pt} (h:GoodQ room t) (e:∀ p,mget u p=mget t p) (ht:(t.map (·.1)).Nodup) (hu:(u.map (·.1)).Nodup):GoodQ room u:=by
 have hl:=lenQ_same ht hu e
 have hal:∀ p,mget t p=mget u p:=fun p=>(e p).symm
 refine ⟨⟨fun p n hp=>h.snd.good p n (by rw [← e];exact hp),fun p n hp=>h.snd.cnt p n (by rw [← e];exact hp),fun p n hp=>h.snd.eph p n (by rw [← e];exact hp),fun p n hp x hx=>?_,fun p n hp up hu2=>?_,by rw [hl];exact h.snd.size⟩,fun x hx y hy=>?_,fun p n hp=>h.parts p n (by rw [← e];exact hp)⟩
 ·rw [e];exact h.snd.kids p n (by rw [← e];exact hp) x hx
 ·obtain ⟨m,h1,h2⟩:=h.snd.par p n (by rw [← e];exact hp) up hu2
  exact ⟨m,by rw [e];exact h1,h2⟩
 ·have h1:=mget_of_mem hu (k:=x.1) hx
  rw [e] at h1
  exact h.free _ (mget_mem h1) y hy
structure TrA (w0 w:World) (b m:Nat) (room:Int) (K:Nat) (t:Tr) (L:RL):Prop where
 ts:TS w0 w b m room K t
 srt:SortedAs L (pl t)
 good:GoodQ room (pl t)
theorem TrA.ext {w0 w w':World} {b m:Nat} {room:Int} {K:Nat} {t:Tr} {L:RL} (h:TrA w0 w b m room K t L) (k:Ext w w'):TrA w0 w' b m room K t L:=⟨h.ts.ext k,h.srt,h.good⟩
theorem TrA.mono {w0 w:World} {b m:Nat} {room:Int} {K M:Nat} {t:Tr} {L:RL} (h:TrA w0 w b m room K t L) (hk:K≤M):TrA w0 w b m room M t L:=⟨⟨h.ts.tr,h.ts.pk.mono hk,h.ts.ex⟩,h.srt,h.good⟩
theorem TrA.own {w0 w:World} {b m:Nat} {room:Int} {K:Nat} {t:Tr} {L:RL} (h:TrA w0 w b m room K t L):L=ownL (pl t):=h.srt.own h.ts.pk.1
theorem TrA.len {w0 w:World} {b m:Nat} {room:Int} {K:Nat} {t:Tr} {L:RL} (h:TrA w0 w b m room K t L):L.length=(pl t).length:=by rw [h.own,own_len]
theorem trNew (room:Int) (w0 w:World) (hx:Ext w0 w) (h1:1≤room) (h2:room≤500):Calls Tryz.prog 14 #[.int .i64 room] w fun e w'=>∃ b m,e=.returned (.tuple #[.pointer (some ⟨b,0,none⟩), .int .i64 0])∧TrA w0 w' b m room 0 [] []∧Ext w w'∧w.heap.size≤b∧w.heap.size≤m:=by
 refine (tsNew room w0 w hx h1 h2).mono ?_
 rintro e w' ⟨b,m,rfl,h3,h4,h5,h6⟩
 exact ⟨b,m,rfl,⟨h3,⟨List.Pairwise.nil,fun _=>rfl⟩,GoodQ.nil (by omega)⟩,h4,h5,h6⟩
theorem place_path {room:Int} {t:Pt} {p:ByteArray} {f:Int} (hp:p.size≤1000000):(placeP room t p f).1.size≤1000000:=by
 have hf:∀ q:ByteArray,q.size≤1000000→(finQ room t q).1.size≤1000000:=fun q hq=>by
  unfold finQ
  split
  ·exact Nat.zero_le _
  ·split
   ·exact Nat.zero_le _
   ·exact hq
 unfold placeP
 split
 ·exact hf p hp
 ·split
  ·exact Nat.zero_le _
  ·split
   ·exact Nat.zero_le _
   ·split
    ·split
     ·exact Nat.zero_le _
     ·rename_i q hq
      refine hf _ ?_
      have:=path_small ⟨q.toArray⟩ (number_some hq).2.2.2.2
      omega
    ·exact hf p hp
structure RpB (K:Nat) (r:Rp):Prop where
 names:r.names.length≤K
 path:r.path.size≤1000000
theorem RpB.fail (K:Nat) (z:Int):RpB K (failR z):=⟨Nat.zero_le _,Nat.zero_le _⟩
theorem RpB.mono {K L:Nat} {r:Rp} (h:RpB K r) (hk:K≤L):RpB L r:=⟨Nat.le_trans h.names hk,h.path⟩
theorem doP_bound {K:Nat} {room:Int} {t:Pt} (h:PtK K t) (o:OpV) (sess z:Int) (only:Bool) (hp:o.path.size≤1000000):RpB K (doP room t o sess z only).2:=by
 unfold doP
 split
 ·exact RpB.fail K _
 ·split
  ·exact RpB.fail K _
  ·split
   ·unfold createP
    simp only
    split
    ·exact RpB.fail K _
    ·exact ⟨Nat.zero_le _,place_path hp⟩
   ·split
    ·unfold changeP
     split
     ·exact RpB.fail K _
     ·split
      ·exact RpB.fail K _
      ·split
       ·split
        ·exact RpB.fail K _
        ·exact ⟨Nat.zero_le _,hp⟩
       ·split
        ·exact ⟨Nat.zero_le _,hp⟩
        ·exact ⟨Nat.zero_le _,hp⟩
    ·unfold readP
     split
     ·exact RpB.fail K _
     ·rename_i n hn
      refine ⟨?_,hp⟩
      show (if o.kind=7 then n.names else []).length≤K
      split
      ·exact (h.2 _ (mget_mem hn)).few
      ·exact Nat.zero_le _
def TrDone (w0 w:World) (b m:Nat) (room:Int) (K:Nat) (t:Tr) (X:RL×Rp) (e:Ending) (w':World):Prop:=
 RpB K X.2∧∃ t' nv,e=.returned (resA X.2.err X.2.path X.2.data nv X.2.st)∧NmO w' nv X.2.names∧TrA w0 w' b m room (K+1) t' X.1∧Kp (nodeFr m t) w w'∧Fresh w t t'
theorem trDo {w0 w:World} {b m:Nat} {room:Int} {K:Nat} {t:Tr} {L:RL} (h:TrA w0 w b m room K t L) (hG:GT w0) (hK:K≤100000) (o:OpV) (sess z:Int) (hp:o.path.size≤1000000) (hd:o.data.size≤1000000) :
  Calls Tryz.prog 17 #[.pointer (some ⟨b,0,none⟩), .agg #[.int .i64 o.kind, .string o.path, .string o.data, .int .i64 o.ver, .int .i64 o.flags], .int .i64 sess, .int .i64 z] w fun e w'=>TrDone w0 w b m room K t (doL room L o sess z) e w':=by
 refine (tsDo h.ts hG hK o sess z hp hd).mono ?_
 rintro e w' ⟨t',nv,he,ho,h1,h2,h3,h4⟩
 obtain ⟨e1,e2⟩:=doL_doP (room:=room) h.srt h.ts.pk.1 o sess z
 refine ⟨by rw [e1];exact doP_bound h.ts.pk o sess z false hp,t',nv,by rw [e1];exact he,by rw [e1];exact ho,⟨h1,by rw [h2];exact e2,by rw [h2];exact h.good.step h.ts.pk o sess z⟩,h3,h4⟩
theorem trCopy {w0 w:World} {b m:Nat} {room:Int} {K:Nat} {t:Tr} {L:RL} (h:TrA w0 w b m room K t L) (hK:K≤100000) :
  Calls Tryz.prog 88 #[.pointer (some ⟨b,0,none⟩)] w fun e w'=>∃ b' m' c,e=.returned (.pointer (some ⟨b',0,none⟩))∧TrA w w' b' m' room K c L∧Apart b m t b' m' c∧Ext w w':=by
 refine (treeCopy_any w0.heap.size b m room t w h.ts.tr (h.ts.pk.ok hK)).mono ?_
 rintro e w' ⟨b',m',c,rfl,h1,h2,h3⟩
 have hn:((pl c).map (·.1)).Nodup:=by rw [keys_pl];exact h1.keys
 exact ⟨b',m',c,rfl,⟨⟨h1,h.ts.pk.same hn h2,h3⟩,h.srt.congr (fun p=>(h2 p).symm),h.good.same h2 h.ts.pk.1 hn⟩,Apart.new h.ts.tr h1 (Nat.le_refl _),h3⟩
def Other (w:World) (S:Nat→Prop):Prop:=∀ i,S i→∃ cur T f,w.heap[i]? = some (.cells cur T f)∧T≠trT∧T≠ndT∧T≠strT
theorem Other.blk {w:World} {r:Nat} {A:Array Value} {T:TypeId} (h:Blk w r A T) (h1:T≠trT) (h2:T≠ndT) (h3:T≠strT):Other w (fun i=>i=r):=fun i hi=>by
 have e:i=r:=hi
 subst e
 exact ⟨A,T,(0,0),h,h1,h2,h3⟩
theorem Other.row {w:World} {base k n:Nat} {T:TypeId} {v:Value} {xs:List Value} (h:w.ownsRow base T k v n xs) (h1:T≠trT) (h2:T≠ndT) (h3:T≠strT):Other w (fun i=>v.ownBlock=some i):=fun i hi=>by
 obtain ⟨cur,f,hc⟩:=own_type h hi
 exact ⟨cur,T,f,hc,h1,h2,h3⟩
theorem Other.noT {w:World} {S:Nat→Prop} (h:Other w S):NoT w S strT:=fun i hi cur f hc=>by
 obtain ⟨cur2,T,f2,h1,_,_,h2⟩:=h i hi
 rw [h1] at hc
 simp only [Option.some.injEq,Obj.cells.injEq] at hc
 exact h2 hc.2.1
theorem TrA.aside {S:Nat→Prop} {w0 w w':World} {b m:Nat} {room:Int} {K:Nat} {t:Tr} {L:RL} (h:TrA w0 w b m room K t L) (k:Kp S w w') (hb:∀ i,S i→w0.heap.size≤i) (ho:Other w S):TrA w0 w' b m room K t L:=by
 refine ⟨⟨h.ts.tr.apart k (fun i hi hs=>?_) (fun i hs _ cur f=>ho.noT i hs cur f),h.ts.pk,h.ts.ex.next k (fun i hi hs=>by have:=hb i hs;omega)⟩,h.srt,h.good⟩
 obtain ⟨cur,T,f,h1,h2,h3,h4⟩:=ho i hs
 rcases hi with rfl|hi
 ·have hbk:w.heap[i]? = some (.cells _ trT (0,0)):=h.ts.tr.blk
  rw [h1] at hbk
  simp only [Option.some.injEq,Obj.cells.injEq] at hbk
  exact h2 hbk.2.1
 ·exact h3 (h.ts.tr.types hi h1)
end Go.Proofs.YtnlefnhdhigecaaGreatDoor

