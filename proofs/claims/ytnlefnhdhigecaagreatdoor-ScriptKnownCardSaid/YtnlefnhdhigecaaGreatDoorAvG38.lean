/- Texts put together: AvScrL, AvScrM, AvScrN. -/
import Derived.Test.YtnlefnhdhigecaaGreatDoorAvG37
namespace Go.Proofs.YtnlefnhdhigecaaGreatDoor
set_option maxRecDepth 100000
open Go.RowKit Av
variable {w0 w w':World} {g C:Nat} {s:SoV}
set_option maxHeartbeats 800000 in
theorem play6_any (h:SoX w0 w g C s) (hG:GT w0) (n:Int) (r:Nat) (hb:Blk w r #[.int .i64 n] 2) (hI:∀ x∈s.ev n,In64 x.kind) (hp:∀ x∈s.ev n,x.path.size≤1000000) (hn:(s.ev n).length≤1000000) :
  Calls Tryz.prog 190 #[.pointer (some ⟨g,0,none⟩), .pointer (some ⟨r,0,none⟩)] w (LnPost w0 w g C s (.evs n)):=by
 have HC:=Lib.hid (events_told h hG n hI hp hn)
 have c0:=hb.cell 0 _ rfl
 clear hb h hG hI hp hn
 go_enter Tryz.func190,Tryz.ntmps190
 go_wp2_with (fail)
 refine HC.out.mono ?_
 rintro e w1 ⟨rfl,h1,h2⟩
 go_wp2_with (fail)
 go_ret
 exact ⟨rfl,h1,h2⟩
structure RplOk (r:RpV):Prop where
 n1:In64 r.zxid
 n2:In64 r.err
 n3:In64 r.at_
 len:r.res.length≤1000
 res:∀ x∈r.res,In64 x.err∧In64 x.st.ver∧In64 x.st.kids∧In64 x.st.own∧x.path.size≤1000000∧x.data.size≤1000000∧x.names.length≤100000∧∀ y∈x.names,y.length≤1000
def AnLoop (w:World) (r:RpV) (s4 s23:Value) (wr:World):Prop:=∃ k:Nat,k≤r.res.length∧s23=.int .i64 k∧s4=.string (bA (Go.Lib.join [Go.Lib.itoa r.zxid,Go.Lib.itoa r.err,Go.Lib.itoa r.at_] [32]++(r.res.take k).flatMap resT))∧Ext w wr
def headT (r:RpV):Bs:=Go.Lib.join [Go.Lib.itoa r.zxid,Go.Lib.itoa r.err,Go.Lib.itoa r.at_] [32]
theorem lens7 {a b c d e f g:Bs} {A B:Nat} (h1:a.length≤A) (h2:b.length≤B) (h3:c.length≤B) (h4:d.length≤B) (h5:e.length≤A) (h6:f.length≤A) (h7:g.length≤A):Go.Lib.lens [a,b,c,d,e,f,g]≤4*A+3*B:=by
 simp only [Go.Lib.lens,List.map_cons,List.map_nil,List.sum_cons,List.sum_nil]
 omega
theorem or_len (s:Bs) {B:Nat} (h:s.length≤B) (h1:1≤B):(orT s).length≤B:=by
 unfold orT
 split
 ·exact h1
 ·exact h
theorem names_small {nm:List Bs} (h1:nm.length≤100000) (h2:∀ y∈nm,y.length≤1000):(Go.Lib.join nm [44]).length≤1000001000:=by
 have h3:=lens_le (B:=1000) nm h2
 have h4:=join_bnd nm [44]
 have e:nm.length*[(44:UInt8)].length=nm.length:=Nat.mul_one _
 omega
theorem res_small {er:Int} {pa da:ByteArray} {nm:List Bs} {ver kids own:Int} (h:In64 er∧In64 ver∧In64 kids∧In64 own∧pa.size≤1000000∧da.size≤1000000∧nm.length≤100000∧∀ y∈nm,y.length≤1000) :
  Go.Lib.lens [Go.Lib.itoa er,orT pa.data.toList,orT da.data.toList,orT (Go.Lib.join nm [44]),Go.Lib.itoa ver,Go.Lib.itoa kids,Go.Lib.itoa own]≤4000000000:=by
 obtain ⟨h1,h2,h3,h4,h5,h6,h7,h8⟩:=h
 rw [Lib.size_eq] at h5 h6
 have hn:=names_small h7 h8
 have:=lens7 (A:=21) (B:=1000001000) (Go.Lib.itoa_length_le er h1.1 h1.2) (or_len pa.data.toList (by omega) (by decide)) (or_len da.data.toList (by omega) (by decide)) (or_len _ hn (by decide)) (Go.Lib.itoa_length_le ver h2.1 h2.2) (Go.Lib.itoa_length_le kids h3.1 h3.2) (Go.Lib.itoa_length_le own h4.1 h4.2)
 omega
theorem flat_le {α:Type} (f:α→Bs) {B:Nat}:∀ l:List α,(∀ x∈l,(f x).length≤B)→(l.flatMap f).length≤l.length*B
 | [],_=>Nat.zero_le _
 | x::l,h=>by
   have h1:=flat_le f l fun y hy=>h y (List.mem_cons_of_mem _ hy)
   have h2:=h x (List.mem_cons_self ..)
   rw [List.flatMap_cons,List.length_append,List.length_cons,Nat.add_mul]
   omega
theorem flat_small {r:RpV} (h:RplOk r) (k:Nat):((r.res.take k).flatMap resT).length≤8000000000000:=by
 have h1:=flat_le resT (B:=8000000000) (r.res.take k) fun x hx=>by
  have h2:=h.res x (List.mem_of_mem_take hx)
  have h3:=res_small h2
  have h4:=join_bnd [Go.Lib.itoa x.err,orT x.path.data.toList,orT x.data.data.toList,orT (Go.Lib.join x.names [44]),Go.Lib.itoa x.st.ver,Go.Lib.itoa x.st.kids,Go.Lib.itoa x.st.own] [32]
  have e:[Go.Lib.itoa x.err,orT x.path.data.toList,orT x.data.data.toList,orT (Go.Lib.join x.names [44]),Go.Lib.itoa x.st.ver,Go.Lib.itoa x.st.kids,Go.Lib.itoa x.st.own].length*[(32:UInt8)].length=7:=rfl
  unfold resT
  rw [List.length_cons]
  omega
 have h2:(r.res.take k).length≤1000:=by
  rw [List.length_take]
  have:=h.len
  omega
 omega
theorem own_open {w:World} {base K:Nat} {T:TypeId} {va:Option Addr} {n vc:Nat} {xs:List Value} (h:w.ownsRow base T K (.slice va n vc) n xs) (h0:0<n):∃ g,va=some ⟨g,0,none⟩∧∀ i x,xs[i]? = some x→w.cell? ⟨g,i,none⟩=some x:=by
 obtain ⟨_,⟨_,rfl⟩|⟨g,cap,cur,e,_,hg,_,_,_,ht⟩⟩:=h
 ·exact absurd h0 (Nat.lt_irrefl 0)
 ·cases e
  refine ⟨g,rfl,fun i x hx=>?_⟩
  have h2:cur.toList[i]? = some x:=by
   rw [← ht,List.getElem?_take] at hx
   split at hx
   ·exact hx
   ·cases hx
  have h3:cur[i]? = some x:=by rw [← Array.getElem?_toList];exact h2
  simp [World.cell?,hg,h3]
set_option maxHeartbeats 6400000 in
theorem answer_any (r:RpV) (v:Value) (w:World) (hG:GT w) (hr:RpAt w 0 v r) (hO:RplOk r) :
  Calls Tryz.prog 188 #[.agg (rplA r v)] w fun e w'=>e=.returned (.string (bA (answerT r)))∧Ext w w':=by
 obtain ⟨xs,hrs,hxs⟩:=hr
 obtain ⟨va,vc,rfl⟩:=owns_slice hrs.row
 have HRS:=Lib.hid hrs
 have HXS:=Lib.hid hxs
 have HO:=Lib.hid hO
 have HG:=Lib.hid hG
 have HI1:Hid (∀ wq,Ext w wq→Calls Tryz.prog 182 #[.int .i64 r.zxid, .int .i64 10] wq fun e w'=>e=.returned (.string (bA (Go.Lib.itoa r.zxid)))∧Ext wq w'):=fun wq hq=>Fmt_any _ HO.out.n1 wq (HG.out.ext hq)
 have HI2:Hid (∀ wq,Ext w wq→Calls Tryz.prog 219 #[.int .i64 r.err] wq fun e w'=>e=.returned (.string (bA (Go.Lib.itoa r.err)))∧Ext wq w'):=fun wq hq=>ItoaI_any _ HO.out.n2 wq (HG.out.ext hq)
 have HI3:Hid (∀ wq,Ext w wq→Calls Tryz.prog 219 #[.int .i64 r.at_] wq fun e w'=>e=.returned (.string (bA (Go.Lib.itoa r.at_)))∧Ext wq w'):=fun wq hq=>ItoaI_any _ HO.out.n3 wq (HG.out.ext hq)
 clear hrs hxs hO hG
 unfold rplA
 go_enter Tryz.func188,Tryz.ntmps188
 go_upto_region 1 with (fail)
 obtain ⟨W,hW⟩:∃ W,w.alloc (.cells #[.int .i64 r.num, .int .i64 r.zxid, .int .i64 r.err, .int .i64 r.at_, .slice va xs.length vc] 67)=W:=⟨_,rfl⟩
 have hxW:Ext w W:=by rw [← hW];exact (Kp.refl (fun _=>False) w).alloc _
 have hbx:Blk W w.heap.size #[.int .i64 r.num, .int .i64 r.zxid, .int .i64 r.err, .int .i64 r.at_, .slice va xs.length vc] 67:=by rw [← hW];exact heap_alloc_new w _
 rw [hW]
 have HBX:=Lib.hid hbx
 have HXW:=Lib.hid hxW
 have HLT:Hid (w.heap.size<W.heap.size):=hbx.lt
 clear hW hxW hbx
 refine' Av.X.wp_region_dagG (fun _=>False) 10 [] [] ((8, .val _)::(9, .val _)::(10, .val _)::(11, .val _)::(12, .val _)::(13, .val _)::(14, .val _)::(15, .val _)::(16, .val _)::(17,⟨fun v=>∃ a,v=.slice a 3 3,fun v w'=>BoxL W.heap.size strT 3 [encStr (Go.Lib.itoa r.zxid),encStr (Go.Lib.itoa r.err),encStr (Go.Lib.itoa r.at_)] v w'⟩)::[]) (by exact ⟨fun _ _ _ _ _=>trivial,⟨fun _ _ _ _ _=>trivial,⟨fun _ _ _ _ _=>trivial,⟨fun _ _ _ _ _=>trivial,⟨fun _ _ _ _ _=>trivial,⟨fun _ _ _ _ _=>trivial,⟨fun _ _ _ _ _=>trivial,⟨fun _ _ _ _ _=>trivial,⟨fun _ _ _ _ _=>trivial,⟨fun _ _ _ hr hv=>hv.ext hr,trivial⟩⟩⟩⟩⟩⟩⟩⟩⟩⟩) (by exact trivial) (by kernel_rfl) (by kernel_rfl) (by kernel_rfl) ?_
 rotate_left 9
 simp only [List.take_succ_cons,List.take_zero]
 repeat (first
  | (refine Av.X.wpD_skipv ?_ ?_ ?_
     focus rfl
     focus rfl
     simp only [Act.put,List.setIfInBounds_toArray,List.set_cons_succ,List.set_cons_zero])
  | (refine' Av.X.wpD_val (c:=_) ?_ (fun w=>Kp.refl _ w) ?_ (fun wq hwq hfz=>?_) ?_
     rotate_left
     focus rfl
     focus rfl
     focus (have hfq:=hfz.at_;have hcq:=hfz.use;(have hbq:=HBX.out.kp hwq (fun f=>by have:=HLT.out;rcases f with f|f;(focus omega);(focus exact f));have c1:=hbq.cell 1 _ rfl;have c2:=hbq.cell 2 _ rfl;have c3:=hbq.cell 3 _ rfl);go_simp;first|done|rfl)
     simp only [Act.put,List.setIfInBounds_toArray,List.set_cons_succ,List.set_cons_zero])
  | (refine' Av.X.wpD_con (c:=_) ?_ ?_ (fun wq hwq hfz=>?_) ?_
     rotate_left
     focus rfl
     focus rfl
     focus (have hfq:=hfz.at_;have hcq:=hfz.use;(have hbq:=HBX.out.kp hwq (fun f=>by have:=HLT.out;rcases f with f|f;(focus omega);(focus exact f));have c1:=hbq.cell 1 _ rfl;have c2:=hbq.cell 2 _ rfl;have c3:=hbq.cell 3 _ rfl);go_simp;(try (rw [dUpon_enter]));(have hgx:=HXW.out.next hwq (fun i hi f=>by have:=HXW.out.size;rcases f with f|f;(focus omega);(focus exact f));(first|((with_reducible refine (HI1.out wq hgx).mono ?_);rintro e w' ⟨rfl,hx⟩;exact DEnd.con hx)|((with_reducible refine (HI2.out wq hgx).mono ?_);rintro e w' ⟨rfl,hx⟩;exact DEnd.con hx)|((with_reducible refine (HI3.out wq hgx).mono ?_);rintro e w' ⟨rfl,hx⟩;exact DEnd.con hx))))
     simp only [Act.put,List.setIfInBounds_toArray,List.set_cons_succ,List.set_cons_zero])
  | (refine Av.X.wpD_made (A:=fun v=>∃ a,v=.slice a 3 3) (V:=fun v w'=>BoxL W.heap.size strT 3 [encStr (Go.Lib.itoa r.zxid),encStr (Go.Lib.itoa r.err),encStr (Go.Lib.itoa r.at_)] v w') 17 ?_ ?_ ?_ ?_ (fun wq hwq hfz=>?_) (fun v17 h17=>?_)
     focus rfl
     focus rfl
     focus (exact ⟨.slice none 3 3,_,rfl⟩)
     focus rfl
     focus (have hfq:=hfz.at_;have hcq:=hfz.use;(have hbq:=HBX.out.kp hwq (fun f=>by have:=HLT.out;rcases f with f|f;(focus omega);(focus exact f));have c1:=hbq.cell 1 _ rfl;have c2:=hbq.cell 2 _ rfl;have c3:=hbq.cell 3 _ rfl);go_simp;(try (rw [dUpon_enter]));rw [dUpon_value];exact mPost ⟨_,rfl⟩ (BoxL.new hwq.size) ((Kp.refl _ _).alloc _))
     obtain ⟨a17,rfl⟩:=h17
     simp only [Act.put,List.setIfInBounds_toArray,List.set_cons_succ,List.set_cons_zero])
  | fail)
 refine Av.X.wpD_nil ?_
 intro w1 hr1 hend
 obtain ⟨g1,_,e17,hb17⟩:BoxL W.heap.size strT 3 [encStr (Go.Lib.itoa r.zxid),encStr (Go.Lib.itoa r.err),encStr (Go.Lib.itoa r.at_)] (.slice a17 3 3) w1:=hend 17 (by kernel_rfl)
 have HX1:=Lib.hid (HXW.out.next hr1 (fun i hi f=>by have:=HXW.out.size;rcases f with f|f;(focus omega);(focus exact f)))
 have hs17:Sl w1 1 (.slice a17 3 3) [Go.Lib.itoa r.zxid,Go.Lib.itoa r.err,Go.Lib.itoa r.at_].length ([Go.Lib.itoa r.zxid,Go.Lib.itoa r.err,Go.Lib.itoa r.at_].map encStr):=by
  rw [e17]
  exact Sl.of_block hb17 rfl (by decide) (Nat.le_refl _)
 have hl3:Go.Lib.lens [Go.Lib.itoa r.zxid,Go.Lib.itoa r.err,Go.Lib.itoa r.at_]≤63:=lens_le (B:=21) _ fun y hy=>by
  simp only [List.mem_cons,List.not_mem_nil,or_false] at hy
  rcases hy with rfl|rfl|rfl
  ·exact Go.Lib.itoa_length_le _ HO.out.n1.1 HO.out.n1.2
  ·exact Go.Lib.itoa_length_le _ HO.out.n2.1 HO.out.n2.2
  ·exact Go.Lib.itoa_length_le _ HO.out.n3.1 HO.out.n3.2
 have HJ:=Lib.hid (JoinL_any ⟨#[32]⟩ _ _ w1 hs17 (by show 3≤_;decide) (by show _+3*1≤_;omega))
 have hbj:=join_bnd [Go.Lib.itoa r.zxid,Go.Lib.itoa r.err,Go.Lib.itoa r.at_] [32]
 have HHS:Hid ((headT r).length≤100):=by
  show (Go.Lib.join _ _).length≤_
  have e3:[Go.Lib.itoa r.zxid,Go.Lib.itoa r.err,Go.Lib.itoa r.at_].length*[(32:UInt8)].length=3:=rfl
  omega
 change Hid (Calls _ _ _ w1 fun e w'=>e=.returned (.string (bA (headT r)))∧Ext w1 w') at HJ
 have hbx1:=HBX.out.kp hr1 (fun f=>by have:=HLT.out;rcases f with f|f;(focus omega);(focus exact f))
 have HB1:=Lib.hid hbx1
 clear hend hr1 hb17 hs17 hl3 hbj hbx1 HI1 HI2 HI3 e17
 go_wp2_with (fail)
 refine HJ.out.mono ?_
 rintro e w2 ⟨rfl,hx2⟩
 have HX2:=Lib.hid (HX1.out.trans hx2)
 have c4:=(HB1.out.kp hx2 (fun f=>f)).cell 4 _ rfl
 clear hx2 HJ
 go_wp2_with (fail)
 go_loopw [4,23] (fun s4 s23 wr=>AnLoop w r s4 s23 wr) (fun _ s23 _=>xs.length - (intOf s23).toNat)
 case atStart=>exact ⟨0,Nat.zero_le _,rfl,by rw [List.take_zero,List.flatMap_nil,List.append_nil];rfl,HX2.out⟩
 case round=>
  obtain ⟨k,hk,rfl,rfl,hxr⟩:=hrel
  have hxl:xs.length=r.res.length:=by rw [← HXS.out,List.length_map]
  rw [← hxl] at hk
  have HXR:=Lib.hid hxr
  have HXL:=Lib.hid hxl
  clear hxr hxl
  have hxn:xs.length≤1000:=by rw [HXL.out];exact HO.out.len
  by_cases hlt:k<xs.length
  ·obtain ⟨q,rfl,hq⟩:=own_open HRS.out.row (by omega)
   have hmem:=List.getElem_mem hlt
   have hnm:=HRS.out.nm _ hmem
   have hok:=HO.out.res xs[k].r (by rw [← HXS.out];exact List.mem_map_of_mem hmem)
   have HT:Hid ((r.res.take (k+1)).flatMap resT=(r.res.take k).flatMap resT++resT xs[k].r):=by
    show _=_
    have e1:r.res[k]'(by rw [← HXL.out];exact hlt)=xs[k].r:=by
     simp only [← HXS.out,List.getElem_map]
    rw [List.take_succ_eq_append_getElem (by rw [← HXL.out];exact hlt),List.flatMap_append,e1]
    simp
   have d:∀ j,j<11→∀ u,(rsE xs[k])[j]? = some u→wr.cell? ⟨q,k*11+j,none⟩=some u:=fun j hj u hu=>HXR.out.cell (hq _ _ (by rw [rowK_cell rsE 11 rsE_len xs k hlt j hj];exact hu)) (fun f=>f)
   generalize xs[k]=x at hnm hok HT d
   obtain ⟨⟨er,pa,da,nm,st⟩,nv⟩:=x
   obtain ⟨made,chg,ver,kids,own,len,cnt,sdata,snext,snames⟩:=st
   obtain ⟨na,nc,hnv⟩:=hnm.slice
   have hnv:nv=.slice na nm.length nc:=hnv
   subst hnv
   have c0:wr.cell? ⟨q,k*11,none⟩=some (.int .i64 er):=d 0 (by decide) _ rfl
   have c1:wr.cell? ⟨q,k*11+1,none⟩=some (.string pa):=d 1 (by decide) _ rfl
   have c2:wr.cell? ⟨q,k*11+2,none⟩=some (.string da):=d 2 (by decide) _ rfl
   have c3:wr.cell? ⟨q,k*11+3,none⟩=some (.slice na nm.length nc):=d 3 (by decide) _ rfl
   have c5:wr.cell? ⟨q,k*11+4,none⟩=some (.int .i64 made):=d 4 (by decide) _ rfl
   have c6:wr.cell? ⟨q,k*11+5,none⟩=some (.int .i64 chg):=d 5 (by decide) _ rfl
   have c7:wr.cell? ⟨q,k*11+6,none⟩=some (.int .i64 ver):=d 6 (by decide) _ rfl
   have c8:wr.cell? ⟨q,k*11+7,none⟩=some (.int .i64 kids):=d 7 (by decide) _ rfl
   have c9:wr.cell? ⟨q,k*11+8,none⟩=some (.int .i64 own):=d 8 (by decide) _ rfl
   have c10:wr.cell? ⟨q,k*11+9,none⟩=some (.int .i64 len):=d 9 (by decide) _ rfl
   have c11:wr.cell? ⟨q,k*11+10,none⟩=some (.int .i64 cnt):=d 10 (by decide) _ rfl
   have HNM:=Lib.hid hnm
   have HOK:=Lib.hid hok
   clear d hnm hok hmem hq c4
   go_upto_region 6 with (fail)
   obtain ⟨V,hV⟩:∃ V,wr.alloc (.cells #[.int .i64 er, .string pa, .string da, .slice na nm.length nc, .int .i64 made, .int .i64 chg, .int .i64 ver, .int .i64 kids, .int .i64 own, .int .i64 len, .int .i64 cnt] 44)=V:=⟨_,rfl⟩
   have hxV:Ext wr V:=by rw [← hV];exact (Kp.refl (fun _=>False) wr).alloc _
   have hbv:Blk V wr.heap.size #[.int .i64 er, .string pa, .string da, .slice na nm.length nc, .int .i64 made, .int .i64 chg, .int .i64 ver, .int .i64 kids, .int .i64 own, .int .i64 len, .int .i64 cnt] 44:=by rw [← hV];exact heap_alloc_new wr _
   rw [hV]
   have HBV:=Lib.hid hbv
   have HXV:=Lib.hid (HXR.out.trans hxV)
   have HVL:Hid (wr.heap.size<V.heap.size):=hbv.lt
   have HE1:Hid (∀ wq,Ext w wq→Calls Tryz.prog 219 #[.int .i64 er] wq fun e w'=>e=.returned (.string (bA (Go.Lib.itoa er)))∧Ext wq w'):=fun wq hq=>ItoaI_any _ HOK.out.1 wq (HG.out.ext hq)
   have HE2:Hid (∀ wq,Ext w wq→Calls Tryz.prog 219 #[.int .i64 ver] wq fun e w'=>e=.returned (.string (bA (Go.Lib.itoa ver)))∧Ext wq w'):=fun wq hq=>ItoaI_any _ HOK.out.2.1 wq (HG.out.ext hq)
   have HE3:Hid (∀ wq,Ext w wq→Calls Tryz.prog 219 #[.int .i64 kids] wq fun e w'=>e=.returned (.string (bA (Go.Lib.itoa kids)))∧Ext wq w'):=fun wq hq=>ItoaI_any _ HOK.out.2.2.1 wq (HG.out.ext hq)
   have HE4:Hid (∀ wq,Ext w wq→Calls Tryz.prog 182 #[.int .i64 own, .int .i64 10] wq fun e w'=>e=.returned (.string (bA (Go.Lib.itoa own)))∧Ext wq w'):=fun wq hq=>Fmt_any _ HOK.out.2.2.2.1 wq (HG.out.ext hq)
   have ht:∀ b:ByteArray,Hid (∀ wq,Calls Tryz.prog 222 #[.string b] wq fun e w'=>e=.returned (.string (bA (orT b.data.toList)))∧Ext wq w'):=fun b wq=>by
    have h1:=text_any b.data.toList wq
    rw [show bA b.data.toList=b from bytes_self b] at h1
    exact h1.mono fun _ _ ⟨he,hw⟩=>⟨he,hw ▸ Kp.refl _ _⟩
   have HT1:=ht pa
   have HT2:=ht da
   have HT3:Hid (∀ wq,Calls Tryz.prog 222 #[.string (bA (Go.Lib.join nm [44]))] wq fun e w'=>e=.returned (.string (bA (orT (Go.Lib.join nm [44]))))∧Ext wq w'):=fun wq=>(text_any _ wq).mono fun _ _ ⟨he,hw⟩=>⟨he,hw ▸ Kp.refl _ _⟩
   have hll:Go.Lib.lens nm+nm.length*1≤1000001000:=by
    have h1:=lens_le (B:=1000) nm HOK.out.2.2.2.2.2.2.2
    have h2:nm.length≤100000:=HOK.out.2.2.2.2.2.2.1
    omega
   have HJN:Hid (∀ wq,Ext w wq→Calls Tryz.prog 193 #[.slice na nm.length nc, .string ⟨#[44]⟩] wq fun e w'=>e=.returned (.string (bA (Go.Lib.join nm [44])))∧Ext wq w'):=fun wq hq=>
    JoinL_any ⟨#[44]⟩ _ nm wq (Sl.of_owns (ownsRow.ext HNM.out hq)) (by have h2:nm.length≤100000:=HOK.out.2.2.2.2.2.2.1;omega) (by show _+_*1≤_;omega)
   clear hV hxV hbv ht hll c0 c1 c2 c3 c5 c6 c7 c8 c9 c10 c11
   refine' Av.X.wp_region_dagG (fun _=>False) 26 [] [] ((27, .val _)::(28, .val _)::(29, .val _)::(30, .val _)::(31, .val _)::(32, .val _)::(33, .val _)::(34, .val _)::(35, .val _)::(36, .val _)::(37, .val _)::(38, .val _)::(39, .val _)::(40, .val _)::(41, .val _)::(42, .val _)::(43, .val _)::(44, .val _)::(45, .val _)::(46, .val _)::(47, .val _)::(48, .val _)::(49, .val _)::(50, .val _)::(51, .val _)::(52,⟨fun v=>∃ a,v=.slice a 7 7,fun v w'=>BoxL V.heap.size strT 7 [encStr (Go.Lib.itoa er),encStr (orT pa.data.toList),encStr (orT da.data.toList),encStr (orT (Go.Lib.join nm [44])),encStr (Go.Lib.itoa ver),encStr (Go.Lib.itoa kids),encStr (Go.Lib.itoa own)] v w'⟩)::[]) (by exact ⟨fun _ _ _ _ _=>trivial,⟨fun _ _ _ _ _=>trivial,⟨fun _ _ _ _ _=>trivial,⟨fun _ _ _ _ _=>trivial,⟨fun _ _ _ _ _=>trivial,⟨fun _ _ _ _ _=>trivial,⟨fun _ _ _ _ _=>trivial,⟨fun _ _ _ _ _=>trivial,⟨fun _ _ _ _ _=>trivial,⟨fun _ _ _ _ _=>trivial,⟨fun _ _ _ _ _=>trivial,⟨fun _ _ _ _ _=>trivial,⟨fun _ _ _ _ _=>trivial,⟨fun _ _ _ _ _=>trivial,⟨fun _ _ _ _ _=>trivial,⟨fun _ _ _ _ _=>trivial,⟨fun _ _ _ _ _=>trivial,⟨fun _ _ _ _ _=>trivial,⟨fun _ _ _ _ _=>trivial,⟨fun _ _ _ _ _=>trivial,⟨fun _ _ _ _ _=>trivial,⟨fun _ _ _ _ _=>trivial,⟨fun _ _ _ _ _=>trivial,⟨fun _ _ _ _ _=>trivial,⟨fun _ _ _ _ _=>trivial,⟨fun _ _ _ hr hv=>hv.ext hr,trivial⟩⟩⟩⟩⟩⟩⟩⟩⟩⟩⟩⟩⟩⟩⟩⟩⟩⟩⟩⟩⟩⟩⟩⟩⟩⟩) (by exact trivial) (by kernel_rfl) (by kernel_rfl) (by kernel_rfl) ?_
   rotate_left 25
   simp only [List.take_succ_cons,List.take_zero]
   repeat (first
    | (refine Av.X.wpD_skipv ?_ ?_ ?_
       focus rfl
       focus rfl
       simp only [Act.put,List.setIfInBounds_toArray,List.set_cons_succ,List.set_cons_zero])
    | (refine' Av.X.wpD_val (c:=_) ?_ (fun w=>Kp.refl _ w) ?_ (fun wq hwq hfz=>?_) ?_
       rotate_left
       focus rfl
       focus rfl
       focus (have hfq:=hfz.at_;have hcq:=hfz.use;(have hbq:=HBV.out.kp hwq (fun f=>by have:=HVL.out;rcases f with f|f;(focus omega);(focus exact f));have c0:=hbq.cell 0 _ rfl;have c1:=hbq.cell 1 _ rfl;have c2:=hbq.cell 2 _ rfl;have c3:=hbq.cell 3 _ rfl;have c6:=hbq.cell 6 _ rfl;have c7:=hbq.cell 7 _ rfl;have c8:=hbq.cell 8 _ rfl);go_simp;first|done|rfl)
       simp only [Act.put,List.setIfInBounds_toArray,List.set_cons_succ,List.set_cons_zero])
    | (refine' Av.X.wpD_con (c:=_) ?_ ?_ (fun wq hwq hfz=>?_) ?_
       rotate_left
       focus rfl
       focus rfl
       focus (have hfq:=hfz.at_;have hcq:=hfz.use;(have hbq:=HBV.out.kp hwq (fun f=>by have:=HVL.out;rcases f with f|f;(focus omega);(focus exact f));have c0:=hbq.cell 0 _ rfl;have c1:=hbq.cell 1 _ rfl;have c2:=hbq.cell 2 _ rfl;have c3:=hbq.cell 3 _ rfl;have c6:=hbq.cell 6 _ rfl;have c7:=hbq.cell 7 _ rfl;have c8:=hbq.cell 8 _ rfl);go_simp;(try (rw [dUpon_enter]));(have hgx:=HXV.out.next hwq (fun i hi f=>by have:=HXV.out.size;rcases f with f|f;(focus omega);(focus exact f));(first|((with_reducible refine (HE1.out wq hgx).mono ?_);rintro e w' ⟨rfl,hx⟩;exact DEnd.con hx)|((with_reducible refine (HE2.out wq hgx).mono ?_);rintro e w' ⟨rfl,hx⟩;exact DEnd.con hx)|((with_reducible refine (HE3.out wq hgx).mono ?_);rintro e w' ⟨rfl,hx⟩;exact DEnd.con hx)|((with_reducible refine (HE4.out wq hgx).mono ?_);rintro e w' ⟨rfl,hx⟩;exact DEnd.con hx)|((with_reducible refine (HJN.out wq hgx).mono ?_);rintro e w' ⟨rfl,hx⟩;exact DEnd.con hx)|((with_reducible refine (HT1.out wq).mono ?_);rintro e w' ⟨rfl,hx⟩;exact DEnd.con hx)|((with_reducible refine (HT2.out wq).mono ?_);rintro e w' ⟨rfl,hx⟩;exact DEnd.con hx)|((with_reducible refine (HT3.out wq).mono ?_);rintro e w' ⟨rfl,hx⟩;exact DEnd.con hx))))
       simp only [Act.put,List.setIfInBounds_toArray,List.set_cons_succ,List.set_cons_zero])
    | (refine Av.X.wpD_made (A:=fun v=>∃ a,v=.slice a 7 7) (V:=fun v w'=>BoxL V.heap.size strT 7 [encStr (Go.Lib.itoa er),encStr (orT pa.data.toList),encStr (orT da.data.toList),encStr (orT (Go.Lib.join nm [44])),encStr (Go.Lib.itoa ver),encStr (Go.Lib.itoa kids),encStr (Go.Lib.itoa own)] v w') 52 ?_ ?_ ?_ ?_ (fun wq hwq hfz=>?_) (fun v52 h52=>?_)
       focus rfl
       focus rfl
       focus (exact ⟨.slice none 7 7,_,rfl⟩)
       focus rfl
       focus (have hfq:=hfz.at_;have hcq:=hfz.use;(have hbq:=HBV.out.kp hwq (fun f=>by have:=HVL.out;rcases f with f|f;(focus omega);(focus exact f));have c0:=hbq.cell 0 _ rfl;have c1:=hbq.cell 1 _ rfl;have c2:=hbq.cell 2 _ rfl;have c3:=hbq.cell 3 _ rfl;have c6:=hbq.cell 6 _ rfl;have c7:=hbq.cell 7 _ rfl;have c8:=hbq.cell 8 _ rfl);go_simp;(try (rw [dUpon_enter]));rw [dUpon_value];exact mPost ⟨_,rfl⟩ (BoxL.new hwq.size) ((Kp.refl _ _).alloc _))
       obtain ⟨a52,rfl⟩:=h52
       simp only [Act.put,List.setIfInBounds_toArray,List.set_cons_succ,List.set_cons_zero])
    | fail)
   refine Av.X.wpD_nil ?_
   intro w7 hr7 hend
   obtain ⟨g7,_,e52,hb52⟩:BoxL V.heap.size strT 7 ([Go.Lib.itoa er,orT pa.data.toList,orT da.data.toList,orT (Go.Lib.join nm [44]),Go.Lib.itoa ver,Go.Lib.itoa kids,Go.Lib.itoa own].map encStr) (.slice a52 7 7) w7:=hend 52 (by kernel_rfl)
   have HX7:=Lib.hid (HXV.out.next hr7 (fun i hi f=>by have:=HXV.out.size;rcases f with f|f;(focus omega);(focus exact f)))
   have hs7:Sl w7 1 (.slice a52 7 7) [Go.Lib.itoa er,orT pa.data.toList,orT da.data.toList,orT (Go.Lib.join nm [44]),Go.Lib.itoa ver,Go.Lib.itoa kids,Go.Lib.itoa own].length ([Go.Lib.itoa er,orT pa.data.toList,orT da.data.toList,orT (Go.Lib.join nm [44]),Go.Lib.itoa ver,Go.Lib.itoa kids,Go.Lib.itoa own].map encStr):=by
    rw [e52]
    exact Sl.of_block hb52 rfl (by decide) (Nat.le_refl _)
   have HOK2:Go.Lib.lens [Go.Lib.itoa er,orT pa.data.toList,orT da.data.toList,orT (Go.Lib.join nm [44]),Go.Lib.itoa ver,Go.Lib.itoa kids,Go.Lib.itoa own]≤4000000000:=res_small HOK.out
   have hj7:=JoinL_any ⟨#[32]⟩ _ _ w7 hs7 (by show 7≤_;decide) (by show _+7*1≤_;omega)
   have hq7:=join_bnd [Go.Lib.itoa er,orT pa.data.toList,orT da.data.toList,orT (Go.Lib.join nm [44]),Go.Lib.itoa ver,Go.Lib.itoa kids,Go.Lib.itoa own] [32]
   have e77:[Go.Lib.itoa er,orT pa.data.toList,orT da.data.toList,orT (Go.Lib.join nm [44]),Go.Lib.itoa ver,Go.Lib.itoa kids,Go.Lib.itoa own].length*[(32:UInt8)].length=7:=rfl
   obtain ⟨Q,hQ⟩:∃ Q,Go.Lib.join [Go.Lib.itoa er,orT pa.data.toList,orT da.data.toList,orT (Go.Lib.join nm [44]),Go.Lib.itoa ver,Go.Lib.itoa kids,Go.Lib.itoa own] [32]=Q:=⟨_,rfl⟩
   change Calls _ _ _ w7 fun e w'=>e=.returned (.string (bA (Go.Lib.join [Go.Lib.itoa er,orT pa.data.toList,orT da.data.toList,orT (Go.Lib.join nm [44]),Go.Lib.itoa ver,Go.Lib.itoa kids,Go.Lib.itoa own] [32])))∧Ext w7 w' at hj7
   have hrt:resT ⟨er,pa,da,nm,⟨made,chg,ver,kids,own,len,cnt,sdata,snext,snames⟩⟩=59::Q:=by rw [← hQ];rfl
   have hpb:=flat_small HO.out k
   rw [hQ] at hj7 hq7
   have HJ7:=Lib.hid hj7
   have hqs:(bA Q).size≤8000000000:=by rw [bA_size];omega
   obtain ⟨P,hP⟩:∃ P,Go.Lib.join [Go.Lib.itoa r.zxid,Go.Lib.itoa r.err,Go.Lib.itoa r.at_] [32]++(r.res.take k).flatMap resT=P:=⟨_,rfl⟩
   have hps:(bA P).size≤9000000000000:=by
    rw [bA_size,← hP,List.length_append]
    have h5:(Go.Lib.join [Go.Lib.itoa r.zxid,Go.Lib.itoa r.err,Go.Lib.itoa r.at_] [32]).length≤100:=HHS.out
    omega
   have HFIN:Hid (bA (Go.Lib.join [Go.Lib.itoa r.zxid,Go.Lib.itoa r.err,Go.Lib.itoa r.at_] [32]++(r.res.take (k+1)).flatMap resT)=bA P++(⟨#[59]⟩++bA Q)):=by
    show _=_
    rw [HT.out,← List.append_assoc,hP,hrt,bA_app,bA_cons]
   rw [hP]
   clear hend hr7 hb52 hs7 hj7 hq7 hrt hpb hQ hP e52 HE1 HE2 HE3 HE4 HT1 HT2 HT3 HJN HOK2 e77
   generalize bA Q=BQ at *
   generalize bA P=BP at *
   go_wp2_with (fail)
   refine HJ7.out.mono ?_
   rintro e w8 ⟨rfl,hx8⟩
   have HX8:=Lib.hid (HX7.out.trans hx8)
   clear hx8 HJ7
   have s1:∀ wx,(Op.stringOp .add ⟨#[59]⟩ BQ).run Tryz.prog wx=.ok (.string (⟨#[59]⟩++BQ)) wx:=fun wx=>run_string_add_sum (P:=Tryz.prog) wx _ _ (by have:(⟨#[59]⟩:ByteArray).size=1:=rfl;omega)
   have hcs:(⟨#[59]⟩++BQ:ByteArray).size≤8000000001:=by rw [ByteArray.size_append];have:(⟨#[59]⟩:ByteArray).size=1:=rfl;omega
   obtain ⟨BR,hBR⟩:∃ BR,⟨#[59]⟩++BQ=BR:=⟨_,rfl⟩
   rw [hBR] at s1 hcs HFIN
   have s2:∀ wx,(Op.stringOp .add BP BR).run Tryz.prog wx=.ok (.string (BP++BR)) wx:=fun wx=>run_string_add_sum (P:=Tryz.prog) wx _ _ (by omega)
   clear hBR
   go_wp2_with (fail)
   go_light
   exact ⟨⟨k+1,by rw [← HXL.out];omega,by go_num,by rw [HFIN.out],HX8.out⟩,by simp [intOf];omega⟩
  ·have hk2:k=xs.length:=by omega
   subst hk2
   have HT:Hid (Go.Lib.join [Go.Lib.itoa r.zxid,Go.Lib.itoa r.err,Go.Lib.itoa r.at_] [32]++(r.res.take xs.length).flatMap resT=answerT r):=by
    show _=_
    rw [HXL.out,List.take_length]
    rfl
   rw [HT.out]
   go_wp2_with (fail)
   go_ret
   exact ⟨rfl,HXR.out⟩
end Go.Proofs.YtnlefnhdhigecaaGreatDoor

namespace Go.Proofs.YtnlefnhdhigecaaGreatDoor
set_option maxRecDepth 100000
open Go.RowKit Av
variable {w0 w w':World} {g C:Nat} {s:SoV}
set_option maxHeartbeats 800000 in
theorem play4_any (h:SoX w0 w g C s) (hC:C≤1000) (hG:GT w0) (sess num:Int) (u:Value) (ops:List OpV) (r:Nat) (hb:Blk w r #[.int .i64 sess, .int .i64 num,u] reqT) (ho:OpsAt w0 u ops) (hsz:OpsS ops) (hO:RplOk (askS s sess num ops).2) :
  Calls Tryz.prog 187 #[.pointer (some ⟨g,0,none⟩), .pointer (some ⟨r,0,none⟩)] w (LnPost w0 w g C s (.ask sess num ops)):=by
 have HC:=Lib.hid (soX_ask h hC hG (Kp.refl (fun _=>False) w) u ops sess num ho hsz)
 obtain ⟨ua,ul,uc,rfl⟩:∃ a n c,u=.slice a n c:=by
  obtain ⟨a,c,e,_⟩:=Sl.open ho.1
  exact ⟨a,_,c,e⟩
 have c0:=hb.cell 0 _ rfl
 have c1:=hb.cell 1 _ rfl
 have c2:=hb.cell 2 _ rfl
 have HG:=Lib.hid hG
 have HO:=Lib.hid hO
 clear hb h hG ho hsz hO
 go_enter Tryz.func187,Tryz.ntmps187
 go_wp2_with (fail)
 refine HC.out.mono ?_
 rintro e w1 ⟨v,rfl,hr,h1,h2⟩
 have HAN:=Lib.hid (answer_any _ v w1 (HG.out.ext h1.ex) hr HO.out)
 have H1:=Lib.hid h1
 have H2:=Lib.hid h2
 clear hr h1 h2 HC
 unfold rplA at HAN ⊢
 go_wp2_with (fail)
 refine HAN.out.mono ?_
 rintro e w2 ⟨rfl,hx⟩
 go_wp2_with (fail)
 go_ret
 exact ⟨rfl,H1.out.ext hx,H2.out.asd.trans (Asd.of hx)⟩
end Go.Proofs.YtnlefnhdhigecaaGreatDoor

namespace Go.Proofs.YtnlefnhdhigecaaGreatDoor
set_option maxRecDepth 100000
open Go.RowKit Av
variable {w0 w w':World} {g C:Nat} {s:SoV}
def TellOk (s:SoV):SAct→Prop
 | .opn n=>In64 (openO s n).2.1∧In64 (openO s n).2.2
 | .cls n=>In64 (closeO s n).2
 | .tick=>(∀ n∈(tickO s).2,In64 n)∧(tickO s).2.length≤1000000
 | .ask i n ops=>OpsS ops∧RplOk (askS s i n ops).2
 | .watch n p k=>p.length≤1000000∧In64 (watchO s ⟨n,bA p,k⟩).2
 | .evs n=>(∀ x∈s.ev n,In64 x.kind)∧(∀ x∈s.ev n,x.path.size≤1000000)∧(s.ev n).length≤1000000
 | .paths=>True
theorem line_any (h:SoX w0 w g C s) (hC:C≤1000) (hG:GT w0) (hr:s.room≤5000) (a:SAct) (v:Value) (hv:ClosAt w0 v (some a)) (ht:TellOk s a) :
  ∃ f cs,v=.func (.func f) #[] cs∧Calls Tryz.prog f (#[.pointer (some ⟨g,0,none⟩)]++cs) w (LnPost w0 w g C s a):=by
 have hw:=hv.ext h.ex
 match a,hv,hw,ht with
 | .opn n,_,⟨r,e,hb⟩,ht=>exact ⟨_,_,e,play1_any h hC hG n r hb ht.1 ht.2⟩
 | .cls n,_,⟨r,e,hb⟩,ht=>exact ⟨_,_,e,play2_any h hC hG hr n r hb ht⟩
 | .tick,_,e,ht=>exact ⟨_,_,e,play3_any h hC hG hr ht.1 ht.2⟩
 | .ask i n ops,⟨r,u,e,hb,ho⟩,_,ht=>exact ⟨_,_,e,play4_any h hC hG i n u ops r (hb.kp h.ex (fun f=>f)) (ops_owned ho) ht.1 ht.2⟩
 | .watch n p k,_,⟨r1,r2,r3,e,h1,h2,h3⟩,ht=>exact ⟨_,_,e,play5_any h hC hG n p k r1 r2 r3 h1 h2 h3 ht.1 ht.2⟩
 | .evs n,_,⟨r,e,hb⟩,ht=>exact ⟨_,_,e,play6_any h hG n r hb ht.1 ht.2.1 ht.2.2⟩
 | .paths,_,e,_=>exact ⟨_,_,e,play7_any h hC hr⟩
end Go.Proofs.YtnlefnhdhigecaaGreatDoor

