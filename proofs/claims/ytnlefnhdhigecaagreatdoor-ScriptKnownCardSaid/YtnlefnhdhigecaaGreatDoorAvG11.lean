/- Texts put together: AvWOpB, AvWTreeH, AvWTreeI, AvTreeS, AvOwnMap, AvWTreeJ. -/
import Derived.Test.YtnlefnhdhigecaaGreatDoorAvG10
import Derived.Test.YtnlefnhdhigecaaGreatDoorAvG7
import Derived.Test.YtnlefnhdhigecaaGreatDoorAvG8
import Derived.Test.YtnlefnhdhigecaaGreatDoorAvG5
import Derived.Maps.Own
import Derived.Sort.KeysCollected
import Derived.Test.YtnlefnhdhigecaaGreatDoorShelfJ
namespace Go.Proofs.YtnlefnhdhigecaaGreatDoor
set_option maxRecDepth 100000
open Go.RowKit Av
theorem flags_cases {o:OpV} (h:formedB o=true):o.flags=0∨o.flags=1∨o.flags=2∨o.flags=3:=by
 simp only [formedB,Bool.and_eq_true,decide_eq_true_eq] at h
 omega
set_option maxHeartbeats 1600000 in
theorem numbered_any (o:OpV) (w:World) (hG:GT w) (hp:o.path.size≤maxLen) (h:formedB o=true) :
  Calls Tryz.prog 150 #[o.val] w fun e w'=>e=.returned (.bool (numberedB o))∧Ext w w':=by
 have hf:=flags_cases h
 obtain ⟨k,p,d,v,f⟩:=o
 unfold OpV.val
 simp only at hp hf ⊢
 have HN:=Lib.hid (fun W (k:Ext w W)=>pathNumber_any p 0 W (hG.ext k) hp)
 have HP:=Lib.hid (fun W (k:Ext w W)=>Parts_any p W (hG.gl.ext k) hp)
 obtain ⟨n,hn⟩:∃ n,(partsL p.data.toList).length=n:=⟨_,rfl⟩
 obtain ⟨s,hs⟩:∃ s,optS (numberL p.data.toList 0)=s:=⟨_,rfl⟩
 obtain ⟨b,hb⟩:∃ b,(numberL p.data.toList 0).isSome=b:=⟨_,rfl⟩
 have HF:Hid (∀ (g:Int),numberedB ⟨k,p,d,v,g⟩=(decide (g<2)||(decide (1<n)&&b))):=by
  show ∀ g,_
  intro g
  unfold numberedB
  simp only [hn,hb]
 have he:errI (numberL p.data.toList 0)=if b then 0 else 1:=by unfold errI;rw [hb]
 rw [hs,he] at HN
 have HL:=Lib.hid hn
 have hn8:n≤8:=by rw [← hn];exact parts_len _
 clear hs he hb hn h
 rcases hf with rfl|rfl|rfl|rfl
 ·go_enter Tryz.func150,Tryz.ntmps150
  go_wp2_with (fail)
  go_ret
  go_light
  exact ⟨ret_bool (by rw [HF.out];rfl),(Kp.refl _ _).alloc _⟩
 ·go_enter Tryz.func150,Tryz.ntmps150
  go_wp2_with (fail)
  go_ret
  go_light
  exact ⟨ret_bool (by rw [HF.out];rfl),(Kp.refl _ _).alloc _⟩
 all_goals
  cases b
  all_goals
   go_enter Tryz.func150,Tryz.ntmps150
   go_wp2_with (fail)
   refine (HN.out _ ((Kp.refl _ _).alloc _)).mono ?_
   rintro e w1 ⟨rfl,hx⟩
   have hxc:=ext_cells hx
   simp only [Bool.false_eq_true,if_true,if_false]
   go_wp2_with (fail)
   refine (HP.out _ (((Kp.refl _ _).alloc _).ext hx)).mono ?_
   rintro e w2 ⟨v,ps,rfl,hps,hst,hx2⟩
   obtain ⟨a',c',rfl,_,_,_⟩:=Strs.open hst
   have hl:ps.length=n:=by rw [← HL.out,← hps,List.length_map]
   rw [hl]
   clear hst hps hl
   by_cases h1:1<n
   all_goals
    go_wp2_with (fail)
    go_ret
    go_light
    exact ⟨ret_bool (by rw [HF.out];simp [h1]),(((Kp.refl _ _).alloc _).ext hx).ext hx2⟩
theorem box_cells {w W:World} {k:Int} {p d:ByteArray} {v f:Int} {T:TypeId} (h:Ext (w.alloc (.cells #[.int .i64 k, .string p, .string d, .int .i64 v, .int .i64 f] T)) W) :
  W.cell? ⟨w.heap.size,0,none⟩=some (.int .i64 k)∧W.cell? ⟨w.heap.size,1,none⟩=some (.string p)∧W.cell? ⟨w.heap.size,2,none⟩=some (.string d)∧W.cell? ⟨w.heap.size,3,none⟩=some (.int .i64 v)∧W.cell? ⟨w.heap.size,4,none⟩=some (.int .i64 f):=by
 refine ⟨?_, ?_, ?_, ?_, ?_⟩<;>exact h.cell (by simp) (fun f=>f)
set_option maxHeartbeats 1600000 in
theorem opGood_any (o:OpV) (w:World) (hG:GT w) (hp:o.path.size≤maxLen) (hd:o.data.size≤maxLen) :
  Calls Tryz.prog 107 #[o.val] w fun e w'=>e=.returned (.int .i64 (goodO o))∧Ext w w':=by
 have H1:=Lib.hid (fun W (k:Ext w W)=>formed_any o W (hG.gl.ext k) hp)
 have H2:=Lib.hid (fun W (_:Ext w W)=>own_any o W hd)
 have H3:=Lib.hid (fun W (k:Ext w W) h=>numbered_any o W (hG.ext k) hp h)
 have HF:Hid (goodO o=if formedB o then (if 1000<o.data.size then 2 else if ownB o&&numberedB o then 0 else 1) else 1):=by show _=_;rfl
 obtain ⟨k,p,d,v,f⟩:=o
 generalize formedB ⟨k,p,d,v,f⟩=b1 at *
 generalize ownB ⟨k,p,d,v,f⟩=b2 at *
 generalize numberedB ⟨k,p,d,v,f⟩=b3 at *
 generalize goodO ⟨k,p,d,v,f⟩=g at *
 unfold OpV.val at *
 simp only at hp hd H1 H2 H3 HF ⊢
 unfold maxLen at hd
 have hE0:Ext w (w.alloc (.cells #[.int .i64 k, .string p, .string d, .int .i64 v, .int .i64 f] 33)):=(Kp.refl _ _).alloc _
 go_enter Tryz.func107,Tryz.ntmps107
 go_wp2_with (fail)
 refine (H1.out _ hE0).mono ?_
 rintro e w1 ⟨rfl,hx1⟩
 obtain ⟨x0,x1,x2,x3,x4⟩:=box_cells hx1
 have hE1:=hE0.ext hx1
 cases b1 with
 | false=>
   go_wp2_with (fail)
   go_ret
   go_light
   exact ⟨ret_val (by rw [HF.out];rfl),hE1⟩
 | true=>
   by_cases hbig:d.size≤1000
   ·go_wp2_with (fail)
    refine (H2.out _ hE1).mono ?_
    rintro e w2 ⟨rfl,hx2⟩
    obtain ⟨y0,y1,y2,y3,y4⟩:=box_cells (hx1.ext hx2)
    have hE2:=hE1.ext hx2
    have hbig':¬ 1000<d.size:=by omega
    cases b2 with
    | false=>
      go_wp2_with (fail)
      go_ret
      go_light
      exact ⟨ret_val (by rw [HF.out];first|(simp [hbig'];done)|(simp [hbig'];rfl)),hE2⟩
    | true=>
      go_wp2_with (fail)
      refine (H3.out _ hE2 trivial).mono ?_
      rintro e w3 ⟨rfl,hx3⟩
      have hE3:=hE2.ext hx3
      cases b3
      all_goals
       go_wp2_with (fail)
       go_ret
       go_light
       exact ⟨ret_val (by rw [HF.out];first|(simp [hbig'];done)|(simp [hbig'];rfl)),hE3⟩
   ·have hbig':1000<d.size:=by omega
    go_wp2_with (fail)
    go_ret
    go_light
    exact ⟨ret_val (by rw [HF.out];first|(simp [hbig'];done)|(simp [hbig'];rfl)),hE1⟩
end Go.Proofs.YtnlefnhdhigecaaGreatDoor

namespace Go.Proofs.YtnlefnhdhigecaaGreatDoor
set_option maxRecDepth 100000
open Go.RowKit Av
theorem good_flags {o:OpV} (h:goodO o=0):0≤o.flags∧o.flags≤3:=by
 unfold goodO at h
 split at h
 ·rename_i h1
  unfold formedB at h1
  simp only [Bool.and_eq_true,decide_eq_true_eq] at h1
  omega
 ·exact absurd h (by decide)
set_option maxHeartbeats 6400000 in
theorem do_any (base b m:Nat) (room:Int) (t:Tr) (k:Int) (p d:ByteArray) (v f sess z:Int) (only:Bool) (w0 w:World) (hT:TreeR w base b m room t) (hok:TrOk t) (hG0:GT w0) (hb0:w0.heap.size≤base) (hE:Ext w0 w) (hp:p.size≤1000000) (hd:d.size≤1000000) :
  Calls Tryz.prog 59 #[.pointer (some ⟨b,0,none⟩), .agg #[.int .i64 k, .string p, .string d, .int .i64 v, .int .i64 f], .int .i64 sess, .int .i64 z, .bool only] w fun e w'=>DoPost w base b m room t (doP room (pl t) ⟨k,p,d,v,f⟩ sess z only) e w':=by
 obtain ⟨wA,hWA⟩:∃ wA,w.alloc (.cells #[.int .i64 k, .string p, .string d, .int .i64 v, .int .i64 f] 33)=wA:=⟨_,rfl⟩
 have hxA:Ext w wA:=by rw [← hWA];exact (Kp.refl _ _).alloc _
 have hA:Blk wA w.heap.size #[.int .i64 k, .string p, .string d, .int .i64 v, .int .i64 f] 33:=by rw [← hWA];exact heap_alloc_new w _
 obtain ⟨wB,hWB⟩:∃ wB,wA.alloc (.cells rsZ rsuT)=wB:=⟨_,rfl⟩
 have hxB:Ext wA wB:=by rw [← hWB];exact (Kp.refl _ _).alloc _
 have hsA:wA.heap.size=w.heap.size+1:=by rw [← hWA];exact World.size_alloc _ _
 have hB:Blk wB (w.heap.size+1) rsZ rsuT:=by rw [← hWB,← hsA];exact heap_alloc_new wA _
 have HAB:=Lib.hid (hA.kp hxB (fun f=>f))
 have HB:=Lib.hid hB
 have HXB:=Lib.hid (hxA.ext hxB)
 have HTB:=Lib.hid (hT.ext (hxA.ext hxB))
 have HWA:=Lib.hid hWA
 unfold rsZ at hWB
 have HWB:=Lib.hid hWB
 have HOK:=Lib.hid hok
 have HFR:Hid (∀ i,nodeFr m t i→i<w.heap.size):=by
  rintro i (rfl|⟨e,he,rfl⟩)
  ·exact hT.map.lt
  ·exact (hT.nod e he).lt
 have HGO:=Lib.hid (opGood_any ⟨k,p,d,v,f⟩ wB (hG0.ext (hE.ext (hxA.ext hxB))) (by unfold maxLen;simp only;omega) (by unfold maxLen;simp only;omega))
 have HX:=Lib.hid (And.intro hb0 (And.intro hE (And.intro hG0 hp)))
 have HC:Hid (doP room (pl t) ⟨k,p,d,v,f⟩ sess z only=if goodO ⟨k,p,d,v,f⟩≠0 then (pl t,failR (goodO ⟨k,p,d,v,f⟩)) else
  if sess<1∨z<0 then (pl t,failR 1) else
  if k=1 then createP room (pl t) ⟨k,p,d,v,f⟩ sess z only else
  if k=2∨k=3∨k=4 then changeP (pl t) ⟨k,p,d,v,f⟩ z only else (pl t,readP (pl t) ⟨k,p,d,v,f⟩)):=rfl
 have HGF:Hid (goodO ⟨k,p,d,v,f⟩=0→0≤f∧f≤3):=fun h=>good_flags h
 generalize doP room (pl t) ⟨k,p,d,v,f⟩ sess z only=R at HC ⊢
 generalize goodO ⟨k,p,d,v,f⟩=E at HC HGO HGF
 unfold OpV.val at HGO
 clear hWA hxA hA hWB hxB hB hsA hok hb0 hE hG0 hp hT hd
 go_enter Tryz.func59,Tryz.ntmps59
 go_upto_region 1 with (fail)
 rw [HWA.out]
 rw [HWB.out]
 have hab:=HAB.out
 have a0:=hab.cell 0 _ rfl
 have a1:=hab.cell 1 _ rfl
 have a2:=hab.cell 2 _ rfl
 have a3:=hab.cell 3 _ rfl
 have a4:=hab.cell 4 _ rfl
 clear hab
 go_wp2_with (fail)
 refine HGO.out.mono ?_
 rintro e1 w2 ⟨rfl,hx2⟩
 have HX2:=Lib.hid hx2
 clear HGO hx2 a0 a1 a2 a3 a4
 by_cases hE0:E=0
 ·subst hE0
  have HC2:=HC.out
  rw [if_neg (by simp)] at HC2
  by_cases h1:sess<1
  ·have HE:Hid (R=(pl t,failR 1)):=HC2.trans (if_pos (.inl h1))
   clear HC HC2
   go_wp2_with (fail)
   refine (fail_any 1 _).mono ?_
   rintro e9 w9 ⟨rfl,hx9⟩
   have hB9:=(HB.out.kp HX2.out (fun f=>f)).kp hx9 (fun f=>f)
   have HT9:=Lib.hid ((HTB.out.ext HX2.out).ext hx9)
   have HB9:=Lib.hid hB9
   have HX9:=Lib.hid ((HXB.out.ext HX2.out).ext hx9)
   unfold rsZ at hB9
   have c0:=hB9.cell 0 _ rfl
   have c1:=hB9.cell 1 _ rfl
   have c2:=hB9.cell 2 _ rfl
   have c3:=hB9.cell 3 _ rfl
   have c4:=hB9.cell 4 _ rfl
   have c5:=hB9.cell 5 _ rfl
   have c6:=hB9.cell 6 _ rfl
   have c7:=hB9.cell 7 _ rfl
   have c8:=hB9.cell 8 _ rfl
   have c9:=hB9.cell 9 _ rfl
   have c10:=hB9.cell 10 _ rfl
   have fc0:=hB9.free 0
   have fc1:=hB9.free 1
   have fc2:=hB9.free 2
   have fc3:=hB9.free 3
   have fc4:=hB9.free 4
   have fc5:=hB9.free 5
   have fc6:=hB9.free 6
   have fc7:=hB9.free 7
   have fc8:=hB9.free 8
   have fc9:=hB9.free 9
   have fc10:=hB9.free 10
   clear hB9 hx9
   unfold resA
   go_wp2_with (fail)
   go_light
   refine bodyPost_ret (v:=resA 1 ⟨#[]⟩ ⟨#[]⟩ (.slice none 0 0) ndZ) (by simp [results,Tryz.results59,go_sem,resA,ndZ,c0,c1,c2,c3,c4,c5,c6,c7,c8,c9,c10]) rfl ?_
   rw [HE.out]
   have k11:=kp_set11 w9 (w.heap.size+1) (.int .i64 1) (.string ⟨#[]⟩) (.string ⟨#[]⟩) (.slice none 0 0) (.int .i64 0) (.int .i64 0) (.int .i64 0) (.int .i64 0) (.int .i64 0) (.int .i64 0) (.int .i64 0)
   exact ⟨t, .slice none 0 0,rfl,own_nil _,HT9.out.aside HB9.out (by decide) (by decide) (by decide) k11,rfl,(Ext.kp HX9.out).next k11 (fun i hi e=>by omega),Fresh.refl _ _⟩
  ·by_cases h2:z<0
   ·have HE:Hid (R=(pl t,failR 1)):=HC2.trans (if_pos (.inr h2))
    clear HC HC2
    go_wp2_with (fail)
    refine (fail_any 1 _).mono ?_
    rintro e9 w9 ⟨rfl,hx9⟩
    have hB9:=(HB.out.kp HX2.out (fun f=>f)).kp hx9 (fun f=>f)
    have HT9:=Lib.hid ((HTB.out.ext HX2.out).ext hx9)
    have HB9:=Lib.hid hB9
    have HX9:=Lib.hid ((HXB.out.ext HX2.out).ext hx9)
    unfold rsZ at hB9
    have c0:=hB9.cell 0 _ rfl
    have c1:=hB9.cell 1 _ rfl
    have c2:=hB9.cell 2 _ rfl
    have c3:=hB9.cell 3 _ rfl
    have c4:=hB9.cell 4 _ rfl
    have c5:=hB9.cell 5 _ rfl
    have c6:=hB9.cell 6 _ rfl
    have c7:=hB9.cell 7 _ rfl
    have c8:=hB9.cell 8 _ rfl
    have c9:=hB9.cell 9 _ rfl
    have c10:=hB9.cell 10 _ rfl
    have fc0:=hB9.free 0
    have fc1:=hB9.free 1
    have fc2:=hB9.free 2
    have fc3:=hB9.free 3
    have fc4:=hB9.free 4
    have fc5:=hB9.free 5
    have fc6:=hB9.free 6
    have fc7:=hB9.free 7
    have fc8:=hB9.free 8
    have fc9:=hB9.free 9
    have fc10:=hB9.free 10
    clear hB9 hx9
    unfold resA
    go_wp2_with (fail)
    go_light
    refine bodyPost_ret (v:=resA 1 ⟨#[]⟩ ⟨#[]⟩ (.slice none 0 0) ndZ) (by simp [results,Tryz.results59,go_sem,resA,ndZ,c0,c1,c2,c3,c4,c5,c6,c7,c8,c9,c10]) rfl ?_
    rw [HE.out]
    have k11:=kp_set11 w9 (w.heap.size+1) (.int .i64 1) (.string ⟨#[]⟩) (.string ⟨#[]⟩) (.slice none 0 0) (.int .i64 0) (.int .i64 0) (.int .i64 0) (.int .i64 0) (.int .i64 0) (.int .i64 0) (.int .i64 0)
    exact ⟨t, .slice none 0 0,rfl,own_nil _,HT9.out.aside HB9.out (by decide) (by decide) (by decide) k11,rfl,(Ext.kp HX9.out).next k11 (fun i hi e=>by omega),Fresh.refl _ _⟩
   ·rw [if_neg (by omega)] at HC2
    have ha2:=HAB.out.kp HX2.out (fun f=>f)
    have a0:=ha2.cell 0 _ rfl
    have a1:=ha2.cell 1 _ rfl
    have a2:=ha2.cell 2 _ rfl
    have a3:=ha2.cell 3 _ rfl
    have a4:=ha2.cell 4 _ rfl
    clear ha2 HC
    by_cases k1:k=1
    ·subst k1
     rw [if_pos rfl] at HC2
     have HCR:=Lib.hid (create_any base b m room t 1 p d v f sess z only w0 w2 (HTB.out.ext HX2.out) HOK.out HX.out.2.2.1 HX.out.1 (HX.out.2.1.ext (HXB.out.ext HX2.out)) HX.out.2.2.2 (HGF.out rfl).1 (HGF.out rfl).2)
     rw [← HC2] at HCR
     clear HC2
     go_wp2_with (fail)
     refine HCR.out.mono ?_
     rintro e1 w6 ⟨t',nv,rfl,ho6,ht6,hp6,hk6,hf6⟩
     have HF6:=Lib.hid hf6
     obtain ⟨na,nc,rfl⟩:=owns_slice ho6
     have hB6:=(HB.out.kp HX2.out (fun f=>f)).kp hk6 (fun h=>by have:=HFR.out _ h;omega)
     have HB6:=Lib.hid hB6
     have HT6:=Lib.hid ht6
     have HO6:=Lib.hid ho6
     have HP6:=Lib.hid hp6
     have HK6:Hid (Kp (nodeFr m t) w w6):=(Ext.kp (HXB.out.ext HX2.out)).trans hk6
     unfold rsZ at hB6
     have c0:=hB6.cell 0 _ rfl
     have c1:=hB6.cell 1 _ rfl
     have c2:=hB6.cell 2 _ rfl
     have c3:=hB6.cell 3 _ rfl
     have c4:=hB6.cell 4 _ rfl
     have c5:=hB6.cell 5 _ rfl
     have c6:=hB6.cell 6 _ rfl
     have c7:=hB6.cell 7 _ rfl
     have c8:=hB6.cell 8 _ rfl
     have c9:=hB6.cell 9 _ rfl
     have c10:=hB6.cell 10 _ rfl
     have fc0:=hB6.free 0
     have fc1:=hB6.free 1
     have fc2:=hB6.free 2
     have fc3:=hB6.free 3
     have fc4:=hB6.free 4
     have fc5:=hB6.free 5
     have fc6:=hB6.free 6
     have fc7:=hB6.free 7
     have fc8:=hB6.free 8
     have fc9:=hB6.free 9
     have fc10:=hB6.free 10
     clear hB6 ht6 ho6 hp6 hk6 hf6 HCR
     unfold resA
     go_wp2_with (fail)
     go_light
     refine bodyPost_ret (v:=resA R.2.err R.2.path R.2.data (.slice na R.2.names.length nc) R.2.st) (by simp [results,Tryz.results59,go_sem,resA,c0,c1,c2,c3,c4,c5,c6,c7,c8,c9,c10]) rfl ?_
     have k11:=kp_set11 w6 (w.heap.size+1) (.int .i64 R.2.err) (.string R.2.path) (.string R.2.data) (.slice na R.2.names.length nc) (.int .i64 R.2.st.made) (.int .i64 R.2.st.chg) (.int .i64 R.2.st.ver) (.int .i64 R.2.st.kids) (.int .i64 R.2.st.own) (.int .i64 R.2.st.len) (.int .i64 R.2.st.cnt)
     exact ⟨t',_,rfl,own_aside HO6.out HB6.out (by decide) k11,HT6.out.aside HB6.out (by decide) (by decide) (by decide) k11,HP6.out,HK6.out.next k11 (fun i hi e=>by omega),HF6.out.mono (HXB.out.ext HX2.out).size⟩
    ·rw [if_neg k1] at HC2
     by_cases k234:k=2∨k=3∨k=4
     ·rw [if_pos k234] at HC2
      have HCR:=Lib.hid (change_any base b m room t k p d v f z only w0 w2 (HTB.out.ext HX2.out) HOK.out HX.out.2.2.1 HX.out.1 (HX.out.2.1.ext (HXB.out.ext HX2.out)) HX.out.2.2.2)
      rw [← HC2] at HCR
      clear HC2 k1
      rcases k234 with rfl|rfl|rfl
      ·go_wp2_with (fail)
       refine HCR.out.mono ?_
       rintro e1 w6 ⟨t',nv,rfl,ho6,ht6,hp6,hk6,hf6⟩
       have HF6:=Lib.hid hf6
       obtain ⟨na,nc,rfl⟩:=owns_slice ho6
       have hB6:=(HB.out.kp HX2.out (fun f=>f)).kp hk6 (fun h=>by have:=HFR.out _ h;omega)
       have HB6:=Lib.hid hB6
       have HT6:=Lib.hid ht6
       have HO6:=Lib.hid ho6
       have HP6:=Lib.hid hp6
       have HK6:Hid (Kp (nodeFr m t) w w6):=(Ext.kp (HXB.out.ext HX2.out)).trans hk6
       unfold rsZ at hB6
       have c0:=hB6.cell 0 _ rfl
       have c1:=hB6.cell 1 _ rfl
       have c2:=hB6.cell 2 _ rfl
       have c3:=hB6.cell 3 _ rfl
       have c4:=hB6.cell 4 _ rfl
       have c5:=hB6.cell 5 _ rfl
       have c6:=hB6.cell 6 _ rfl
       have c7:=hB6.cell 7 _ rfl
       have c8:=hB6.cell 8 _ rfl
       have c9:=hB6.cell 9 _ rfl
       have c10:=hB6.cell 10 _ rfl
       have fc0:=hB6.free 0
       have fc1:=hB6.free 1
       have fc2:=hB6.free 2
       have fc3:=hB6.free 3
       have fc4:=hB6.free 4
       have fc5:=hB6.free 5
       have fc6:=hB6.free 6
       have fc7:=hB6.free 7
       have fc8:=hB6.free 8
       have fc9:=hB6.free 9
       have fc10:=hB6.free 10
       clear hB6 ht6 ho6 hp6 hk6 hf6 HCR
       unfold resA
       go_wp2_with (fail)
       go_light
       refine bodyPost_ret (v:=resA R.2.err R.2.path R.2.data (.slice na R.2.names.length nc) R.2.st) (by simp [results,Tryz.results59,go_sem,resA,c0,c1,c2,c3,c4,c5,c6,c7,c8,c9,c10]) rfl ?_
       have k11:=kp_set11 w6 (w.heap.size+1) (.int .i64 R.2.err) (.string R.2.path) (.string R.2.data) (.slice na R.2.names.length nc) (.int .i64 R.2.st.made) (.int .i64 R.2.st.chg) (.int .i64 R.2.st.ver) (.int .i64 R.2.st.kids) (.int .i64 R.2.st.own) (.int .i64 R.2.st.len) (.int .i64 R.2.st.cnt)
       exact ⟨t',_,rfl,own_aside HO6.out HB6.out (by decide) k11,HT6.out.aside HB6.out (by decide) (by decide) (by decide) k11,HP6.out,HK6.out.next k11 (fun i hi e=>by omega),HF6.out.mono (HXB.out.ext HX2.out).size⟩
      ·go_wp2_with (fail)
       refine HCR.out.mono ?_
       rintro e1 w6 ⟨t',nv,rfl,ho6,ht6,hp6,hk6,hf6⟩
       have HF6:=Lib.hid hf6
       obtain ⟨na,nc,rfl⟩:=owns_slice ho6
       have hB6:=(HB.out.kp HX2.out (fun f=>f)).kp hk6 (fun h=>by have:=HFR.out _ h;omega)
       have HB6:=Lib.hid hB6
       have HT6:=Lib.hid ht6
       have HO6:=Lib.hid ho6
       have HP6:=Lib.hid hp6
       have HK6:Hid (Kp (nodeFr m t) w w6):=(Ext.kp (HXB.out.ext HX2.out)).trans hk6
       unfold rsZ at hB6
       have c0:=hB6.cell 0 _ rfl
       have c1:=hB6.cell 1 _ rfl
       have c2:=hB6.cell 2 _ rfl
       have c3:=hB6.cell 3 _ rfl
       have c4:=hB6.cell 4 _ rfl
       have c5:=hB6.cell 5 _ rfl
       have c6:=hB6.cell 6 _ rfl
       have c7:=hB6.cell 7 _ rfl
       have c8:=hB6.cell 8 _ rfl
       have c9:=hB6.cell 9 _ rfl
       have c10:=hB6.cell 10 _ rfl
       have fc0:=hB6.free 0
       have fc1:=hB6.free 1
       have fc2:=hB6.free 2
       have fc3:=hB6.free 3
       have fc4:=hB6.free 4
       have fc5:=hB6.free 5
       have fc6:=hB6.free 6
       have fc7:=hB6.free 7
       have fc8:=hB6.free 8
       have fc9:=hB6.free 9
       have fc10:=hB6.free 10
       clear hB6 ht6 ho6 hp6 hk6 hf6 HCR
       unfold resA
       go_wp2_with (fail)
       go_light
       refine bodyPost_ret (v:=resA R.2.err R.2.path R.2.data (.slice na R.2.names.length nc) R.2.st) (by simp [results,Tryz.results59,go_sem,resA,c0,c1,c2,c3,c4,c5,c6,c7,c8,c9,c10]) rfl ?_
       have k11:=kp_set11 w6 (w.heap.size+1) (.int .i64 R.2.err) (.string R.2.path) (.string R.2.data) (.slice na R.2.names.length nc) (.int .i64 R.2.st.made) (.int .i64 R.2.st.chg) (.int .i64 R.2.st.ver) (.int .i64 R.2.st.kids) (.int .i64 R.2.st.own) (.int .i64 R.2.st.len) (.int .i64 R.2.st.cnt)
       exact ⟨t',_,rfl,own_aside HO6.out HB6.out (by decide) k11,HT6.out.aside HB6.out (by decide) (by decide) (by decide) k11,HP6.out,HK6.out.next k11 (fun i hi e=>by omega),HF6.out.mono (HXB.out.ext HX2.out).size⟩
      ·go_wp2_with (fail)
       refine HCR.out.mono ?_
       rintro e1 w6 ⟨t',nv,rfl,ho6,ht6,hp6,hk6,hf6⟩
       have HF6:=Lib.hid hf6
       obtain ⟨na,nc,rfl⟩:=owns_slice ho6
       have hB6:=(HB.out.kp HX2.out (fun f=>f)).kp hk6 (fun h=>by have:=HFR.out _ h;omega)
       have HB6:=Lib.hid hB6
       have HT6:=Lib.hid ht6
       have HO6:=Lib.hid ho6
       have HP6:=Lib.hid hp6
       have HK6:Hid (Kp (nodeFr m t) w w6):=(Ext.kp (HXB.out.ext HX2.out)).trans hk6
       unfold rsZ at hB6
       have c0:=hB6.cell 0 _ rfl
       have c1:=hB6.cell 1 _ rfl
       have c2:=hB6.cell 2 _ rfl
       have c3:=hB6.cell 3 _ rfl
       have c4:=hB6.cell 4 _ rfl
       have c5:=hB6.cell 5 _ rfl
       have c6:=hB6.cell 6 _ rfl
       have c7:=hB6.cell 7 _ rfl
       have c8:=hB6.cell 8 _ rfl
       have c9:=hB6.cell 9 _ rfl
       have c10:=hB6.cell 10 _ rfl
       have fc0:=hB6.free 0
       have fc1:=hB6.free 1
       have fc2:=hB6.free 2
       have fc3:=hB6.free 3
       have fc4:=hB6.free 4
       have fc5:=hB6.free 5
       have fc6:=hB6.free 6
       have fc7:=hB6.free 7
       have fc8:=hB6.free 8
       have fc9:=hB6.free 9
       have fc10:=hB6.free 10
       clear hB6 ht6 ho6 hp6 hk6 hf6 HCR
       unfold resA
       go_wp2_with (fail)
       go_light
       refine bodyPost_ret (v:=resA R.2.err R.2.path R.2.data (.slice na R.2.names.length nc) R.2.st) (by simp [results,Tryz.results59,go_sem,resA,c0,c1,c2,c3,c4,c5,c6,c7,c8,c9,c10]) rfl ?_
       have k11:=kp_set11 w6 (w.heap.size+1) (.int .i64 R.2.err) (.string R.2.path) (.string R.2.data) (.slice na R.2.names.length nc) (.int .i64 R.2.st.made) (.int .i64 R.2.st.chg) (.int .i64 R.2.st.ver) (.int .i64 R.2.st.kids) (.int .i64 R.2.st.own) (.int .i64 R.2.st.len) (.int .i64 R.2.st.cnt)
       exact ⟨t',_,rfl,own_aside HO6.out HB6.out (by decide) k11,HT6.out.aside HB6.out (by decide) (by decide) (by decide) k11,HP6.out,HK6.out.next k11 (fun i hi e=>by omega),HF6.out.mono (HXB.out.ext HX2.out).size⟩
     ·rw [if_neg k234] at HC2
      have HCR:=Lib.hid (read_any base b m room t k p d v f w2 (HTB.out.ext HX2.out) HOK.out)
      rw [← HC2] at HCR
      have e1:(k == 1)=false:=by simpa using k1
      have e2:(k == 2)=false:=by simpa using fun h=>k234 (.inl h)
      have e3:(k == 3)=false:=by simpa using fun h=>k234 (.inr (.inl h))
      have e4:(k == 4)=false:=by simpa using fun h=>k234 (.inr (.inr h))
      clear HC2 k1 k234
      go_wp2_with (fail)
      refine HCR.out.mono ?_
      rintro e1 w6 ⟨t',nv,rfl,ho6,ht6,hp6,hk6,hf6⟩
      have HF6:=Lib.hid hf6
      obtain ⟨na,nc,rfl⟩:=owns_slice ho6
      have hB6:=(HB.out.kp HX2.out (fun f=>f)).kp hk6 (fun h=>by have:=HFR.out _ h;omega)
      have HB6:=Lib.hid hB6
      have HT6:=Lib.hid ht6
      have HO6:=Lib.hid ho6
      have HP6:=Lib.hid hp6
      have HK6:Hid (Kp (nodeFr m t) w w6):=(Ext.kp (HXB.out.ext HX2.out)).trans hk6
      unfold rsZ at hB6
      have c0:=hB6.cell 0 _ rfl
      have c1:=hB6.cell 1 _ rfl
      have c2:=hB6.cell 2 _ rfl
      have c3:=hB6.cell 3 _ rfl
      have c4:=hB6.cell 4 _ rfl
      have c5:=hB6.cell 5 _ rfl
      have c6:=hB6.cell 6 _ rfl
      have c7:=hB6.cell 7 _ rfl
      have c8:=hB6.cell 8 _ rfl
      have c9:=hB6.cell 9 _ rfl
      have c10:=hB6.cell 10 _ rfl
      have fc0:=hB6.free 0
      have fc1:=hB6.free 1
      have fc2:=hB6.free 2
      have fc3:=hB6.free 3
      have fc4:=hB6.free 4
      have fc5:=hB6.free 5
      have fc6:=hB6.free 6
      have fc7:=hB6.free 7
      have fc8:=hB6.free 8
      have fc9:=hB6.free 9
      have fc10:=hB6.free 10
      clear hB6 ht6 ho6 hp6 hk6 hf6 HCR
      unfold resA
      go_wp2_with (fail)
      go_light
      refine bodyPost_ret (v:=resA R.2.err R.2.path R.2.data (.slice na R.2.names.length nc) R.2.st) (by simp [results,Tryz.results59,go_sem,resA,c0,c1,c2,c3,c4,c5,c6,c7,c8,c9,c10]) rfl ?_
      have k11:=kp_set11 w6 (w.heap.size+1) (.int .i64 R.2.err) (.string R.2.path) (.string R.2.data) (.slice na R.2.names.length nc) (.int .i64 R.2.st.made) (.int .i64 R.2.st.chg) (.int .i64 R.2.st.ver) (.int .i64 R.2.st.kids) (.int .i64 R.2.st.own) (.int .i64 R.2.st.len) (.int .i64 R.2.st.cnt)
      exact ⟨t',_,rfl,own_aside HO6.out HB6.out (by decide) k11,HT6.out.aside HB6.out (by decide) (by decide) (by decide) k11,HP6.out,HK6.out.next k11 (fun i hi e=>by omega),HF6.out.mono (HXB.out.ext HX2.out).size⟩
 ·have HE:Hid (R=(pl t,failR E)):=HC.out.trans (if_pos hE0)
  clear HC
  go_wp2_with (fail)
  refine (fail_any E _).mono ?_
  rintro e9 w9 ⟨rfl,hx9⟩
  have hB9:=(HB.out.kp HX2.out (fun f=>f)).kp hx9 (fun f=>f)
  have HT9:=Lib.hid ((HTB.out.ext HX2.out).ext hx9)
  have HB9:=Lib.hid hB9
  have HX9:=Lib.hid ((HXB.out.ext HX2.out).ext hx9)
  unfold rsZ at hB9
  have c0:=hB9.cell 0 _ rfl
  have c1:=hB9.cell 1 _ rfl
  have c2:=hB9.cell 2 _ rfl
  have c3:=hB9.cell 3 _ rfl
  have c4:=hB9.cell 4 _ rfl
  have c5:=hB9.cell 5 _ rfl
  have c6:=hB9.cell 6 _ rfl
  have c7:=hB9.cell 7 _ rfl
  have c8:=hB9.cell 8 _ rfl
  have c9:=hB9.cell 9 _ rfl
  have c10:=hB9.cell 10 _ rfl
  have fc0:=hB9.free 0
  have fc1:=hB9.free 1
  have fc2:=hB9.free 2
  have fc3:=hB9.free 3
  have fc4:=hB9.free 4
  have fc5:=hB9.free 5
  have fc6:=hB9.free 6
  have fc7:=hB9.free 7
  have fc8:=hB9.free 8
  have fc9:=hB9.free 9
  have fc10:=hB9.free 10
  clear hB9 hx9
  unfold resA
  go_wp2_with (fail)
  go_light
  refine bodyPost_ret (v:=resA E ⟨#[]⟩ ⟨#[]⟩ (.slice none 0 0) ndZ) (by simp [results,Tryz.results59,go_sem,resA,ndZ,c0,c1,c2,c3,c4,c5,c6,c7,c8,c9,c10]) rfl ?_
  rw [HE.out]
  have k11:=kp_set11 w9 (w.heap.size+1) (.int .i64 E) (.string ⟨#[]⟩) (.string ⟨#[]⟩) (.slice none 0 0) (.int .i64 0) (.int .i64 0) (.int .i64 0) (.int .i64 0) (.int .i64 0) (.int .i64 0) (.int .i64 0)
  exact ⟨t, .slice none 0 0,rfl,own_nil _,HT9.out.aside HB9.out (by decide) (by decide) (by decide) k11,rfl,(Ext.kp HX9.out).next k11 (fun i hi e=>by omega),Fresh.refl _ _⟩
set_option maxHeartbeats 3200000 in
theorem treeDo_any (base b m:Nat) (room:Int) (t:Tr) (k:Int) (p d:ByteArray) (v f sess z:Int) (w0 w:World) (hT:TreeR w base b m room t) (hok:TrOk t) (hG0:GT w0) (hb0:w0.heap.size≤base) (hE:Ext w0 w) (hp:p.size≤1000000) (hd:d.size≤1000000) :
  Calls Tryz.prog 17 #[.pointer (some ⟨b,0,none⟩), .agg #[.int .i64 k, .string p, .string d, .int .i64 v, .int .i64 f], .int .i64 sess, .int .i64 z] w fun e w'=>DoPost w base b m room t (doP room (pl t) ⟨k,p,d,v,f⟩ sess z false) e w':=by
 obtain ⟨wA,hWA⟩:∃ wA,w.alloc (.cells #[.int .i64 k, .string p, .string d, .int .i64 v, .int .i64 f] 33)=wA:=⟨_,rfl⟩
 have hxA:Ext w wA:=by rw [← hWA];exact (Kp.refl _ _).alloc _
 have hA:Blk wA w.heap.size #[.int .i64 k, .string p, .string d, .int .i64 v, .int .i64 f] 33:=by rw [← hWA];exact heap_alloc_new w _
 obtain ⟨wB,hWB⟩:∃ wB,wA.alloc (.cells rsZ rsuT)=wB:=⟨_,rfl⟩
 have hxB:Ext wA wB:=by rw [← hWB];exact (Kp.refl _ _).alloc _
 have hsA:wA.heap.size=w.heap.size+1:=by rw [← hWA];exact World.size_alloc _ _
 have hB:Blk wB (w.heap.size+1) rsZ rsuT:=by rw [← hWB,← hsA];exact heap_alloc_new wA _
 have HAB:=Lib.hid (hA.kp hxB (fun f=>f))
 have HB:=Lib.hid hB
 have HXB:=Lib.hid (hxA.ext hxB)
 have HTB:=Lib.hid (hT.ext (hxA.ext hxB))
 have HWA:=Lib.hid hWA
 unfold rsZ at hWB
 have HWB:=Lib.hid hWB
 have HOK:=Lib.hid hok
 have HFR:Hid (∀ i,nodeFr m t i→i<w.heap.size):=by
  rintro i (rfl|⟨e,he,rfl⟩)
  ·exact hT.map.lt
  ·exact (hT.nod e he).lt
 have HX2:Hid (Ext wB wB):=Kp.refl _ _
 have HCR:=Lib.hid (do_any base b m room t k p d v f sess z false w0 wB HTB.out hok hG0 hb0 (hE.ext HXB.out) hp hd)
 generalize doP room (pl t) ⟨k,p,d,v,f⟩ sess z false=R at HCR ⊢
 clear hWA hxA hA hWB hxB hB hsA hok hb0 hE hG0 hp hT hd
 go_enter Tryz.func17,Tryz.ntmps17
 go_upto_region 1 with (fail)
 rw [HWA.out]
 rw [HWB.out]
 have hab:=HAB.out
 have a0:=hab.cell 0 _ rfl
 have a1:=hab.cell 1 _ rfl
 have a2:=hab.cell 2 _ rfl
 have a3:=hab.cell 3 _ rfl
 have a4:=hab.cell 4 _ rfl
 clear hab
 go_wp2_with (fail)
 refine HCR.out.mono ?_
 rintro e1 w6 ⟨t',nv,rfl,ho6,ht6,hp6,hk6,hf6⟩
 have HF6:=Lib.hid hf6
 obtain ⟨na,nc,rfl⟩:=owns_slice ho6
 have hB6:=(HB.out.kp HX2.out (fun f=>f)).kp hk6 (fun h=>by have:=HFR.out _ h;omega)
 have HB6:=Lib.hid hB6
 have HT6:=Lib.hid ht6
 have HO6:=Lib.hid ho6
 have HP6:=Lib.hid hp6
 have HK6:Hid (Kp (nodeFr m t) w w6):=(Ext.kp (HXB.out.ext HX2.out)).trans hk6
 unfold rsZ at hB6
 have c0:=hB6.cell 0 _ rfl
 have c1:=hB6.cell 1 _ rfl
 have c2:=hB6.cell 2 _ rfl
 have c3:=hB6.cell 3 _ rfl
 have c4:=hB6.cell 4 _ rfl
 have c5:=hB6.cell 5 _ rfl
 have c6:=hB6.cell 6 _ rfl
 have c7:=hB6.cell 7 _ rfl
 have c8:=hB6.cell 8 _ rfl
 have c9:=hB6.cell 9 _ rfl
 have c10:=hB6.cell 10 _ rfl
 have fc0:=hB6.free 0
 have fc1:=hB6.free 1
 have fc2:=hB6.free 2
 have fc3:=hB6.free 3
 have fc4:=hB6.free 4
 have fc5:=hB6.free 5
 have fc6:=hB6.free 6
 have fc7:=hB6.free 7
 have fc8:=hB6.free 8
 have fc9:=hB6.free 9
 have fc10:=hB6.free 10
 clear hB6 ht6 ho6 hp6 hk6 hf6 HCR
 unfold resA
 go_wp2_with (fail)
 go_light
 refine bodyPost_ret (v:=resA R.2.err R.2.path R.2.data (.slice na R.2.names.length nc) R.2.st) (by simp [results,Tryz.results17,go_sem,resA,c0,c1,c2,c3,c4,c5,c6,c7,c8,c9,c10]) rfl ?_
 have k11:=kp_set11 w6 (w.heap.size+1) (.int .i64 R.2.err) (.string R.2.path) (.string R.2.data) (.slice na R.2.names.length nc) (.int .i64 R.2.st.made) (.int .i64 R.2.st.chg) (.int .i64 R.2.st.ver) (.int .i64 R.2.st.kids) (.int .i64 R.2.st.own) (.int .i64 R.2.st.len) (.int .i64 R.2.st.cnt)
 exact ⟨t',_,rfl,own_aside HO6.out HB6.out (by decide) k11,HT6.out.aside HB6.out (by decide) (by decide) (by decide) k11,HP6.out,HK6.out.next k11 (fun i hi e=>by omega),HF6.out.mono (HXB.out.ext HX2.out).size⟩
end Go.Proofs.YtnlefnhdhigecaaGreatDoor

namespace Go.Proofs.YtnlefnhdhigecaaGreatDoor
set_option maxRecDepth 100000
open Go.RowKit Av
end Go.Proofs.YtnlefnhdhigecaaGreatDoor

namespace Go.Proofs.YtnlefnhdhigecaaGreatDoor
set_option maxRecDepth 100000
open Go.RowKit Av
theorem TreeR.less {w:World} {base base' b m:Nat} {room:Int} {t:Tr} (h:TreeR w base b m room t) (hb:base'≤base):TreeR w base' b m room t:=
 ⟨⟨Nat.le_trans hb h.low.1,Nat.le_trans hb h.low.2.1,fun e he=>Nat.le_trans hb (h.low.2.2 e he)⟩,h.blk,h.map,h.nod,h.inj⟩
structure TS (w0 w:World) (b m:Nat) (room:Int) (K:Nat) (t:Tr):Prop where
 tr:TreeR w w0.heap.size b m room t
 pk:PtK K (pl t)
 ex:Ext w0 w
theorem TS.ext {w0 w w':World} {b m:Nat} {room:Int} {K:Nat} {t:Tr} (h:TS w0 w b m room K t) (k:Ext w w'):TS w0 w' b m room K t:=⟨h.tr.ext k,h.pk,h.ex.ext k⟩
def TOwn (b m:Nat) (t:Tr) (i:Nat):Prop:=i=b∨nodeFr m t i
theorem TreeR.apart {w w':World} {base b m:Nat} {room:Int} {t:Tr} (h:TreeR w base b m room t) {S:Nat→Prop} (k:Kp S w w') (hs:∀ i,TOwn b m t i→¬ S i) (hy:∀ i,S i→i<w.heap.size→∀ cur f,w.heap[i]?≠some (.cells cur strT f)):TreeR w' base b m room t:=by
 refine ⟨h.low,h.blk.kp k (hs _ (.inl rfl)),h.map.kp k (hs _ (.inr (.inl rfl))),fun e he=>?_,h.inj⟩
 refine (h.nod e he).kp k (hs _ (.inr (.inr ⟨e,he,rfl⟩))) (fun i cur f hi hc=>?_)
 exact hy i hi (Array.getElem?_eq_some_iff.1 hc).1 cur f hc
theorem TreeR.types {w:World} {base b m:Nat} {room:Int} {t:Tr} (h:TreeR w base b m room t) {i:Nat} (hi:nodeFr m t i) {cur:Array Value} {T:TypeId} {f:Nat×Nat} (hc:w.heap[i]? = some (.cells cur T f)):T=ndT:=by
 rcases hi with rfl|⟨e,he,rfl⟩
 ·obtain ⟨L,clock,hr,_⟩:=h.map
  have h1:=hr.1
  rw [hc] at h1
  simp at h1
 ·obtain ⟨nv,h4,_⟩:=h.nod e he
  have h5:w.heap[e.2.1]? = some (.cells (ndA e.2.2 nv) ndT (0,0)):=h4
  rw [hc] at h5
  simp only [Option.some.injEq,Obj.cells.injEq] at h5
  exact h5.2.1
theorem TreeR.blk' {w w':World} {base b m:Nat} {room:Int} {t:Tr} (h:TreeR w base b m room t) (k:Kp (nodeFr m t) w w') {r:Nat} {A:Array Value} {T:TypeId} (hr:Blk w r A T) (hT:T≠ndT):Blk w' r A T:=
 hr.kp k (fun hi=>hT (h.types hi hr))
theorem TreeR.own' {w w':World} {base b m:Nat} {room:Int} {t:Tr} (h:TreeR w base b m room t) (k:Kp (nodeFr m t) w w') {base' n:Nat} {v:Value} {xs:List Value} (ho:w.ownsRow base' strT 1 v n xs):w'.ownsRow base' strT 1 v n xs:=by
 refine ownsRow.kp ho k (fun i hi hs=>?_)
 obtain ⟨_,⟨rfl,_⟩|⟨q,c,cur,rfl,_,hg,_⟩⟩:=ho
 ·simp [Value.ownBlock] at hi
 ·simp only [Value.ownBlock,Option.some.injEq] at hi
  subst hi
  exact absurd (h.types hs hg) (by decide)
theorem TS.step {w0 w w':World} {b m:Nat} {room:Int} {K:Nat} {t:Tr} (h:TS w0 w b m room K t) (k:Kp (nodeFr m t) w w'):Ext w0 w':=tree_old (Nat.le_refl _) h.tr h.ex k
theorem tsNew (room:Int) (w0 w:World) (hx:Ext w0 w) (h1:1≤room) (h2:room≤500):Calls Tryz.prog 14 #[.int .i64 room] w fun e w'=>∃ b m,e=.returned (.tuple #[.pointer (some ⟨b,0,none⟩), .int .i64 0])∧TS w0 w' b m room 0 []∧Ext w w'∧w.heap.size≤b∧w.heap.size≤m:=by
 refine (treeNew_any room w h1 h2).mono ?_
 rintro e w' ⟨b,m,rfl,hT,hx'⟩
 exact ⟨b,m,rfl,⟨hT.less hx.size,PtK.nil,hx.ext hx'⟩,hx',hT.low.1,hT.low.2.1⟩
def TDone (w0 w:World) (b m:Nat) (room:Int) (K:Nat) (t:Tr) (R:Pt×Rp) (e:Ending) (w':World):Prop:=
 ∃ t' nv,e=.returned (resA R.2.err R.2.path R.2.data nv R.2.st)∧w'.ownsRow 0 strT 1 nv R.2.names.length (R.2.names.map encStr)∧TS w0 w' b m room (K+1) t'∧pl t'=R.1∧Kp (nodeFr m t) w w'∧Fresh w t t'
theorem tsDo {w0 w:World} {b m:Nat} {room:Int} {K:Nat} {t:Tr} (h:TS w0 w b m room K t) (hG:GT w0) (hK:K≤100000) (o:OpV) (sess z:Int) (hp:o.path.size≤1000000) (hd:o.data.size≤1000000) :
  Calls Tryz.prog 17 #[.pointer (some ⟨b,0,none⟩), .agg #[.int .i64 o.kind, .string o.path, .string o.data, .int .i64 o.ver, .int .i64 o.flags], .int .i64 sess, .int .i64 z] w fun e w'=>TDone w0 w b m room K t (doP room (pl t) o sess z false) e w':=by
 refine (treeDo_any w0.heap.size b m room t o.kind o.path o.data o.ver o.flags sess z w0 w h.tr (h.pk.ok hK) hG (Nat.le_refl _) h.ex hp hd).mono ?_
 rintro e w' ⟨t',nv,he,ho,ht,hp',hk,hf⟩
 exact ⟨t',nv,he,ho,⟨ht,by rw [hp'];exact h.pk.doP room _ sess z false,h.step hk⟩,hp',hk,hf⟩
def nodeP (t:Pt) (p:ByteArray):NodeV×Bool:=match mget t p with
 | none=>(ndZ,false)
 | some n=>(n,true)
end Go.Proofs.YtnlefnhdhigecaaGreatDoor

namespace Av
set_option maxRecDepth 100000
open Go Go.RowKit Go.Maps Go.Sort
open Go.WideElems (Fit rd rg rd_mk)
open Go.WideMaps (keyOf_string_mk)
open Go.WideShapes (sorted_perm)
def noVal (_:Value):Option (DataW Unit×List MemPlace):=some (.nil,[])
theorem map_owned {P:Program} {K:TypeId} (hK:P.underlying K=some .string) {w:World} {m:Nat} {es:List (ByteArray×Value)} (h:MapK Value.string w m es) (hl:es.length≤maxLen) (hs:∀ e∈es,e.1.size≤maxLen) :
  ∃ D0:DataW Unit,w.ownsMap P K noVal m es.length D0∧(strKeys D0).Perm (es.map (·.1.data.toList))∧Maps.size D0=es.length:=by
 obtain ⟨L,clock,⟨hb,h2,h3,h4⟩,rfl⟩:=h
 have hsz:∀ t∈L,t.1.size≤maxLen:=fun t ht=>hs (t.1,t.2.1) (List.mem_map.2 ⟨t,ht,rfl⟩)
 have hrd:∀ t∈L,rd (H:=Unit) P K noVal (ent Value.string t)=some (.string t.1.data.toList, .nil):=fun t ht=>by
  have:=rd_mk (R:=noVal) (yv:=(.nil,[])) (born:=t.2.2) (keyOf_string_mk hK (hsz t ht)) (show noVal t.2.1=_ from rfl)
  exact this
 have hrg:(L.map (ent Value.string)).map (rg P K noVal)=L.map fun t=>(Lit.string t.1.data.toList,DataW.nil):=by
  rw [List.map_map]
  refine List.map_congr_left fun t ht=>?_
  simp only [Function.comp,rg,hrd t ht,Option.getD_some]
 have hF:Fit P K noVal (L.map (ent Value.string)).toArray clock:=by
  refine ⟨by simpa using hl,⟨?_, ?_, ?_⟩, ?_⟩
  ·intro x hx
   obtain ⟨t,ht,rfl⟩:=List.mem_map.1 (List.mem_toArray.1 (Array.mem_toList_iff.1 hx))
   exact h4 t ht
  ·simpa [List.map_map,Function.comp_def,ent] using h3
  ·have:((L.map (·.1)).map Value.string).Nodup:=List.pairwise_map.2 (h2.imp fun hab hval=>hab (by simpa using hval))
   simpa [List.map_map,Function.comp_def,ent] using this
  ·intro x hx
   obtain ⟨t,ht,rfl⟩:=List.mem_map.1 (List.mem_toArray.1 (Array.mem_toList_iff.1 hx))
   exact ⟨_,hrd t ht⟩
 refine ⟨_,⟨_,_,hb,hF,by simp,rfl⟩, ?_, ?_⟩
 ·show (List.map _ _).Perm _
  refine ((sorted_perm _).map _).trans ?_
  rw [show (L.map (ent Value.string)).toArray.toList=L.map (ent Value.string) from rfl,hrg,List.map_map,List.map_map]
  exact List.Perm.refl _
 ·show List.length _=_
  rw [(sorted_perm _).length_eq]
  simp
end Av

namespace Go.Proofs.YtnlefnhdhigecaaGreatDoor
set_option maxRecDepth 100000
open Go.RowKit Av Go.Maps Go.Sort
def pathsP (t:Pt):List Bs:=(t.map (·.1.data.toList)).mergeSort fun x y=>decide (x≤y)
def PathsPost (w:World) (l:List Bs) (e:Ending) (w':World):Prop:=∃ v,e=.returned v∧w'.ownsRow w.heap.size strT 1 v l.length (l.map encStr)∧Ext w w'
theorem treePaths_any (base b m:Nat) (room:Int) (t:Tr) (w:World) (hT:TreeR w base b m room t) (hs:∀ e∈t,e.1.size≤maxLen) (hn:t.length≤1000000) :
  Calls Tryz.prog 75 #[.pointer (some ⟨b,0,none⟩)] w fun e w'=>PathsPost w (pathsP (pl t)) e w':=by
 have hpl:(ptrs t).length=t.length:=List.length_map _
 obtain ⟨D0,hown,hperm,hsize⟩:=map_owned (P:=Tryz.prog) (K:=strT) Tryz.underlying9 hT.map (by unfold maxLen;omega) (fun e he=>by
  obtain ⟨x,hx,rfl⟩:=List.mem_map.1 he
  exact hs x hx)
 have c1:=hT.blk.cell 1 _ rfl
 have HP:Hid ((strKeys D0).Perm ((pl t).map (·.1.data.toList))):=by
  show List.Perm _ _
  refine hperm.trans ?_
  unfold ptrs pl
  rw [List.map_map,List.map_map]
  exact List.Perm.refl _
 have hmax:Maps.size D0≤maxLen:=by unfold maxLen;omega
 have hbytes:Maps.size D0*16≤140737488355328:=by omega
 clear hT hs hperm
 refine (callsIn_wide (n:=6)).1 ?_
 have hfK:Fence.wide.fn 126:=trivial
 have hfS:Fence.wide.fn 125:=trivial
 refine callsIn_of_wp Tryz.func75 rfl trivial ?_ rfl
 simp only [Tryz.ntmps75,List.size_toArray,List.length_cons,List.length_nil,Nat.reduceAdd,Nat.reduceSub,Array.replicate_succ,Array.replicate_zero,List.push_toArray,List.append_toArray,List.nil_append,List.cons_append]
 gi_wp2_with (first
  | (gi_at_call 126;refine (Tryz.maps_Keys_126 _ _).mono ?_;rintro e w' ⟨rfl,rfl⟩)
  | (gi_at_call 125;refine (Tryz.slices_Sorted_keys_125_126 m t.length D0 noVal w (hpl ▸ hown) hmax hbytes).mono ?_;rintro e w' ⟨v,ss,rfl,hS,hrow,hnil,hb⟩))
 go_ret
 have e1:(ss.mergeSort fun x y=>decide (x≤y))=pathsP (pl t):=mergeSort_of_perm (hS.trans HP.out)
 have e2:ss.length=(pathsP (pl t)).length:=by rw [← e1];simp
 rw [e1,e2] at hrow
 exact ⟨v,rfl,own_less hrow (by simp),((Kp.refl _ w).alloc _).ext (Kp.of_below hb)⟩
theorem pathsP_rising {t:Pt} (h:(t.map (·.1)).Nodup):Rising (pathsP t):=by
 have tr:∀ a b c:Bs,decide (a≤b)=true→decide (b≤c)=true→decide (a≤c)=true:=fun a b c h1 h2=>by simp only [decide_eq_true_eq] at *;exact List.le_trans h1 h2
 have tt:∀ a b:Bs,(decide (a≤b)||decide (b≤a))=true:=fun a b=>by simp only [Bool.or_eq_true,decide_eq_true_eq];exact List.le_total a b
 have hp:=List.pairwise_mergeSort tr tt (t.map (·.1.data.toList))
 have hk:(t.map (·.1.data.toList)).Nodup:=by
  have:(t.map (·.1.data.toList))=(t.map (·.1)).map (·.data.toList):=by rw [List.map_map];rfl
  rw [this]
  exact List.pairwise_map.2 (h.imp fun hab e=>hab (bytes_eq e))
 have hn:(pathsP t).Nodup:=(List.mergeSort_perm _ _).nodup_iff.2 hk
 exact (hp.and hn).imp fun ⟨h1,h2⟩=>lt_of_not (fun h3=>h2 (List.le_antisymm (by simpa using h1) (List.le_of_lt h3))) (fun e=>h2 e.symm)
theorem pathsP_mem {t:Pt} {x:Bs}:x∈pathsP t↔∃ e∈t,e.1.data.toList=x:=by
 unfold pathsP
 rw [(List.mergeSort_perm _ _).mem_iff,List.mem_map]
theorem pathsP_len (t:Pt):(pathsP t).length=t.length:=by simp [pathsP]
end Go.Proofs.YtnlefnhdhigecaaGreatDoor

