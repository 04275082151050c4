/- Texts put together: AvSoE, AvSoF, AvDagE. -/
import Derived.Test.YtnlefnhdhigecaaGreatDoorAvG24
import Derived.Test.YtnlefnhdhigecaaGreatDoorAvG16
namespace Go.Proofs.YtnlefnhdhigecaaGreatDoor
set_option maxRecDepth 100000
open Go.RowKit Av
variable {w0 w w':World} {g K N:Nat} {B:SoB} {s:SoV}
theorem SoR.put (h:SoR w0 w g K B s) {w1 w2:World} (q:Int) {v:Value} {ys:List Wt} (k1:Kp (fun i=>(Av.rowAt B.E q).ownBlock=some i) w w1) (hv:w1.ownsRow 0 evT 3 v ys.length (ys.flatMap wcell))
  (hb:∀ i,v.ownBlock=some i→(Av.rowAt B.E q).ownBlock=some i∨w.heap.size≤i) (hm:MapK mI w2 B.em (mset B.E q v)) (k2:Kp (fun i=>i=B.em) w1 w2):SoPost w0 w g K B { s with ev:=fun q'=>if q'=q then ys else s.ev q' } w2:=by
 have hS:=h.safeR q
 have hi:=h.ids
 have hoff:∀ q i,(Av.rowAt B.E q).ownBlock=some i→i≠B.em:=fun q i hq=>h.ev.off q i hq
 have hl:=h.ev.map.lt
 have hvm:∀ i,v.ownBlock=some i→i≠B.em:=fun i hiv=>by
  rcases hb i hiv with e|e
  ·exact hoff q i e
  ·omega
 have hex1:Ext w0 w1:=h.ex.next k1 (fun i hi hs=>by have:=hS.low i hs;omega)
 have hE:=h.ev.put q k1 hv hb hoff hvm hm k2
 have hem1:MapK mI w1 B.em B.E:=h.ev.map.kp k1 (hS.map h.ev.map (by simp))
 have hb1:=h.blk.kp k1 (hS.blk h.blk (by decide))
 have ht1:=h.tr.safe k1 hS (by decide) (by decide) (by decide) (by simp)
 have hs1:=h.ss.safe k1 hS (by decide) (by decide)
 have hw1:=h.wl.safe k1 hS (by decide) (by decide)
 have hl1:=h.lm.safe k1 hS (by decide) (by decide) (by simp)
 have hS2:Safe w0 w1 (fun i=>i=B.em) [] [B.em]:=by
  refine ⟨fun i hs _=>?_,fun i hs=>h.low i (.inr (.inr (.inr (.inr (.inr (.inl hs))))))⟩
  have e:i=B.em:=hs
  subst e
  obtain ⟨L,c,hr,_⟩:=hem1
  exact .inr ⟨_,_,hr.1,by simp⟩
 have hex2:Ext w0 w2:=hex1.next k2 (fun i hi hs=>by have:=hS2.low i hs;omega)
 have hk:Kp (SoFr g B) w w2:=(k1.mono (T:=SoFr g B) (fun i _ hs=>.inr (.inr (.inr (.inr (.inr (.inr ⟨q,hs⟩))))))).next k2 (fun i _ hs=>.inr (.inr (.inr (.inr (.inr (.inl hs))))))
 have hrow:∀ i q',(Av.rowAt (mset B.E q v) q').ownBlock=some i→(∃ q2,(Av.rowAt B.E q2).ownBlock=some i)∨w.heap.size≤i:=fun i q' hs=>by
  rw [rowAt_set] at hs
  split at hs
  ·rcases hb i hs with e|e
   ·exact .inl ⟨q,e⟩
   ·exact .inr e
  ·exact .inl ⟨q',hs⟩
 refine ⟨{ B with E:=mset B.E q v },⟨hb1.kp k2 (hS2.blk hb1 (by simp)),ht1.safe k2 hS2 (by simp) (by simp) (by simp) hi.2.1,hs1.safe k2 hS2 (by simp) (by simp),hw1.safe k2 hS2 (by simp) (by simp),hl1.safe k2 hS2 (by simp) (by simp) hi.2.2.2.1,hE,h.ne,fun i hs=>?_,hex2⟩,hk,fun i hs=>?_⟩
 ·rcases hs with hs|hs|hs|hs|hs|hs|⟨q',hs⟩
  ·exact h.low i (.inl hs)
  ·exact h.low i (.inr (.inl hs))
  ·exact h.low i (.inr (.inr (.inl hs)))
  ·exact h.low i (.inr (.inr (.inr (.inl hs))))
  ·exact h.low i (.inr (.inr (.inr (.inr (.inl hs)))))
  ·exact h.low i (.inr (.inr (.inr (.inr (.inr (.inl hs))))))
  ·rcases hrow i q' hs with e|e
   ·exact h.low i (.inr (.inr (.inr (.inr (.inr (.inr e))))))
   ·have:=h.ex.size;omega
 ·rcases hs with hs|hs|hs|hs|hs|hs|⟨q',hs⟩
  ·exact .inl (.inl hs)
  ·exact .inl (.inr (.inl hs))
  ·exact .inl (.inr (.inr (.inl hs)))
  ·exact .inl (.inr (.inr (.inr (.inl hs))))
  ·exact .inl (.inr (.inr (.inr (.inr (.inl hs)))))
  ·exact .inl (.inr (.inr (.inr (.inr (.inr (.inl hs))))))
  ·rcases hrow i q' hs with e|e
   ·exact .inl (.inr (.inr (.inr (.inr (.inr (.inr e))))))
   ·exact .inr e
theorem addEv_len (ss:SsV):∀ (l:List Wt) (ev:Int→List Wt) (q:Int),(l.foldl (addEv ss) ev q).length≤(ev q).length+l.length
 | [],_,_=>Nat.le_refl _
 | e::l,ev,q=>by
   have h1:=addEv_len ss l (addEv ss ev e) q
   have h2:(addEv ss ev e q).length≤(ev q).length+1:=by
    unfold addEv
    split
    ·simp only
     split
     ·simp
     ·omega
    ·omega
   rw [List.foldl_cons,List.length_cons]
   omega
def FirRel (w0 w1:World) (g K:Nat) (B:SoB) (s:SoV) (l:List Wt) (s16:Value) (wr:World):Prop:=
 ∃ (k:Nat) (B1:SoB),k≤l.length∧s16=.int .i64 k∧SoR w0 wr g K B1 { s with ev:=(l.take k).foldl (addEv s.ss) s.ev }∧Kp (SoFr g B) w1 wr∧∀ i,SoFr g B1 i→SoFr g B i∨w1.heap.size≤i
set_option maxHeartbeats 6400000 in
theorem soFire_any (h:SoR w0 w g K B s) (hok:SoOk N s) (hN:N≤100000) (hG:GL w) (p:ByteArray) (ch:Int) (hp:p.size≤maxLen):Calls Tryz.prog 132 #[.pointer (some ⟨g,0,none⟩), .string p, .int .i64 ch] w fun e w'=>(∃ u,e=.returned u)∧SoPost w0 w g K B (fireS s p ch) w':=by
 have c2:=h.blk.cell 2 _ rfl
 have hwl:s.wl.length≤100000:=by have:=hok.ev 0;omega
 have HF:=Lib.hid (watFire_any B.wb B.wr 1000 s.wl p ch w h.wl hG hp hwl)
 have HH:=Lib.hid h
 have hfl:=fire_len p ch s.wl
 have HEV:Hid (∀ k q,(((fireT p ch s.wl).take k).foldl (addEv s.ss) s.ev q).length≤100000):=fun k q=>by
  have h1:=addEv_len s.ss ((fireT p ch s.wl).take k) s.ev q
  have h2:=hok.ev q
  rw [List.length_take] at h1
  omega
 have HLEN:Hid (s.ss.l.length≤100000):=by have:=hok.ss.len;show _≤_;omega
 have HEQ:Hid (fireS s p ch={ s with wl:=fireG p ch s.wl,ev:=(fireT p ch s.wl).foldl (addEv s.ss) s.ev }):=rfl
 have hl5:(fireT p ch s.wl).length≤100000:=by omega
 generalize fireT p ch s.wl=l at HF HEV HEQ hl5
 generalize fireG p ch s.wl=wl' at HF HEQ
 clear h hok hwl hfl
 go_enter Tryz.func132,Tryz.ntmps132
 go_wp2_with (fail)
 refine HF.out.mono ?_
 rintro e w1 ⟨v,rfl,hv,hw1,hk1⟩
 have hp1:=HH.out.watch hk1 ⟨B.wr,hw1,fun i hi=>.inl hi⟩
 have hS1:SoR w0 w1 g K B { s with wl:=wl' }:=by
  have hS:=HH.out.safeW
  have hex:Ext w0 w1:=HH.out.ex.next hk1 (fun i hi hs=>by have:=hS.low i hs;omega)
  exact ⟨HH.out.blk.kp hk1 (hS.blk HH.out.blk (by decide)),HH.out.tr.safe hk1 hS (by decide) (by decide) (by decide) (by simp),HH.out.ss.safe hk1 hS (by decide) (by decide),hw1,HH.out.lm.safe hk1 hS (by decide) (by decide) (by simp),HH.out.ev.safe hk1 hS (by decide) (by simp),HH.out.ne,HH.out.low,hex⟩
 obtain ⟨va,vc,rfl⟩:=owns_slice hv
 have HV:=Lib.hid hv
 have HS1:=Lib.hid hS1
 have HK1:Hid (Kp (SoFr g B) w w1):=hk1.mono (fun i _ hs=>.inr (.inr (.inr (.inl hs))))
 have HVB:Hid (∀ i,(Value.slice va l.length vc).ownBlock=some i→w.heap.size≤i∧i<w1.heap.size):=fun i hi=>own_atS hv hi
 clear hv hp1 hS1 hw1 hk1 c2
 go_wp2_with (fail)
 go_loopw [16] (fun s16 wr=>FirRel w0 w1 g K B { s with wl:=wl' } l s16 wr) (fun s16 _=>l.length - (intOf s16).toNat)
 case atStart=>exact ⟨0,B,Nat.zero_le _,rfl,HS1.out,Kp.refl _ _,fun i hi=>.inl hi⟩
 case round=>
  obtain ⟨k,B1,hk,rfl,hs,hkp,hown⟩:=hrel
  have HSR:=Lib.hid hs
  have HKP:=Lib.hid hkp
  have HOWN:=Lib.hid hown
  by_cases hlt:k<l.length
  ·have hv2:wr.ownsRow w.heap.size evT 3 (.slice va l.length vc) l.length (l.flatMap wcell):=ownsRow.kp HV.out hkp (fun i hi hs2=>by
    have h1:=HVB.out i hi
    have h2:=HH.out.lt hs2
    omega)
   obtain ⟨_,_,hve,_,_,hop⟩:∃ a c,(Value.slice va l.length vc)=.slice a l.length c∧True∧True∧(0<l.length→∃ b off,a=some ⟨b,off,none⟩∧b<wr.heap.size∧∀ k (hk:k<l.length) j x,j<3→(wcell l[k])[j]? = some x→wr.cell? ⟨b,off+k*3+j,none⟩=some x):=by
    obtain ⟨a,c,e,_,_,h5⟩:=Sl.rows (f:=wcell) (fun _=>rfl) (Sl.of_owns hv2)
    exact ⟨a,c,e,trivial,trivial,h5⟩
   simp only [Value.slice.injEq,true_and] at hve
   obtain ⟨rfl,rfl⟩:=hve
   obtain ⟨vb,vo,rfl,hvb,hvc⟩:=hop (by omega)
   have htk:(l.take (k+1)).foldl (addEv s.ss) s.ev=addEv s.ss ((l.take k).foldl (addEv s.ss) s.ev) l[k]:=by rw [List.take_succ_eq_append_getElem hlt,List.foldl_append];rfl
   have hc0:=hvc k hlt 0 _ (by decide) rfl
   have hc1:=hvc k hlt 1 _ (by decide) rfl
   have hc2:=hvc k hlt 2 _ (by decide) rfl
   generalize l[k]=e at hc0 hc1 hc2 htk
   obtain ⟨es,ep,ek⟩:=e
   rw [Nat.add_zero] at hc0
   have HEL:=Lib.hid (HEV.out k es)
   obtain ⟨ev,hev⟩:∃ ev,(l.take k).foldl (addEv s.ss) s.ev=ev:=⟨_,rfl⟩
   have HTK:=Lib.hid htk
   have hs':=hs
   rw [hev] at HSR HEL HTK hs'
   obtain ⟨wC,hWC⟩:∃ wC,wr.alloc (.cells #[.int .i64 es, .string ep, .int .i64 ek] evT)=wC:=⟨_,rfl⟩
   have hxC:Ext wr wC:=by rw [← hWC];exact (Kp.refl _ _).alloc _
   have hE7:Blk wC wr.heap.size #[.int .i64 es, .string ep, .int .i64 ek] evT:=by rw [← hWC];exact heap_alloc_new wr _
   have HSC:=Lib.hid (HSR.out.ext hxC)
   have HE7:=Lib.hid hE7
   have HXC:=Lib.hid hxC
   have HWC:=Lib.hid hWC
   have HLV:=Lib.hid (fun W (hW:Ext wC W)=>sesLive_any B1.sb B1.sr s.ss es W ((HSC.out.ext hW).ss) HLEN.out)
   clear hs hkp hown hv2 hop hvc htk hev hs' hWC hxC hE7 hvb
   obtain ⟨lv,hlv⟩:∃ lv,liveS s.ss es=lv:=⟨_,rfl⟩
   rw [hlv] at HLV
   go_upto_region 3 with (fail)
   rw [HWC.out]
   clear hc0 hc1 hc2
   refine' wp_region_dag0 ((20, .val _)::(21, .val _)::(22, .val _)::(23, .val _)::(24, .val _)::(25, .val _)::(26, .val _)::[]) (by exact ⟨fun _ _ _ _ _=>trivial,⟨fun _ _ _ _ _=>trivial,⟨fun _ _ _ _ _=>trivial,⟨fun _ _ _ _ _=>trivial,⟨fun _ _ _ _ _=>trivial,⟨fun _ _ _ _ _=>trivial,⟨fun _ _ _ _ _=>trivial,trivial⟩⟩⟩⟩⟩⟩⟩) (by kernel_rfl) (by kernel_rfl) (by kernel_rfl) ?_
   rotate_left 7
   repeat (first
    | (refine wpD_skipv ?_ ?_ ?_
       focus rfl
       focus rfl
       simp only [Act.put,List.setIfInBounds_toArray,List.set_cons_succ,List.set_cons_zero])
    | (refine' wpD_val (c:=_) ?_ (fun w=>Kp.refl _ w) ?_ (fun wq hwq hfq=>?_) ?_
       rotate_left
       focus rfl
       focus rfl
       focus ((have hq:=HSC.out.ext hwq;have c1:=hq.blk.cell 1 _ rfl;have e0:=(HE7.out.kp hwq (fun f=>f)).cell 0 _ rfl);go_simp;first|done|rfl)
       simp only [Act.put,List.setIfInBounds_toArray,List.set_cons_succ,List.set_cons_zero])
    | (refine' wpD_con (c:=_) ?_ ?_ (fun wq hwq hfq=>?_) ?_
       rotate_left
       focus rfl
       focus rfl
       focus ((have hq:=HSC.out.ext hwq;have c1:=hq.blk.cell 1 _ rfl;have e0:=(HE7.out.kp hwq (fun f=>f)).cell 0 _ rfl);go_simp;(try (rw [dUpon_enter]));((with_reducible refine (HLV.out _ hwq).mono ?_);rintro e w' ⟨rfl,hx⟩;exact DEnd.con hx))
       simp only [Act.put,List.setIfInBounds_toArray,List.set_cons_succ,List.set_cons_zero])
    | fail)
   refine wpD_nil ?_
   intro w4 hx4 hend
   clear hend
   have HS4:=Lib.hid (HSC.out.ext hx4)
   have HE4:=Lib.hid (HE7.out.kp hx4 (fun f=>f))
   have HX4:=Lib.hid (HXC.out.trans hx4)
   clear hx4 HSC HE7 HXC HLV HWC
   cases lv with
   | false=>
     have HAE:Hid (addEv s.ss ev ⟨es,ep,ek⟩=ev):=by show _=_;unfold addEv;rw [if_neg (by simp only [hlv];decide)]
     clear hlv
     go_wp2_with (fail)
     go_light
     refine ⟨⟨k+1,B1, ?_, ?_, ?_,HKP.out.next HX4.out (fun i _ f=>f.elim),HOWN.out⟩, ?_⟩
     ·omega
     ·go_num
     ·rw [HTK.out,HAE.out]
      exact HS4.out
     ·simp [intOf];omega
   | true=>
     have HAE:Hid (addEv s.ss ev ⟨es,ep,ek⟩=fun q=>if q=es then ev es++[⟨es,ep,ek⟩] else ev q):=by
      show _=_
      unfold addEv
      rw [if_pos hlv]
      funext q
      simp only
      split
      ·rename_i e2;rw [e2]
      ·rfl
     have hrow:=HS4.out.ev.row es
     obtain ⟨ra,rc,hra⟩:=owns_slice hrow
     have HRA:=Lib.hid hra
     have HROW:Hid (w4.ownsRow 0 evT 3 (.slice ra (ev es).length rc) (ev es).length ((ev es).flatMap wcell)):=by rw [← hra];exact hrow
     have hS4:=HS4.out.safeR es
     rw [hra] at hS4
     have HLK:Hid (∀ W,Kp (fun i=>w4.heap.size≤i∨(Value.slice ra (ev es).length rc).ownBlock=some i) w4 W→(Instr.lookup 139 (.map (some B1.em)) (.int .i64 es) false).run Tryz.prog W=.ok (.slice ra (ev es).length rc) W):=fun W hW=>by
      have hm:MapK mI W B1.em B1.E:=HS4.out.ev.map.kp hW (fun f=>by
       rcases f with f|f
       ·have:=HS4.out.ev.map.lt;omega
       ·exact hS4.map HS4.out.ev.map (by simp) f)
      have:=MapK.lookup kI64 tEvs hm (.slice none 0 0) zEvs es false
      have e:(mget B1.E es).getD (.slice none 0 0)=.slice ra (ev es).length rc:=hra
      simp only [e] at this
      exact this
     have HGX:Hid (∀ W,Kp (fun i=>w4.heap.size≤i∨(Value.slice ra (ev es).length rc).ownBlock=some i) w4 W→W.cell? ⟨g,5,none⟩=some (.map (some B1.em))):=fun W hW=>(HS4.out.blk.kp hW (fun f=>by
       rcases f with f|f
       ·have:=HS4.out.blk.lt;omega
       ·exact hS4.blk HS4.out.blk (by decide) f)).cell 5 _ rfl
     have HE4X:Hid (∀ W,Kp (fun i=>w4.heap.size≤i∨(Value.slice ra (ev es).length rc).ownBlock=some i) w4 W→Blk W wr.heap.size #[.int .i64 es, .string ep, .int .i64 ek] evT):=fun W hW=>HE4.out.kp hW (fun f=>by
       rcases f with f|f
       ·have:=HE4.out.lt;omega
       ·have h1:=HSR.out.lt (i:=wr.heap.size) (.inr (.inr (.inr (.inr (.inr (.inr ⟨es,by rw [hra];exact f⟩))))))
        omega)
     have hlen:=HEL.out
     clear hrow hra hS4 hlv
     go_upto_region 4 with (fail)
     refine' Av.X.wp_region_dagG (fun i=>(Value.slice ra (ev es).length rc).ownBlock=some i) 16 [(42,[900,41],[])] [900] ((27, .val _)::(28, .val _)::(29, .val _)::(30, .val _)::(31, .val _)::(32, .val _)::(33, .val _)::(34, .val _)::(35, .val _)::(36, .val _)::(37, .val _)::(38, .val _)::(39, .val _)::(40, .val _)::(41,⟨fun _=>True,fun v w'=>BoxL w4.heap.size evT 1 [.int .i64 es, .string ep, .int .i64 ek] v w'⟩)::(42,⟨fun v=>∃ a c,v=.slice a ((ev es).length+1) c,fun v w'=>w'.ownsRow 0 evT 3 v ((ev es).length+1) ((ev es).flatMap wcell++[.int .i64 es, .string ep, .int .i64 ek])∧∀ i,v.ownBlock=some i→(Value.slice ra (ev es).length rc).ownBlock=some i∨w4.heap.size≤i⟩)::(900,⟨fun _=>True,fun _ w'=>w'.ownsRow 0 evT 3 (.slice ra (ev es).length rc) (ev es).length ((ev es).flatMap wcell)⟩)::[]) (by exact ⟨fun _ _ _ _ _=>trivial,⟨fun _ _ _ _ _=>trivial,⟨fun _ _ _ _ _=>trivial,⟨fun _ _ _ _ _=>trivial,⟨fun _ _ _ _ _=>trivial,⟨fun _ _ _ _ _=>trivial,⟨fun _ _ _ _ _=>trivial,⟨fun _ _ _ _ _=>trivial,⟨fun _ _ _ _ _=>trivial,⟨fun _ _ _ _ _=>trivial,⟨fun _ _ _ _ _=>trivial,⟨fun _ _ _ _ _=>trivial,⟨fun _ _ _ _ _=>trivial,⟨fun _ _ _ _ _=>trivial,⟨fun _ _ _ hr hv=>hv.ext hr,⟨fun _ _ _ hr hv=>⟨ownsRow.ext hv.1 hr,hv.2⟩,⟨fun _ _ _ hr hv=>ownsRow.ext hv hr,trivial⟩⟩⟩⟩⟩⟩⟩⟩⟩⟩⟩⟩⟩⟩⟩⟩⟩) (by exact ⟨⟨undef,ownsRow.ext HROW.out (Kp.refl (fun _=>False) _).drew⟩,trivial⟩) (by kernel_rfl) (by kernel_rfl) (by kernel_rfl) ?_
     rotate_left 14
     simp only [List.take_succ_cons,List.take_zero]
     repeat (first
      | (refine Av.X.wpD_skipv ?_ ?_ ?_
         focus rfl
         focus rfl
         simp only [Act.put,List.setIfInBounds_toArray,List.set_cons_succ,List.set_cons_zero])
      | (refine' Av.X.wpD_val (c:=_) ?_ (fun w=>Kp.refl _ w) ?_ (fun wq hwq hfz=>?_) ?_
         rotate_left
         focus rfl
         focus rfl
         focus (have hfq:=hfz.at_;have hcq:=hfz.use;(have hlk:=HLK.out _ hwq;have c5:=HGX.out _ hwq;have e7:=HE4X.out _ hwq;have e70:=e7.cell 0 _ rfl;have e71:=e7.cell 1 _ rfl;have e72:=e7.cell 2 _ rfl;clear e7);go_simp;first|done|rfl)
         simp only [Act.put,List.setIfInBounds_toArray,List.set_cons_succ,List.set_cons_zero])
      | (refine' Av.X.wpD_con (c:=_) ?_ ?_ (fun wq hwq hfz=>?_) ?_
         rotate_left
         focus rfl
         focus rfl
         focus (have hfq:=hfz.at_;have hcq:=hfz.use;(have hlk:=HLK.out _ hwq;have c5:=HGX.out _ hwq;have e7:=HE4X.out _ hwq;have e70:=e7.cell 0 _ rfl;have e71:=e7.cell 1 _ rfl;have e72:=e7.cell 2 _ rfl;clear e7);go_simp;(try (rw [dUpon_enter]));fail)
         simp only [Act.put,List.setIfInBounds_toArray,List.set_cons_succ,List.set_cons_zero])
      | (refine Av.X.wpD_made (A:=fun _=>True) (V:=fun v w'=>BoxL w4.heap.size evT 1 [.int .i64 es, .string ep, .int .i64 ek] v w') 41 ?_ ?_ ?_ ?_ (fun wq hwq hfz=>?_) (fun v41 h41=>?_)
         focus rfl
         focus rfl
         focus (exact ⟨undef,trivial⟩)
         focus rfl
         focus (have hfq:=hfz.at_;have hcq:=hfz.use;(have hlk:=HLK.out _ hwq;have c5:=HGX.out _ hwq;have e7:=HE4X.out _ hwq;have e70:=e7.cell 0 _ rfl;have e71:=e7.cell 1 _ rfl;have e72:=e7.cell 2 _ rfl;clear e7);go_simp;(try (rw [dUpon_enter]));rw [dUpon_value];exact mPost trivial (BoxL.new hwq.size) ((Kp.refl _ _).alloc _))
         clear h41
         simp only [Act.put,List.setIfInBounds_toArray,List.set_cons_succ,List.set_cons_zero])
      | (refine Av.X.wpD_used (A:=fun v=>∃ a c,v=.slice a ((ev es).length+1) c) (V:=fun v w'=>w'.ownsRow 0 evT 3 v ((ev es).length+1) ((ev es).flatMap wcell++[.int .i64 es, .string ep, .int .i64 ek])∧∀ i,v.ownBlock=some i→(Value.slice ra (ev es).length rc).ownBlock=some i∨w4.heap.size≤i) 42 ?_ ?_ ?_ ?_ (fun wq hwq hfz=>?_) (fun v42 h42=>?_)
         focus rfl
         focus rfl
         focus (exact ⟨.slice none ((ev es).length+1) 0,_,_,rfl⟩)
         focus rfl
         focus (have hfq:=hfz.at_;have hcq:=hfz.use;(have hlk:=HLK.out _ hwq;have c5:=HGX.out _ hwq;have e7:=HE4X.out _ hwq;have e70:=e7.cell 0 _ rfl;have e71:=e7.cell 1 _ rfl;have e72:=e7.cell 2 _ rfl;clear e7);have hrow:wq.ownsRow 0 evT 3 (.slice ra (ev es).length rc) (ev es).length ((ev es).flatMap wcell):=(hcq 900 rfl).elim (fun _ h=>h);refine dUpon_appR (d:=42) rfl (by kernel_rfl) evsT evT 3 (by decide) ev_facts rfl _ _ rfl (.slice ra (ev es).length rc) (ev es).length _ rfl hrow v41 1 [.int .i64 es, .string ep, .int .i64 ek] rfl w4.heap.size (hfq 41 rfl) rfl (wt_one [(⟨es,ep,ek⟩:Wt)]) (by omega) (fun v' w' h1 h2 h3 h4=>⟨owns_slice h1,⟨h1,fun i hi=>?_⟩,(Kp.refl (fun i=>w4.heap.size≤i∨(Value.slice ra (ev es).length rc).ownBlock=some i) _).grown h2 (fun q hq _=>.inr hq), ?_⟩);(rcases h4 with h4|h4;(focus exact .inl (by rw [← h4];exact hi));(rw [h4] at hi;simp only [Option.some.injEq] at hi;right;have:=hwq.size;omega));repeat (first|exact PresL.nil|(with_reducible refine PresL.val ?_)|(refine PresL.out rfl ?_)|(refine PresL.keep (fun u hu=>hu) ?_)))
         obtain ⟨a42,c42,rfl⟩:=h42
         simp only [Act.put,List.setIfInBounds_toArray,List.set_cons_succ,List.set_cons_zero])
      | fail)
     refine Av.X.wpD_nil ?_
     intro w5 hx5 hend
     obtain ⟨hv5,hvb5⟩:w5.ownsRow 0 evT 3 (.slice a42 ((ev es).length+1) c42) ((ev es).length+1) ((ev es).flatMap wcell++[Value.int .i64 es,Value.string ep,Value.int .i64 ek])∧∀ i,(Value.slice a42 ((ev es).length+1) c42).ownBlock=some i→(Value.slice ra (ev es).length rc).ownBlock=some i∨w4.heap.size≤i:=hend 42 (by kernel_rfl)
     clear hend
     have hk5:Kp (fun i=>(Av.rowAt B1.E es).ownBlock=some i) w4 w5:=hx5.mono (fun i hi e=>by
      rcases e with e|e
      ·omega
      ·rw [HRA.out];exact e)
     have hem5:MapK mI w5 B1.em B1.E:=HS4.out.ev.map.kp hk5 ((HS4.out.safeR es).map HS4.out.ev.map (by simp))
     obtain ⟨w6,u1,u2,u3,u4⟩:=MapK.update kI64 tEvs hem5 es (.slice a42 ((ev es).length+1) c42)
     have hys:w5.ownsRow 0 evT 3 (.slice a42 ((ev es).length+1) c42) (ev es++[(⟨es,ep,ek⟩:Wt)]).length ((ev es++[(⟨es,ep,ek⟩:Wt)]).flatMap wcell):=by
      rw [flatMap_snoc,List.length_append];exact hv5
     have hput:=HS4.out.put es hk5 hys (fun i hi=>by rw [HRA.out];exact hvb5 i hi) u2 u3
     have HPUT:=Lib.hid hput
     have hu1:(Instr.mapUpdate 139 (.map (some B1.em)) (.int .i64 es) (.slice a42 ((ev es).length+1) c42)).run Tryz.prog w5=.ok () w6:=u1
     clear hv5 hvb5 hk5 hem5 u1 u2 u3 u4 hys hput hx5
     go_wp2_with (fail)
     go_light
     obtain ⟨B2,hB2,hk2,ho2⟩:=HPUT.out
     refine ⟨⟨k+1,B2, ?_, ?_, ?_, ?_,fun i hi=>?_⟩, ?_⟩
     ·omega
     ·go_num
     ·rw [HTK.out,HAE.out]
      exact hB2
     ·refine (HKP.out.next HX4.out (fun i _ f=>f.elim)).next hk2 (fun i hi hs=>?_)
      rcases HOWN.out i hs with h|h
      ·exact h
      ·omega
     ·rcases ho2 i hi with h|h
      ·exact HOWN.out i h
      ·exact .inr (by have h1:=HKP.out.size;have h2:=HX4.out.size;omega)
     ·simp [intOf];omega
  ·obtain rfl:k=l.length:=by omega
   rw [List.take_length] at HSR
   have HSZ:Hid (SoPost w0 w g K B (fireS s p ch) wr):=by
    refine ⟨B1, ?_,HK1.out.trans HKP.out,fun i hi=>?_⟩
    ·rw [HEQ.out];exact HSR.out
    ·rcases HOWN.out i hi with h|h
     ·exact .inl h
     ·exact .inr (Nat.le_trans HK1.out.size h)
   clear hs hkp hown
   go_wp2_with (fail)
   go_end0
   exact ⟨⟨_,rfl⟩,HSZ.out⟩
end Go.Proofs.YtnlefnhdhigecaaGreatDoor

namespace Go.Proofs.YtnlefnhdhigecaaGreatDoor
set_option maxRecDepth 100000
open Go.RowKit Av
variable {w0 w w':World} {g K N:Nat} {B:SoB} {s:SoV}
theorem SoOk.fire (h:SoOk N s) (p:ByteArray) (ch:Int):SoOk N (fireS s p ch):=by
 refine ⟨h.ss,h.zx,fun q=>?_,h.last⟩
 have h1:=addEv_len s.ss (fireT p ch s.wl) s.ev q
 have h2:=h.ev q
 have h3:=fire_len p ch s.wl
 show ((fireT p ch s.wl).foldl (addEv s.ss) s.ev q).length+(fireG p ch s.wl).length≤N
 omega
theorem SoOk.chStep (h:SoOk N s) (x:OpV×Rp):SoOk N (chStep s x):=by
 unfold Proofs.YtnlefnhdhigecaaGreatDoor.chStep
 split
 ·exact h
 ·exact h.fire _ _
theorem SoOk.chs:∀ (l:List (OpV×Rp)) {s:SoV},SoOk N s→SoOk N (l.foldl Proofs.YtnlefnhdhigecaaGreatDoor.chStep s)
 | [],_,h=>h
 | x::l,_,h=>SoOk.chs l (h.chStep x)
def ChgRel (w0 w1:World) (g K:Nat) (B:SoB) (s:SoV) (l:List (OpV×Rp)) (s13:Value) (wr:World):Prop:=
 ∃ (k:Nat) (B1:SoB),k≤l.length∧s13=.int .i64 k∧SoR w0 wr g K B1 ((l.take k).foldl chStep s)∧Kp (SoFr g B) w1 wr∧∀ i,SoFr g B1 i→SoFr g B i∨w1.heap.size≤i
set_option maxHeartbeats 6400000 in
theorem soChanged_any (h:SoR w0 w g K B s) (hok:SoOk N s) (hN:N≤100000) (hG:GL w0) (v u:Value) (ops:List OpV) (r:RpV) (base:Nat) (ho:OpsAt w v ops) (hoff:∀ i,v.ownBlock=some i→¬ SoFr g B i) (hr:RpAt w base u r) (hres:r.err=0→r.res.length=ops.length∧∀ x∈r.res,x.path.size≤maxLen) :
  Calls Tryz.prog 84 #[.pointer (some ⟨g,0,none⟩),v, .agg (rplA r u)] w fun e w'=>(∃ u,e=.returned u)∧SoPost w0 w g K B (changedS s ops r) w':=by
 obtain ⟨wB,hWB⟩:∃ wB,w.alloc (.cells (rplA r u) rplT)=wB:=⟨_,rfl⟩
 have hxB:Ext w wB:=by rw [← hWB];exact (Kp.refl _ _).alloc _
 have hB:Blk wB w.heap.size (rplA r u) rplT:=by rw [← hWB];exact heap_alloc_new w _
 obtain ⟨us,hus,hue⟩:=hr
 obtain ⟨ua,uc,rfl,hmu,hou⟩:=(hus.ext hxB).open
 obtain ⟨va,vc,rfl,hcc,hm,hop⟩:=OpsAt.open ho
 have HWB:=Lib.hid hWB
 have HXB:=Lib.hid hxB
 have HH:=Lib.hid h
 obtain ⟨rn,rz,re,ra,rr⟩:=r
 simp only at hue hres
 unfold rplA at hB HWB ⊢
 simp only at hB HWB ⊢
 have b2:=hB.cell 2 _ rfl
 by_cases hre:re=0
 ·subst hre
  obtain ⟨hrl,hrp⟩:=hres rfl
  have hzl:(ops.zip rr).length=ops.length:=by rw [List.length_zip];omega
  have HE:Hid (changedS s ops ⟨rn,rz,0,ra,rr⟩=(ops.zip rr).foldl chStep s):=by show _=_;unfold changedS;rw [if_neg (by simp)]
  have HB:=Lib.hid hB
  have HUS:=Lib.hid (hus.ext hxB)
  have HUE:=Lib.hid hue
  have HRP:=Lib.hid hrp
  have HOFF:=Lib.hid hoff
  have HOP:=Lib.hid hop
  have HOK:=Lib.hid hok
  have HZL:=Lib.hid hzl
  have HRL:=Lib.hid hrl
  have HGG:=Lib.hid hG
  have hsB:=h.ext hxB
  have HSB:=Lib.hid hsB
  unfold maxLen at hm
  clear h hok hG ho hoff hres hus hue hrp hop hB hxB hWB hou hzl hrl hsB hmu
  go_enter Tryz.func84,Tryz.ntmps84
  go_upto_region 1 with (fail)
  rw [HWB.out]
  go_wp2_with (fail)
  go_loopw [13] (fun s13 wr=>ChgRel w0 wB g K B s (ops.zip rr) s13 wr) (fun s13 _=>ops.length - (intOf s13).toNat)
  case atStart=>exact ⟨0,B,Nat.zero_le _,rfl,HSB.out,Kp.refl _ _,fun i hi=>.inl hi⟩
  case round=>
   clear HSB b2
   obtain ⟨k,B1,hk,rfl,hs,hkp,hown⟩:=hrel
   rw [HZL.out] at hk
   have HKP:=Lib.hid hkp
   have HOWN:=Lib.hid hown
   by_cases hlt:k<ops.length
   ·have hlr:k<rr.length:=by have:=HRL.out;omega
    have hlu:k<us.length:=by have:=congrArg List.length HUE.out;rw [List.length_map] at this;omega
    obtain ⟨og,oo,rfl,hog,hoc⟩:=HOP.out (by omega)
    have hocell:=hoc k hlt
    have hoffg:¬ SoFr g B og:=HOFF.out og rfl
    have hztk:((ops.zip rr).take (k+1)).foldl chStep s=chStep (((ops.zip rr).take k).foldl chStep s) (ops[k],rr[k]):=by
     rw [List.take_succ_eq_append_getElem (by rw [HZL.out];exact hlt),List.foldl_append,List.getElem_zip]
     rfl
    have hur:=(HUS.out.kpT hkp (HH.out.safeA_noT HXB.out (by decide)) (HH.out.safeA_noT HXB.out (by decide)))
    obtain ⟨_,_,hue2,_,huo⟩:=hur.open
    simp only [Value.slice.injEq,true_and] at hue2
    obtain ⟨rfl,rfl⟩:=hue2
    obtain ⟨ub,uo,rfl,hub,huc⟩:=huo (by omega)
    have hpc:=huc k hlu 1 _ (by decide) rfl
    have hrk:us[k].r=rr[k]:=by
     have h1:(us.map (·.r))[k]'(by rw [List.length_map];exact hlu)=us[k].r:=List.getElem_map ..
     rw [← h1]
     simp only [HUE.out]
    rw [hrk] at hpc
    have hps:=HRP.out _ (List.getElem_mem hlr)
    generalize rr[k]=x at hztk hpc hps hrk
    generalize ops[k]=o at hztk hocell
    obtain ⟨ok,op,od,ov,of⟩:=o
    simp only at hocell
    have hxw:∀ (j:Nat) (y:Value),w.cell? ⟨og,j,none⟩=some y→wr.cell? ⟨og,j,none⟩=some y:=fun j y hy=>hkp.cell (HXB.out.cell hy (fun f=>f)) hoffg
    have e0:=hxw _ _ hocell.1
    have e1:=hxw _ _ hocell.2.1
    have e2:=hxw _ _ hocell.2.2.1
    have e3:=hxw _ _ hocell.2.2.2.1
    have e4:=hxw _ _ hocell.2.2.2.2
    have hok1:=SoOk.chs ((ops.zip rr).take k) HOK.out
    obtain ⟨wC,hWC⟩:∃ wC,wr.alloc (.cells #[.int .i64 ok, .string op, .string od, .int .i64 ov, .int .i64 of] 33)=wC:=⟨_,rfl⟩
    have hxC:Ext wr wC:=by rw [← hWC];exact (Kp.refl _ _).alloc _
    have hoC:Blk wC wr.heap.size #[.int .i64 ok, .string op, .string od, .int .i64 ov, .int .i64 of] 33:=by rw [← hWC];exact heap_alloc_new wr _
    have hsC:=hs.ext hxC
    have HSC:=Lib.hid hsC
    have HFIRE:=Lib.hid (fun W (hW:SoR w0 W g K B1 (((ops.zip rr).take k).foldl chStep s)) (c:Int)=>soFire_any hW hok1 hN ((HGG.out.ext hW.ex)) x.path c hps)
    generalize ((ops.zip rr).take k).foldl chStep s=sk at hztk HSC HFIRE hs hsC hok1
    have HTK:=Lib.hid hztk
    have HXC:=Lib.hid hxC
    have HWC:=Lib.hid hWC
    have hb4:=(HB.out.kp hkp ((HH.out.ext HXB.out).safeA.blk HB.out (by decide))).kp hxC (fun f=>f)
    have c4:=hb4.cell 4 _ rfl
    have p1:=hxC.cell hpc (fun f=>f)
    have hI1:(0:Int)≤(k:Int):=by omega
    have hI2:(k:Int)<(us.length:Int):=by omega
    have hI3:(k:Int)<(ops.length:Int):=by omega
    have a0:=hoC.cell 0 _ rfl
    clear hocell hztk hur huo huc hub hpc hps hrk hxw hok1 hWC hxC hoC hsC hs hkp hown hog hoc hb4
    go_upto_region 5 with (fail)
    rw [HWC.out]
    clear e0 e1 e2 e3 e4
    by_cases k1:ok=1
    ·subst k1
     go_wp2_with (fail)
     refine (HFIRE.out wC HSC.out 1).mono ?_
     rintro e w5 ⟨⟨u5,rfl⟩,hp5⟩
     obtain ⟨B2,hB2,hk2,ho2⟩:=hp5
     have HB2:=Lib.hid hB2
     have HK2:=Lib.hid hk2
     have HO2:=Lib.hid ho2
     clear hB2 hk2 ho2
     go_wp2_with (fail)
     go_light
     refine ⟨⟨k+1,B2, ?_, ?_, ?_, ?_,fun i hi=>?_⟩, ?_⟩
     ·have:=HZL.out;omega
     ·go_num
     ·rw [HTK.out]
      unfold chStep chOf
      simp only
      exact HB2.out
     ·refine (HKP.out.next HXC.out (fun i _ f=>f.elim)).next HK2.out (fun i hi hs=>?_)
      rcases HOWN.out i hs with h|h
      ·exact h
      ·omega
     ·rcases HO2.out i hi with h|h
      ·exact HOWN.out i h
      ·exact .inr (by have h1:=HKP.out.size;have h2:=HXC.out.size;omega)
     ·simp [intOf];omega
    ·by_cases k2:ok=2
     ·subst k2
      go_wp2_with (fail)
      refine (HFIRE.out wC HSC.out 2).mono ?_
      rintro e w5 ⟨⟨u5,rfl⟩,hp5⟩
      obtain ⟨B2,hB2,hk2,ho2⟩:=hp5
      have HB2:=Lib.hid hB2
      have HK2:=Lib.hid hk2
      have HO2:=Lib.hid ho2
      clear hB2 hk2 ho2
      go_wp2_with (fail)
      go_light
      refine ⟨⟨k+1,B2, ?_, ?_, ?_, ?_,fun i hi=>?_⟩, ?_⟩
      ·have:=HZL.out;omega
      ·go_num
      ·rw [HTK.out]
       unfold chStep chOf
       simp only
       exact HB2.out
      ·refine (HKP.out.next HXC.out (fun i _ f=>f.elim)).next HK2.out (fun i hi hs=>?_)
       rcases HOWN.out i hs with h|h
       ·exact h
       ·omega
      ·rcases HO2.out i hi with h|h
       ·exact HOWN.out i h
       ·exact .inr (by have h1:=HKP.out.size;have h2:=HXC.out.size;omega)
      ·simp [intOf];omega
     ·by_cases k3:ok=3
      ·subst k3
       go_wp2_with (fail)
       refine (HFIRE.out wC HSC.out 3).mono ?_
       rintro e w5 ⟨⟨u5,rfl⟩,hp5⟩
       obtain ⟨B2,hB2,hk2,ho2⟩:=hp5
       have HB2:=Lib.hid hB2
       have HK2:=Lib.hid hk2
       have HO2:=Lib.hid ho2
       clear hB2 hk2 ho2
       go_wp2_with (fail)
       go_light
       refine ⟨⟨k+1,B2, ?_, ?_, ?_, ?_,fun i hi=>?_⟩, ?_⟩
       ·have:=HZL.out;omega
       ·go_num
       ·rw [HTK.out]
        unfold chStep chOf
        simp only
        exact HB2.out
       ·refine (HKP.out.next HXC.out (fun i _ f=>f.elim)).next HK2.out (fun i hi hs=>?_)
        rcases HOWN.out i hs with h|h
        ·exact h
        ·omega
       ·rcases HO2.out i hi with h|h
        ·exact HOWN.out i h
        ·exact .inr (by have h1:=HKP.out.size;have h2:=HXC.out.size;omega)
       ·simp [intOf];omega
      ·go_wp2_with (fail)
       go_light
       refine ⟨⟨k+1,B1, ?_, ?_, ?_,HKP.out.next HXC.out (fun i _ f=>f.elim),HOWN.out⟩, ?_⟩
       ·have:=HZL.out;omega
       ·go_num
       ·rw [HTK.out]
        unfold chStep chOf
        simp only [if_neg k1,if_neg k2,if_neg k3,if_true]
        exact HSC.out
       ·simp [intOf];omega
   ·obtain rfl:k=ops.length:=by omega
    have ht:(ops.zip rr).take ops.length=ops.zip rr:=List.take_of_length_le (by rw [HZL.out];exact Nat.le_refl _)
    rw [ht] at hs
    have HS:=Lib.hid hs
    clear hs hkp hown ht
    go_wp2_with (fail)
    go_end0
    rw [HE.out]
    refine ⟨⟨_,rfl⟩,B1,HS.out,(Ext.kp HXB.out).trans HKP.out,fun i hi=>?_⟩
    rcases HOWN.out i hi with h|h
    ·exact .inl h
    ·exact .inr (Nat.le_trans HXB.out.size h)
 ·have HE:Hid (changedS s ops ⟨rn,rz,re,ra,rr⟩=s):=by show _=_;unfold changedS;rw [if_pos hre]
  clear h hok hG ho hoff hres hus hue hop hB hxB hWB hou
  go_enter Tryz.func84,Tryz.ntmps84
  go_upto_region 1 with (fail)
  rw [HWB.out]
  go_wp2_with (fail)
  refine bodyPost_ret (results_none rfl _ _ _) rfl ?_
  rw [HE.out]
  exact ⟨⟨_,rfl⟩,(SoPost.refl HH.out).ext HXB.out⟩
end Go.Proofs.YtnlefnhdhigecaaGreatDoor

namespace Av.X
set_option maxRecDepth 100000
open Go Go.RowKit
theorem stab_eq:∀ S:List (Tmp×TSpec),Stab (fun a b=>a=b) S
 | []=>trivial
 | _::r=>⟨fun _ _ _ e h=>e ▸ h,stab_eq r⟩
variable {P:Program}
theorem wp_region_dagE {id:Nat} {Q:Exit→Act→World→Prop} {a:Act} {w:World} {l:List Oper} (G:Nat→Prop) (n:Nat) (C:List (Tmp×List Tmp×List Tmp)) (D0:List Tmp) (S:List (Tmp×TSpec)) (hini:Ini S w.drew D0) (hm:P.follows .mixedOrders=true) (hB:dagXB .any l.toArray C D0 n=true) (hsz:dstB l.toArray a.tmps.size=true)
  (h:WpD P l.toArray (fun a b=>a=b) (fun a b=>Kp (fun i=>w.heap.size≤i∨G i) a b) w S C (fun a'=>∀ w',Kp (fun i=>w.heap.size≤i∨G i) w w'→Ends l.toArray S C n a' w'→PutE l.toArray S n w'→wpList P l.toArray Q (l.drop n) a' w') (l.take n) 0 a):(Code.region id l.toArray true).wp P Q a w:=
 wp_region_dagX n S C D0 (fun a b=>Kp (fun i=>w.heap.size≤i∨G i) a b) (fun w=>Kp.refl _ w) (fun _ _ _ h k=>h.trans k) (Kp.refl _ w).drew hm hini hB hsz (h.out (stab_eq S) (fun _ _ h=>h ▸ Kp.refl _ _))
end Av.X

