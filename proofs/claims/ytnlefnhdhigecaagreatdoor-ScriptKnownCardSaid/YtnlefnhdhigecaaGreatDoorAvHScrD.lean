/- Walks: package script: request. -/
import Derived.Test.YtnlefnhdhigecaaGreatDoorAvHScrC
import Derived.Test.YtnlefnhdhigecaaGreatDoorAvG16
import Derived.Test.YtnlefnhdhigecaaGreatDoorAvG14
namespace Go.Proofs.YtnlefnhdhigecaaGreatDoor
set_option maxRecDepth 100000
open Go.RowKit Av
abbrev opsTy:TypeId:=69
theorem op_factsT:ElemOk Tryz.prog opsTy opTy 5:=⟨by kernel_rfl,by kernel_rfl⟩
theorem op_one1 (o:OpV):∀ y∈OpV.cells o,y.oneCell'=true:=by
 intro y hy
 simp only [OpV.cells,List.mem_cons,List.not_mem_nil,or_false] at hy
 rcases hy with rfl|rfl|rfl|rfl|rfl<;>rfl
theorem RdrAt.kpS {S:Nat→Prop} {W W':World} {rb m:Nat} {r:RdS} (h:RdrAt W rb m r) (k:Kp S W W') (hb:¬ S rb) (hm:∀ i,i<m→¬ S i):RdrAt W' rb m r:=by
 obtain ⟨a,c,h1,h2,h3,h4⟩:=h
 refine ⟨a,c,h1.kp k hb,h2,h3,fun hn=>?_⟩
 obtain ⟨q,off,rfl,hq,hc⟩:=h4 hn
 exact ⟨q,off,rfl,hq,fun i hi=>k.cell (hc i hi) (hm _ hq.2)⟩
theorem row_off {W:World} {base n xb:Nat} {v:Value} {xs:List Value} {A:Array Value} (h:W.ownsRow base opTy 5 v n xs) (hb:Blk W xb A reqT):∀ i,v.ownBlock=some i→¬ i=xb:=fun i hi e=>by
 obtain ⟨cur,f,hc⟩:=own_type h hi
 rw [e] at hc
 have h2:W.heap[xb]? = some (.cells A reqT (0,0)):=hb
 rw [hc] at h2
 simp only [Option.some.injEq,Obj.cells.injEq] at h2
 exact absurd h2.2.1 (by decide)
theorem word_len (r:RdS):(wordR r).2.1.length≤r.1.length∧(r.1≠[]→(wordR r).2.1.length+1≤r.1.length):=by
 unfold wordR
 split
 ·rename_i h;exact ⟨Nat.zero_le _,fun h2=>absurd h h2⟩
 ·rename_i s l h;rw [h];exact ⟨by simp,fun _=>by simp⟩
theorem num_len (r:RdS):(numR r).2.1.length≤r.1.length:=by
 unfold numR
 split
 ·exact (word_len r).1
 ·exact (word_len r).1
theorem part_len (r:RdS):(partR r).2.1.length≤r.1.length:=(word_len r).1
theorem data_len (r:RdS):(dataR r).2.1.length≤r.1.length:=part_len r
theorem op_len (r:RdS):(opR r).2.1.length≤r.1.length:=by
 have h1:=(word_len r).1
 have h2:=part_len (wordR r).2
 have h3:=data_len (partR (wordR r).2).2
 have h4:=num_len (dataR (partR (wordR r).2).2).2
 have h5:=num_len (partR (wordR r).2).2
 unfold opR
 simp only
 have h6:=Nat.le_trans h2 h1
 have h7:=Nat.le_trans h4 (Nat.le_trans h3 h6)
 have h8:=Nat.le_trans h5 h6
 repeat' split
 ·exact h7
 ·exact h8
 ·exact h7
 ·exact h8
 ·exact h6
 ·exact h6
 ·exact h6
 ·exact h6
theorem SmR.op {r:RdS} (h:SmR r):SmR (opR r).2:=by
 have h1:=h.word.1.part.1
 unfold opR
 simp only
 repeat' split
 ·exact h1.data.1.num
 ·exact h1.num
 ·exact h1.data.1.num
 ·exact h1.num
 ·exact h1
 ·exact h1
 ·exact h1
 ·exact h1
theorem SmR.plus {r:RdS} (h:SmR r):SmR (plusR r):=h.word.1
theorem more_stop {f:Nat} {r:RdS} {ops:List OpV} (h:r.1=[]∨r.2=true):moreR f r ops=(ops,r):=by
 cases f with
 | zero=>rfl
 | succ f=>unfold moreR;rw [if_pos h]
theorem more_go {f:Nat} {r:RdS} {ops:List OpV} (h1:r.1≠[]) (h2:r.2=false):moreR (f+1) r ops=moreR f (opR (plusR r)).2 (ops++[(opR (plusR r)).1]):=by
 show (if r.1=[]∨r.2=true then _ else _)=_
 rw [if_neg (by rintro (h|h);(exact h1 h);(rw [h2] at h;cases h))]
def lenC (w:World) (rb:Nat):Nat:=match w.cell? ⟨rb,0,none⟩ with
 | some (.slice _ n _)=>n
 | _=>0
theorem lenC_eq {w:World} {rb m:Nat} {r:RdS} (h:RdrAt w rb m r):lenC w rb=r.1.length:=by
 obtain ⟨a,c,h1,_⟩:=h.cells
 unfold lenC
 rw [h1]
def RqPost (w:World) (rb m:Nat) (X:(Int×Int×List OpV)×RdS) (e:Ending) (w':World):Prop:=∃ v,e=.returned (.agg #[.int .i64 X.1.1, .int .i64 X.1.2.1,v])∧w'.ownsRow w.heap.size opTy 5 v X.1.2.2.length (X.1.2.2.flatMap OpV.cells)∧RdrAt w' rb m X.2∧Kp (fun i=>i=rb) w w'
def RqRel (w:World) (rb m xb L0:Nat) (a b:Int) (M:List OpV×RdS) (wr:World):Prop:=∃ f r ops va vc,moreR f r ops=M∧r.1.length≤f∧SmR r∧ops.length+r.1.length≤L0∧RdrAt wr rb m r∧Blk wr xb #[.int .i64 a, .int .i64 b, .slice va ops.length vc] reqT∧wr.ownsRow w.heap.size opTy 5 (.slice va ops.length vc) ops.length (ops.flatMap OpV.cells)∧Kp (fun i=>i=rb) w wr∧Blk wr w.heap.size reqZ reqT
set_option maxHeartbeats 12800000 in
theorem request_rd (rb m:Nat) (r:RdS) (w:World) (h:RdrAt w rb m r) (hs:SmR r) (hm:m≤w.heap.size) (hl:r.1.length≤100000) :
  Calls Tryz.prog 186 #[.pointer (some ⟨rb,0,none⟩)] w (RqPost w rb m (reqR r)):=by
 obtain ⟨w0,hw0⟩:∃ W,w.alloc (.cells reqZ reqT)=W:=⟨_,rfl⟩
 have hx0:Ext w w0:=by rw [← hw0];exact (Kp.refl _ _).alloc _
 have hz0:Blk w0 w.heap.size reqZ reqT:=by rw [← hw0];exact heap_alloc_new w _
 have HRB:Hid (rb<w.heap.size):=h.cells.choose_spec.choose_spec.2.2.2
 have HMM:=Lib.hid hm
 obtain ⟨p,hp⟩:∃ p,numR r=p:=⟨_,rfl⟩
 obtain ⟨q,hq⟩:∃ q,numR p.2=q:=⟨_,rfl⟩
 obtain ⟨o,ho⟩:∃ o,opR q.2=o:=⟨_,rfl⟩
 obtain ⟨M,hM⟩:∃ M,moreR o.2.1.length o.2 [o.1]=M:=⟨_,rfl⟩
 have hreq:reqR r=((p.1,q.1,M.1),M.2):=by unfold reqR;simp only [hp,hq,ho,hM]
 rw [hreq]
 have hs1:SmR p.2:=by rw [← hp];exact hs.num
 have hs2:SmR q.2:=by rw [← hq];exact hs1.num
 have hl1:p.2.1.length≤100000:=by rw [← hp];exact Nat.le_trans (num_len r) hl
 have hl2:q.2.1.length≤100000:=by rw [← hq];exact Nat.le_trans (num_len p.2) hl1
 have hs3:SmR o.2:=by rw [← ho];exact hs2.op
 have hl3:o.2.1.length≤100000:=by rw [← ho];exact Nat.le_trans (op_len q.2) hl2
 have hn1:=number_any rb m r w0 (h.ext hx0) hs
 rw [hp] at hn1
 have HN1:=Lib.hid hn1
 have HN2:Hid (∀ W,RdrAt W rb m p.2→Calls Tryz.prog 179 #[.pointer (some ⟨rb,0,none⟩), .bool true] W fun e w'=>e=.returned (.int .i64 q.1)∧RdrAt w' rb m q.2∧Kp (fun i=>i=rb) W w'):=fun W hW=>by
  have:=number_any rb m p.2 W hW hs1
  rwa [hq] at this
 have HOP:Hid (∀ W,RdrAt W rb m q.2→m≤W.heap.size→Calls Tryz.prog 221 #[.pointer (some ⟨rb,0,none⟩)] W fun e w'=>e=.returned o.1.val∧RdrAt w' rb m o.2∧Kp (fun i=>i=rb) W w'):=fun W hW hmW=>by
  have:=op_any rb m q.2 W hW hs2 hmW
  rwa [ho] at this
 have HMX:=Lib.hid hM
 have HS3:=Lib.hid hs3
 have HW0:=Lib.hid hw0
 have HZ0:=Lib.hid hz0
 have HX0:=Lib.hid hx0
 unfold reqZ at HW0
 clear h hs hm hl hw0 hx0 hz0 hp hq ho hM hreq hs1 hs2 hs3 hl1 hl2 hn1
 go_enter Tryz.func186,Tryz.ntmps186
 go_upto_region 1 with (fail)
 rw [HW0.out]
 clear HW0
 go_wp2_with (fail)
 refine HN1.out.mono ?_
 rintro e w1 ⟨rfl,h1,k1⟩
 obtain ⟨w2,hw2⟩:∃ W,w1.alloc (.cells #[.int .i64 p.1, .int .i64 0, .slice none 0 0] reqT)=W:=⟨_,rfl⟩
 have hx2:Ext w1 w2:=by rw [← hw2];exact (Kp.refl _ _).alloc _
 have hb2:Blk w2 w1.heap.size #[.int .i64 p.1, .int .i64 0, .slice none 0 0] reqT:=by rw [← hw2];exact heap_alloc_new w1 _
 have hsz:=HX0.out.size
 have hsz1:=k1.size
 have hsz0:=HZ0.out.lt
 have HK2:=Lib.hid (((Ext.kp HX0.out).trans k1).next hx2 (fun _ _ f=>f.elim))
 have HZ2:=Lib.hid ((HZ0.out.kp k1 (by have:=HRB.out;omega)).kp hx2 (fun f=>f))
 have H2:=Lib.hid (h1.ext hx2)
 have HB2:=Lib.hid hb2
 have HW2:=Lib.hid hw2
 have HXO:Hid (w.heap.size<w1.heap.size):=by show _<_;omega
 clear h1 k1 hw2 hx2 hb2 hsz hsz1 hsz0 HN1 HX0 HZ0
 go_upto_region 2 with (fail)
 rw [HW2.out]
 clear HW2
 generalize w1.heap.size=xb at *
 go_wp2_with (fail)
 refine (HN2.out _ H2.out).mono ?_
 rintro e w3 ⟨rfl,h3,k3⟩
 have hb3:=HB2.out.kp k3 (by have:=HRB.out;have:=HXO.out;omega)
 obtain ⟨w4,hw4⟩:∃ W,w3.setCell ⟨xb,1,none⟩ (.int .i64 q.1)=W:=⟨_,rfl⟩
 have k4:Kp (fun i=>i=xb) w3 w4:=by rw [← hw4];exact (Kp.refl (fun i=>i=xb) w3).set1 xb 1 _ rfl
 have HB4:Hid (Blk w4 xb #[.int .i64 p.1, .int .i64 q.1, .slice none 0 0] reqT):=by show Blk _ _ _ _;rw [← hw4];exact hb3.set 1 _
 have HRD:=Lib.hid (h3.off k4 (by have:=HRB.out;have:=HXO.out;omega) (by have:=HMM.out;have:=HXO.out;omega))
 have HK4:=Lib.hid ((HK2.out.next k3 (fun _ _ e=>e)).next k4 (fun i hi e=>by have:=HXO.out;omega))
 have HZ:=Lib.hid ((HZ2.out.kp k3 (by have:=HRB.out;omega)).kp k4 (by have:=HXO.out;omega))
 have HROW:Hid (w4.ownsRow w.heap.size opTy 5 (.slice none 0 0) 0 (([]:List OpV).flatMap OpV.cells)):=⟨rfl, .inl ⟨rfl,rfl⟩⟩
 have HW4:=Lib.hid hw4
 have c0:=hb3.cell 0 _ rfl
 have c1:=hb3.cell 1 _ rfl
 have c2:=hb3.cell 2 _ rfl
 have fc0:=hb3.free 0
 have fc1:=hb3.free 1
 have fc2:=hb3.free 2
 clear h3 k3 hb3 hw4 k4 HN2 H2 HB2 HK2 HZ2
 go_upto_region 3 with (fail)
 rw [HW4.out]
 clear HW4 c0 c1 c2 fc0 fc1 fc2
 have HONE:Hid (∀ y∈OpV.cells o.1,y.oneCell'=true):=op_one1 o.1
 have HGE:Hid (∀ i,(Value.slice none 0 0).ownBlock=some i→w.heap.size≤i∧i<(w4).heap.size):=fun i hi=>own_in (HROW).out hi
 have HXB:Hid (∀ i,(Value.slice none 0 0).ownBlock=some i→i≠xb):=fun i hi e=>by
  obtain ⟨cur,f,hc⟩:=own_type (HROW).out hi
  rw [e] at hc
  have h2:(w4).heap[(xb:Nat)]? = some (.cells _ reqT (0,0)):=(HB4).out
  rw [hc] at h2
  simp only [Option.some.injEq,Obj.cells.injEq] at h2
  exact absurd h2.2.1 (by decide)
 have HXS:Hid (xb<(w4).heap.size):=(HB4).out.lt
 go_upto_region 3 with (fail)
 refine' Av.X.wp_region_dagG (fun i=>(Value.slice none 0 0).ownBlock=some i∨i=rb) 7 [(13,[900],[14,15]),(15,[901,14],[])] [900,901] ((10, .val _)::(11, .val _)::(12, .val _)::(13,⟨fun u=>u=.agg #[.int .i64 (o.1).kind, .string (o.1).path, .string (o.1).data, .int .i64 (o.1).ver, .int .i64 (o.1).flags],fun _ w'=>RdrAt w' rb m o.2⟩)::(14,⟨fun _=>True,fun v w'=>BoxL (w4).heap.size opTy 1 (OpV.cells o.1) v w'⟩)::(15,⟨fun v=>∃ a c,v=.slice a (0+1) c,fun v w'=>w'.ownsRow w.heap.size opTy 5 v (0+1) ((([]:List OpV)).flatMap OpV.cells++OpV.cells o.1)⟩)::(16, .val _)::(900,⟨fun _=>True,fun _ w'=>RdrAt w' rb m q.2⟩)::(901,⟨fun _=>True,fun _ w'=>w'.ownsRow w.heap.size opTy 5 (.slice none 0 0) 0 ((([]:List OpV)).flatMap OpV.cells)⟩)::[]) (by exact ⟨fun _ _ _ _ _=>trivial,⟨fun _ _ _ _ _=>trivial,⟨fun _ _ _ _ _=>trivial,⟨fun _ _ _ hr hv=>hv.ext hr,⟨fun _ _ _ hr hv=>hv.ext hr,⟨fun _ _ _ hr hv=>ownsRow.ext hv hr,⟨fun _ _ _ _ _=>trivial,⟨fun _ _ _ hr hv=>hv.ext hr,⟨fun _ _ _ hr hv=>ownsRow.ext hv hr,trivial⟩⟩⟩⟩⟩⟩⟩⟩⟩) (by exact ⟨⟨undef,(HRD).out.ext (Kp.refl _ _).drew⟩,⟨⟨undef,ownsRow.ext (HROW).out (Kp.refl _ _).drew⟩,trivial⟩⟩) (by kernel_rfl) (by kernel_rfl) (by kernel_rfl) ?_
 rotate_left 4
 simp only [List.take_succ_cons,List.take_zero]
 repeat (first
  | (refine Av.X.wpD_skipv ?_ ?_ ?_
     focus rfl
     focus rfl
     simp only [Act.put,List.setIfInBounds_toArray,List.set_cons_succ,List.set_cons_zero])
  | (refine' Av.X.wpD_val (c:=_) ?_ (fun w=>Kp.refl _ w) ?_ (fun wq hwq hfz=>?_) ?_
     rotate_left
     focus rfl
     focus rfl
     focus (have hfq:=hfz.at_;have hcq:=hfz.use;(have c2:=((HB4).out.kp hwq (fun f=>by have:=HXS.out;rcases f with f|f|f;(focus omega);(focus exact HXB.out _ f rfl);(have:=HRB.out;have:=HXO.out;omega))).cell 2 _ rfl);go_simp;first|done|rfl)
     simp only [Act.put,List.setIfInBounds_toArray,List.set_cons_succ,List.set_cons_zero])
  | (refine' Av.X.wpD_con (c:=_) ?_ ?_ (fun wq hwq hfz=>?_) ?_
     rotate_left
     focus rfl
     focus rfl
     focus (have hfq:=hfz.at_;have hcq:=hfz.use;(have c2:=((HB4).out.kp hwq (fun f=>by have:=HXS.out;rcases f with f|f|f;(focus omega);(focus exact HXB.out _ f rfl);(have:=HRB.out;have:=HXO.out;omega))).cell 2 _ rfl);go_simp;(try (rw [dUpon_enter]));fail)
     simp only [Act.put,List.setIfInBounds_toArray,List.set_cons_succ,List.set_cons_zero])
  | (refine Av.X.wpD_used (A:=fun u=>u=.agg #[.int .i64 (o.1).kind, .string (o.1).path, .string (o.1).data, .int .i64 (o.1).ver, .int .i64 (o.1).flags]) (V:=fun _ w'=>RdrAt w' rb m o.2) 13 ?_ ?_ ?_ ?_ (fun wq hwq hfz=>?_) (fun v13 h13=>?_)
     focus rfl
     focus rfl
     focus (exact ⟨_,rfl⟩)
     focus rfl
     focus (have hfq:=hfz.at_;have hcq:=hfz.use;(have c2:=((HB4).out.kp hwq (fun f=>by have:=HXS.out;rcases f with f|f|f;(focus omega);(focus exact HXB.out _ f rfl);(have:=HRB.out;have:=HXO.out;omega))).cell 2 _ rfl);go_simp;(try (rw [dUpon_enter]));have hrd:RdrAt wq rb m q.2:=(hcq 900 rfl).elim (fun _ h=>h);(with_reducible refine (HOP.out _ hrd (by have:=hwq.size;have:=(HK4).out.size;have:=HMM.out;omega)).mono ?_);rintro e w' ⟨rfl,hr',hk'⟩;refine ⟨_,rfl,rfl,hr',hk'.mono (fun i _ e=>.inr (.inr e)), ?_⟩;repeat (first|exact PresL.nil|(with_reducible refine PresL.val ?_)|(refine PresL.out rfl ?_)|(refine PresL.keep (fun u hu=>ownsRow.kp hu hk' (fun i hi e=>by have:=HRB.out;have:=(own_in hu hi).1;omega)) ?_)))
     subst h13
     simp only [Act.put,List.setIfInBounds_toArray,List.set_cons_succ,List.set_cons_zero])
  | (refine Av.X.wpD_made (A:=fun _=>True) (V:=fun v w'=>BoxL (w4).heap.size opTy 1 (OpV.cells o.1) v w') 14 ?_ ?_ ?_ ?_ (fun wq hwq hfz=>?_) (fun v14 h14=>?_)
     focus rfl
     focus rfl
     focus (exact ⟨undef,trivial⟩)
     focus rfl
     focus (have hfq:=hfz.at_;have hcq:=hfz.use;(have c2:=((HB4).out.kp hwq (fun f=>by have:=HXS.out;rcases f with f|f|f;(focus omega);(focus exact HXB.out _ f rfl);(have:=HRB.out;have:=HXO.out;omega))).cell 2 _ rfl);go_simp;(try (rw [dUpon_enter]));rw [dUpon_value];exact mPost trivial (BoxL.new hwq.size) ((Kp.refl _ _).alloc _))
     clear h14
     simp only [Act.put,List.setIfInBounds_toArray,List.set_cons_succ,List.set_cons_zero])
  | (refine Av.X.wpD_used (A:=fun v=>∃ a c,v=.slice a (0+1) c) (V:=fun v w'=>w'.ownsRow w.heap.size opTy 5 v (0+1) ((([]:List OpV)).flatMap OpV.cells++OpV.cells o.1)) 15 ?_ ?_ ?_ ?_ (fun wq hwq hfz=>?_) (fun v15 h15=>?_)
     focus rfl
     focus rfl
     focus (exact ⟨.slice none (0+1) 0,_,_,rfl⟩)
     focus rfl
     focus (have hfq:=hfz.at_;have hcq:=hfz.use;(have c2:=((HB4).out.kp hwq (fun f=>by have:=HXS.out;rcases f with f|f|f;(focus omega);(focus exact HXB.out _ f rfl);(have:=HRB.out;have:=HXO.out;omega))).cell 2 _ rfl);have hrow:wq.ownsRow w.heap.size opTy 5 (.slice none 0 0) 0 ((([]:List OpV)).flatMap OpV.cells):=(hcq 901 rfl).elim (fun _ h=>h);refine dUpon_app (d:=15) rfl (by kernel_rfl) opsTy opTy 5 (by decide) op_factsT rfl _ _ rfl w.heap.size (.slice none 0 0) 0 _ rfl hrow v14 1 (OpV.cells o.1) rfl (BoxL.sl (k:=5) (hfq 14 rfl) rfl (by decide)).1 (BoxL.sl (k:=5) (hfq 14 rfl) rfl (by decide)).2 HONE.out (by omega) (by have:=hwq.size;have:=(HK4).out.size;omega) (fun v' w' h1 h2=>⟨owns_slice h1,h1,h2.mono (fun i _ e=>.inr (.inl e)), ?_⟩);repeat (first|exact PresL.nil|(with_reducible refine PresL.val ?_)|(refine PresL.out rfl ?_)|(refine PresL.keep (fun u hu=>RdrAt.kpS hu h2 (fun e=>by have:=HRB.out;have:=(HGE.out _ e).1;omega) (fun i hi e=>by have:=(HGE.out _ e).1;have:=HMM.out;omega)) ?_)))
     obtain ⟨aN,cN,rfl⟩:=h15
     simp only [Act.put,List.setIfInBounds_toArray,List.set_cons_succ,List.set_cons_zero])
  | fail)
 refine Av.X.wpD_nil ?_
 intro w7 hr7 hend
 have hN:w7.ownsRow w.heap.size opTy 5 (.slice aN (0+1) cN) (0+1) ((([]:List OpV)).flatMap OpV.cells++OpV.cells o.1):=hend 15 (by kernel_rfl)
 have hR:RdrAt w7 rb m o.2:=hend 13 (by kernel_rfl)
 have hB7:=(HB4).out.kp hr7 (fun f=>by
  have:=HXS.out
  rcases f with f|f|f
  ·omega
  ·exact HXB.out _ f rfl
  ·have:=HRB.out
   have:=HXO.out
   omega)
 have HK7:=Lib.hid ((HK4).out.next hr7 (fun i hi f=>by
  rcases f with f|f|f
  ·have:=(HK4).out.size
   omega
  ·have:=(HGE.out _ f).1
   omega
  ·exact f))
 have HZ7:=Lib.hid (HZ.out.kp hr7 (fun f=>by
  have:=HZ.out.lt
  rcases f with f|f|f
  ·omega
  ·obtain ⟨cur,f2,hc⟩:=own_type (HROW).out f
   have h2:(w4).heap[(w.heap.size:Nat)]? = some (.cells _ reqT (0,0)):=HZ.out
   rw [hc] at h2
   simp only [Option.some.injEq,Obj.cells.injEq] at h2
   exact absurd h2.2.1 (by decide)
  ·have:=HRB.out
   omega))
 have HN7:=Lib.hid hN
 have HR7:=Lib.hid hR
 have HB7:=Lib.hid hB7
 clear hend hN hR hr7 HONE HGE HXB HXS
 have c0:=hB7.cell 0 _ rfl
 have c1:=hB7.cell 1 _ rfl
 have c2:=hB7.cell 2 _ rfl
 have fc0:=hB7.free 0
 have fc1:=hB7.free 1
 have fc2:=hB7.free 2
 clear hB7
 obtain ⟨w8,hw8⟩:∃ W,w7.setCell ⟨xb,2,none⟩ (.slice aN (0+1) cN)=W:=⟨_,rfl⟩
 have k8:Kp (fun i=>i=xb) w7 w8:=by rw [← hw8];exact (Kp.refl (fun i=>i=xb) w7).set1 xb 2 _ rfl
 have HB8:Hid (Blk w8 xb #[.int .i64 p.1, .int .i64 q.1, .slice aN (0+1) cN] reqT):=by show Blk _ _ _ _;rw [← hw8];exact HB7.out.set 2 _
 have HR8:=Lib.hid (HR7.out.off k8 (by have:=HRB.out;have:=HXO.out;omega) (by have:=HMM.out;have:=HXO.out;omega))
 have HK8:=Lib.hid (HK7.out.next k8 (fun i hi e=>by have:=HXO.out;omega))
 have HZ8:=Lib.hid (HZ7.out.kp k8 (by have:=HXO.out;omega))
 have HN8:=Lib.hid (ownsRow.kp HN7.out k8 (row_off HN7.out HB7.out))
 have HW8:=Lib.hid hw8
 clear hw8 k8 HR7 HK7 HZ7 HN7 HB7 HRD HROW HB4 HK4 HZ HOP
 go_wp2_with (fail)
 rw [HW8.out]
 clear HW8 c0 c1 c2 fc0 fc1 fc2
 go_loopw [] (fun wr=>RqRel w rb m xb 100001 p.1 q.1 M wr) (fun wr=>lenC wr rb)
 case atStart=>exact ⟨o.2.1.length,o.2,[o.1],aN,cN,HMX.out,Nat.le_refl _,HS3.out,by rw [List.length_singleton];omega,HR8.out,HB8.out,HN8.out,HK8.out,HZ8.out⟩
 case round=>
  clear HR8 HB8 HN8 HK8 HZ8 HMX HS3 hl3
  obtain ⟨f,r',ops,va,vc,hM,hf,hsm,hlen,hrd,hbx,hown,hk,hz⟩:=hrel
  have HMX:=Lib.hid hM
  have HSM:=Lib.hid hsm
  have HRD0:=Lib.hid hrd
  have HBX:=Lib.hid hbx
  have HROW:=Lib.hid hown
  have HK:=Lib.hid hk
  have HZ:=Lib.hid hz
  have hlc:=lenC_eq hrd
  have HLC:=Lib.hid hlc
  obtain ⟨a,c,c0,c1,_,_⟩:=hrd.cells
  clear hM hsm hrd hbx hown hk hz hlc
  by_cases hstop:r'.1=[]∨r'.2=true
  ·have hM2:M=(ops,r'):=by rw [← HMX.out];exact more_stop hstop
   have HM2:=Lib.hid hM2
   clear hM2
   have hb:=HBX.out
   have hz:=HZ.out
   unfold reqZ at hz
   have y0:=hb.cell 0 _ rfl
   have y1:=hb.cell 1 _ rfl
   have y2:=hb.cell 2 _ rfl
   have z0:=hz.cell 0 _ rfl
   have z1:=hz.cell 1 _ rfl
   have z2:=hz.cell 2 _ rfl
   have fz0:=hz.free 0
   have fz1:=hz.free 1
   have fz2:=hz.free 2
   clear hb hz
   by_cases he:r'.1=[]
   ·rw [he,List.length_nil] at c0
    clear hstop
    go_wp2_with (fail)
    go_light
    refine bodyPost_ret (v:=.agg #[.int .i64 p.1, .int .i64 q.1, .slice va ops.length vc]) (by simp [results,Tryz.results186,go_sem,z0,z1,z2]) rfl ?_
    rw [HM2.out]
    have k3:=kp_rq3 wr w.heap.size (.int .i64 p.1) (.int .i64 q.1) (.slice va ops.length vc)
    exact ⟨_,rfl,ownsRow.kp HROW.out k3 (row_off HROW.out HZ.out),HRD0.out.off k3 (by have:=HRB.out;omega) HMM.out,HK.out.next k3 (fun i hi e=>by omega)⟩
   ·have hb1:r'.2=true:=by
     rcases hstop with h|h
     ·exact absurd h he
     ·exact h
    have hn0:0<r'.1.length:=List.length_pos_iff.2 he
    rw [hb1] at c1
    generalize r'.1.length=n at *
    clear hstop hb1 he
    go_wp2_with (fail)
    go_light
    refine bodyPost_ret (v:=.agg #[.int .i64 p.1, .int .i64 q.1, .slice va ops.length vc]) (by simp [results,Tryz.results186,go_sem,z0,z1,z2]) rfl ?_
    rw [HM2.out]
    have k3:=kp_rq3 wr w.heap.size (.int .i64 p.1) (.int .i64 q.1) (.slice va ops.length vc)
    exact ⟨_,rfl,ownsRow.kp HROW.out k3 (row_off HROW.out HZ.out),HRD0.out.off k3 (by have:=HRB.out;omega) HMM.out,HK.out.next k3 (fun i hi e=>by omega)⟩
  ·have he:r'.1≠[]:=fun h=>hstop (.inl h)
   have hb1:r'.2=false:=by
    cases h:r'.2 with
    | false=>rfl
    | true=>exact absurd (.inr h) hstop
   have hn0:0<r'.1.length:=List.length_pos_iff.2 he
   obtain ⟨f,rfl⟩:∃ g,f=g+1:=⟨f - 1,by omega⟩
   have hgo:moreR (f+1) r' ops=moreR f (opR (plusR r')).2 (ops++[(opR (plusR r')).1]):=more_go he hb1
   have hwl:=(word_len r').2 he
   have hsp:=HSM.out.plus
   obtain ⟨o2,ho2⟩:∃ o,opR (plusR r')=o:=⟨_,rfl⟩
   have hol:o2.2.1.length≤(plusR r').1.length:=by rw [← ho2];exact op_len _
   have hpl:(plusR r').1=(wordR r').2.1:=rfl
   rw [hpl] at hol
   rw [ho2] at hgo
   have HGO:=Lib.hid (hgo.symm.trans HMX.out)
   have HS2:Hid (SmR o2.2):=by show SmR _;rw [← ho2];exact hsp.op
   have HOP:Hid (∀ W,RdrAt W rb m (plusR r')→m≤W.heap.size→Calls Tryz.prog 221 #[.pointer (some ⟨rb,0,none⟩)] W fun e w'=>e=.returned o2.1.val∧RdrAt w' rb m o2.2∧Kp (fun i=>i=rb) W w'):=fun W hW hmW=>by
    have:=op_any rb m (plusR r') W hW hsp hmW
    rwa [ho2] at this
   have HWD:=Lib.hid (word_any rb m r' wr HRD0.out)
   have HLEN:Hid (o2.2.1.length+1≤r'.1.length∧o2.2.1.length≤f∧ops.length+1+o2.2.1.length≤100001∧ops.length≤100001):=by
    show _∧_∧_∧_
    omega
   have hpr:plusR r'=((wordR r').2.1,(wordR r').2.2||!decide ((wordR r').1=[43])):=rfl
   obtain ⟨⟨x,r2⟩,hx⟩:∃ X,wordR r'=X:=⟨_,rfl⟩
   rw [hx] at HWD hpr
   rw [hb1] at c1
   have hon:ops.length≤100001:=HLEN.out.2.2.2
   clear hstop hgo hwl hsp ho2 hol hpl hx hb1 he hlen hf HMX HSM
   generalize r'.1.length=n at *
   go_wp2_with (fail)
   refine HWD.out.mono ?_
   rintro e w2 ⟨rfl,h2,k2⟩
   have HB2:=Lib.hid (HBX.out.kp k2 (by have:=HRB.out;have:=HXO.out;omega))
   have HR2:=Lib.hid (ownsRow.kp HROW.out k2 (fun i hi e=>by have:=HRB.out;have:=(own_in HROW.out hi).1;have e2:i=rb:=e;omega))
   have HK2:=Lib.hid (HK.out.next k2 (fun _ _ e=>e))
   have HZ:=Lib.hid (HZ.out.kp k2 (by have:=HRB.out;omega))
   have H2:=Lib.hid h2
   clear h2 k2 HBX HROW HK HWD c0 c1
   by_cases hp:x=[43]
   ·have hq:((bA x).toList == [43])=true:=by rw [bA_beq];exact decide_eq_true hp
    have HRD:Hid (RdrAt w2 rb m (plusR r')):=by
     show RdrAt _ _ _ _
     rw [hpr,decide_eq_true hp,Bool.not_true,Bool.or_false]
     exact H2.out
    clear hpr hp H2
    go_upto_region 7 with (fail)
    clear hq
    have HONE:Hid (∀ y∈OpV.cells o2.1,y.oneCell'=true):=op_one1 o2.1
    have HGE:Hid (∀ i,(Value.slice va ops.length vc).ownBlock=some i→w.heap.size≤i∧i<(w2).heap.size):=fun i hi=>own_in (HR2).out hi
    have HXB:Hid (∀ i,(Value.slice va ops.length vc).ownBlock=some i→i≠xb):=fun i hi e=>by
     obtain ⟨cur,f,hc⟩:=own_type (HR2).out hi
     rw [e] at hc
     have h2:(w2).heap[(xb:Nat)]? = some (.cells _ reqT (0,0)):=(HB2).out
     rw [hc] at h2
     simp only [Option.some.injEq,Obj.cells.injEq] at h2
     exact absurd h2.2.1 (by decide)
    have HXS:Hid (xb<(w2).heap.size):=(HB2).out.lt
    go_upto_region 7 with (fail)
    refine' Av.X.wp_region_dagG (fun i=>(Value.slice va ops.length vc).ownBlock=some i∨i=rb) 7 [(39,[900],[40,41]),(41,[901,40],[])] [900,901] ((36, .val _)::(37, .val _)::(38, .val _)::(39,⟨fun u=>u=.agg #[.int .i64 (o2.1).kind, .string (o2.1).path, .string (o2.1).data, .int .i64 (o2.1).ver, .int .i64 (o2.1).flags],fun _ w'=>RdrAt w' rb m o2.2⟩)::(40,⟨fun _=>True,fun v w'=>BoxL (w2).heap.size opTy 1 (OpV.cells o2.1) v w'⟩)::(41,⟨fun v=>∃ a c,v=.slice a (ops.length+1) c,fun v w'=>w'.ownsRow w.heap.size opTy 5 v (ops.length+1) ((ops).flatMap OpV.cells++OpV.cells o2.1)⟩)::(42, .val _)::(900,⟨fun _=>True,fun _ w'=>RdrAt w' rb m (plusR r')⟩)::(901,⟨fun _=>True,fun _ w'=>w'.ownsRow w.heap.size opTy 5 (.slice va ops.length vc) ops.length ((ops).flatMap OpV.cells)⟩)::[]) (by exact ⟨fun _ _ _ _ _=>trivial,⟨fun _ _ _ _ _=>trivial,⟨fun _ _ _ _ _=>trivial,⟨fun _ _ _ hr hv=>hv.ext hr,⟨fun _ _ _ hr hv=>hv.ext hr,⟨fun _ _ _ hr hv=>ownsRow.ext hv hr,⟨fun _ _ _ _ _=>trivial,⟨fun _ _ _ hr hv=>hv.ext hr,⟨fun _ _ _ hr hv=>ownsRow.ext hv hr,trivial⟩⟩⟩⟩⟩⟩⟩⟩⟩) (by exact ⟨⟨undef,(HRD).out.ext (Kp.refl _ _).drew⟩,⟨⟨undef,ownsRow.ext (HR2).out (Kp.refl _ _).drew⟩,trivial⟩⟩) (by kernel_rfl) (by kernel_rfl) (by kernel_rfl) ?_
    rotate_left 4
    simp only [List.take_succ_cons,List.take_zero]
    repeat (first
     | (refine Av.X.wpD_skipv ?_ ?_ ?_
        focus rfl
        focus rfl
        simp only [Act.put,List.setIfInBounds_toArray,List.set_cons_succ,List.set_cons_zero])
     | (refine' Av.X.wpD_val (c:=_) ?_ (fun w=>Kp.refl _ w) ?_ (fun wq hwq hfz=>?_) ?_
        rotate_left
        focus rfl
        focus rfl
        focus (have hfq:=hfz.at_;have hcq:=hfz.use;(have c2:=((HB2).out.kp hwq (fun f=>by have:=HXS.out;rcases f with f|f|f;(focus omega);(focus exact HXB.out _ f rfl);(have:=HRB.out;have:=HXO.out;omega))).cell 2 _ rfl);go_simp;first|done|rfl)
        simp only [Act.put,List.setIfInBounds_toArray,List.set_cons_succ,List.set_cons_zero])
     | (refine' Av.X.wpD_con (c:=_) ?_ ?_ (fun wq hwq hfz=>?_) ?_
        rotate_left
        focus rfl
        focus rfl
        focus (have hfq:=hfz.at_;have hcq:=hfz.use;(have c2:=((HB2).out.kp hwq (fun f=>by have:=HXS.out;rcases f with f|f|f;(focus omega);(focus exact HXB.out _ f rfl);(have:=HRB.out;have:=HXO.out;omega))).cell 2 _ rfl);go_simp;(try (rw [dUpon_enter]));fail)
        simp only [Act.put,List.setIfInBounds_toArray,List.set_cons_succ,List.set_cons_zero])
     | (refine Av.X.wpD_used (A:=fun u=>u=.agg #[.int .i64 (o2.1).kind, .string (o2.1).path, .string (o2.1).data, .int .i64 (o2.1).ver, .int .i64 (o2.1).flags]) (V:=fun _ w'=>RdrAt w' rb m o2.2) 39 ?_ ?_ ?_ ?_ (fun wq hwq hfz=>?_) (fun v39 h39=>?_)
        focus rfl
        focus rfl
        focus (exact ⟨_,rfl⟩)
        focus rfl
        focus (have hfq:=hfz.at_;have hcq:=hfz.use;(have c2:=((HB2).out.kp hwq (fun f=>by have:=HXS.out;rcases f with f|f|f;(focus omega);(focus exact HXB.out _ f rfl);(have:=HRB.out;have:=HXO.out;omega))).cell 2 _ rfl);go_simp;(try (rw [dUpon_enter]));have hrd:RdrAt wq rb m (plusR r'):=(hcq 900 rfl).elim (fun _ h=>h);(with_reducible refine (HOP.out _ hrd (by have:=hwq.size;have:=(HK2).out.size;have:=HMM.out;omega)).mono ?_);rintro e w' ⟨rfl,hr',hk'⟩;refine ⟨_,rfl,rfl,hr',hk'.mono (fun i _ e=>.inr (.inr e)), ?_⟩;repeat (first|exact PresL.nil|(with_reducible refine PresL.val ?_)|(refine PresL.out rfl ?_)|(refine PresL.keep (fun u hu=>ownsRow.kp hu hk' (fun i hi e=>by have:=HRB.out;have:=(own_in hu hi).1;omega)) ?_)))
        subst h39
        simp only [Act.put,List.setIfInBounds_toArray,List.set_cons_succ,List.set_cons_zero])
     | (refine Av.X.wpD_made (A:=fun _=>True) (V:=fun v w'=>BoxL (w2).heap.size opTy 1 (OpV.cells o2.1) v w') 40 ?_ ?_ ?_ ?_ (fun wq hwq hfz=>?_) (fun v40 h40=>?_)
        focus rfl
        focus rfl
        focus (exact ⟨undef,trivial⟩)
        focus rfl
        focus (have hfq:=hfz.at_;have hcq:=hfz.use;(have c2:=((HB2).out.kp hwq (fun f=>by have:=HXS.out;rcases f with f|f|f;(focus omega);(focus exact HXB.out _ f rfl);(have:=HRB.out;have:=HXO.out;omega))).cell 2 _ rfl);go_simp;(try (rw [dUpon_enter]));rw [dUpon_value];exact mPost trivial (BoxL.new hwq.size) ((Kp.refl _ _).alloc _))
        clear h40
        simp only [Act.put,List.setIfInBounds_toArray,List.set_cons_succ,List.set_cons_zero])
     | (refine Av.X.wpD_used (A:=fun v=>∃ a c,v=.slice a (ops.length+1) c) (V:=fun v w'=>w'.ownsRow w.heap.size opTy 5 v (ops.length+1) ((ops).flatMap OpV.cells++OpV.cells o2.1)) 41 ?_ ?_ ?_ ?_ (fun wq hwq hfz=>?_) (fun v41 h41=>?_)
        focus rfl
        focus rfl
        focus (exact ⟨.slice none (ops.length+1) 0,_,_,rfl⟩)
        focus rfl
        focus (have hfq:=hfz.at_;have hcq:=hfz.use;(have c2:=((HB2).out.kp hwq (fun f=>by have:=HXS.out;rcases f with f|f|f;(focus omega);(focus exact HXB.out _ f rfl);(have:=HRB.out;have:=HXO.out;omega))).cell 2 _ rfl);have hrow:wq.ownsRow w.heap.size opTy 5 (.slice va ops.length vc) ops.length ((ops).flatMap OpV.cells):=(hcq 901 rfl).elim (fun _ h=>h);refine dUpon_app (d:=41) rfl (by kernel_rfl) opsTy opTy 5 (by decide) op_factsT rfl _ _ rfl w.heap.size (.slice va ops.length vc) ops.length _ rfl hrow v40 1 (OpV.cells o2.1) rfl (BoxL.sl (k:=5) (hfq 40 rfl) rfl (by decide)).1 (BoxL.sl (k:=5) (hfq 40 rfl) rfl (by decide)).2 HONE.out (by omega) (by have:=hwq.size;have:=(HK2).out.size;omega) (fun v' w' h1 h2=>⟨owns_slice h1,h1,h2.mono (fun i _ e=>.inr (.inl e)), ?_⟩);repeat (first|exact PresL.nil|(with_reducible refine PresL.val ?_)|(refine PresL.out rfl ?_)|(refine PresL.keep (fun u hu=>RdrAt.kpS hu h2 (fun e=>by have:=HRB.out;have:=(HGE.out _ e).1;omega) (fun i hi e=>by have:=(HGE.out _ e).1;have:=HMM.out;omega)) ?_)))
        obtain ⟨aN,cN,rfl⟩:=h41
        simp only [Act.put,List.setIfInBounds_toArray,List.set_cons_succ,List.set_cons_zero])
     | fail)
    refine Av.X.wpD_nil ?_
    intro w7 hr7 hend
    have hN:w7.ownsRow w.heap.size opTy 5 (.slice aN (ops.length+1) cN) (ops.length+1) ((ops).flatMap OpV.cells++OpV.cells o2.1):=hend 41 (by kernel_rfl)
    have hR:RdrAt w7 rb m o2.2:=hend 39 (by kernel_rfl)
    have hB7:=(HB2).out.kp hr7 (fun f=>by
     have:=HXS.out
     rcases f with f|f|f
     ·omega
     ·exact HXB.out _ f rfl
     ·have:=HRB.out
      have:=HXO.out
      omega)
    have HK7:=Lib.hid ((HK2).out.next hr7 (fun i hi f=>by
     rcases f with f|f|f
     ·have:=(HK2).out.size
      omega
     ·have:=(HGE.out _ f).1
      omega
     ·exact f))
    have HZ7:=Lib.hid (HZ.out.kp hr7 (fun f=>by
     have:=HZ.out.lt
     rcases f with f|f|f
     ·omega
     ·obtain ⟨cur,f2,hc⟩:=own_type (HR2).out f
      have h2:(w2).heap[(w.heap.size:Nat)]? = some (.cells _ reqT (0,0)):=HZ.out
      rw [hc] at h2
      simp only [Option.some.injEq,Obj.cells.injEq] at h2
      exact absurd h2.2.1 (by decide)
     ·have:=HRB.out
      omega))
    have HN7:=Lib.hid hN
    have HR7:=Lib.hid hR
    have HB7:=Lib.hid hB7
    clear hend hN hR hr7 HONE HGE HXB HXS
    have c0:=hB7.cell 0 _ rfl
    have c1:=hB7.cell 1 _ rfl
    have c2:=hB7.cell 2 _ rfl
    have fc0:=hB7.free 0
    have fc1:=hB7.free 1
    have fc2:=hB7.free 2
    clear hB7
    obtain ⟨w8,hw8⟩:∃ W,w7.setCell ⟨xb,2,none⟩ (.slice aN (ops.length+1) cN)=W:=⟨_,rfl⟩
    have k8:Kp (fun i=>i=xb) w7 w8:=by rw [← hw8];exact (Kp.refl (fun i=>i=xb) w7).set1 xb 2 _ rfl
    have HB8:Hid (Blk w8 xb #[.int .i64 p.1, .int .i64 q.1, .slice aN (ops.length+1) cN] reqT):=by show Blk _ _ _ _;rw [← hw8];exact HB7.out.set 2 _
    have HR8:=Lib.hid (HR7.out.off k8 (by have:=HRB.out;have:=HXO.out;omega) (by have:=HMM.out;have:=HXO.out;omega))
    have HK8:=Lib.hid (HK7.out.next k8 (fun i hi e=>by have:=HXO.out;omega))
    have HZ8:=Lib.hid (HZ7.out.kp k8 (by have:=HXO.out;omega))
    have HN8:=Lib.hid (ownsRow.kp HN7.out k8 (row_off HN7.out HB7.out))
    have HW8:=Lib.hid hw8
    clear hw8 k8 HR7 HK7 HZ7 HN7 HB7 HRD HR2 HB2 HK2 HZ HOP
    go_wp2_with (fail)
    rw [HW8.out]
    clear HW8 c0 c1 c2 fc0 fc1 fc2
    go_light
    refine ⟨⟨f,o2.2,ops++[o2.1],aN,cN,HGO.out,HLEN.out.2.1,HS2.out, ?_,HR8.out, ?_, ?_,HK8.out,HZ8.out⟩, ?_⟩
    ·rw [List.length_append,List.length_singleton];exact HLEN.out.2.2.1
    ·rw [List.length_append,List.length_singleton];exact HB8.out
    ·rw [List.length_append,List.length_singleton,List.flatMap_append,List.flatMap_cons,List.flatMap_nil,List.append_nil];exact HN8.out
    ·rw [HLC.out,lenC_eq HR8.out];exact HLEN.out.1
   ·have hq:((bA x).toList == [43])=false:=by rw [bA_beq];exact decide_eq_false hp
    obtain ⟨a0,d0,cc0,cc1,cf1,_⟩:=H2.out.cells
    obtain ⟨w3,hw3⟩:∃ W,w2.setCell ⟨rb,1,none⟩ (.bool true)=W:=⟨_,rfl⟩
    have k3:Kp (fun i=>i=rb) w2 w3:=by rw [← hw3];exact (Kp.refl (fun i=>i=rb) w2).set1 rb 1 _ rfl
    have HRD:Hid (RdrAt w3 rb m (plusR r')):=by
     show RdrAt _ _ _ _
     rw [hpr,decide_eq_false hp,Bool.not_false,Bool.or_true,← hw3]
     exact H2.out.flag true
    have HB3:=Lib.hid (HB2.out.kp k3 (by have:=HRB.out;have:=HXO.out;omega))
    have HR3:=Lib.hid (ownsRow.kp HR2.out k3 (fun i hi e=>by have:=HRB.out;have:=(own_in HR2.out hi).1;have e2:i=rb:=e;omega))
    have HK3:=Lib.hid (HK2.out.next k3 (fun _ _ e=>e))
    have HZ:=Lib.hid (HZ.out.kp k3 (by have:=HRB.out;omega))
    have HW3:=Lib.hid hw3
    clear hpr hp H2 hw3 k3 HB2 HR2 HK2
    go_upto_region 7 with (fail)
    rw [HW3.out]
    clear hq cc0 cc1 cf1 HW3
    have HONE:Hid (∀ y∈OpV.cells o2.1,y.oneCell'=true):=op_one1 o2.1
    have HGE:Hid (∀ i,(Value.slice va ops.length vc).ownBlock=some i→w.heap.size≤i∧i<(w3).heap.size):=fun i hi=>own_in (HR3).out hi
    have HXB:Hid (∀ i,(Value.slice va ops.length vc).ownBlock=some i→i≠xb):=fun i hi e=>by
     obtain ⟨cur,f,hc⟩:=own_type (HR3).out hi
     rw [e] at hc
     have h2:(w3).heap[(xb:Nat)]? = some (.cells _ reqT (0,0)):=(HB3).out
     rw [hc] at h2
     simp only [Option.some.injEq,Obj.cells.injEq] at h2
     exact absurd h2.2.1 (by decide)
    have HXS:Hid (xb<(w3).heap.size):=(HB3).out.lt
    go_upto_region 7 with (fail)
    refine' Av.X.wp_region_dagG (fun i=>(Value.slice va ops.length vc).ownBlock=some i∨i=rb) 7 [(39,[900],[40,41]),(41,[901,40],[])] [900,901] ((36, .val _)::(37, .val _)::(38, .val _)::(39,⟨fun u=>u=.agg #[.int .i64 (o2.1).kind, .string (o2.1).path, .string (o2.1).data, .int .i64 (o2.1).ver, .int .i64 (o2.1).flags],fun _ w'=>RdrAt w' rb m o2.2⟩)::(40,⟨fun _=>True,fun v w'=>BoxL (w3).heap.size opTy 1 (OpV.cells o2.1) v w'⟩)::(41,⟨fun v=>∃ a c,v=.slice a (ops.length+1) c,fun v w'=>w'.ownsRow w.heap.size opTy 5 v (ops.length+1) ((ops).flatMap OpV.cells++OpV.cells o2.1)⟩)::(42, .val _)::(900,⟨fun _=>True,fun _ w'=>RdrAt w' rb m (plusR r')⟩)::(901,⟨fun _=>True,fun _ w'=>w'.ownsRow w.heap.size opTy 5 (.slice va ops.length vc) ops.length ((ops).flatMap OpV.cells)⟩)::[]) (by exact ⟨fun _ _ _ _ _=>trivial,⟨fun _ _ _ _ _=>trivial,⟨fun _ _ _ _ _=>trivial,⟨fun _ _ _ hr hv=>hv.ext hr,⟨fun _ _ _ hr hv=>hv.ext hr,⟨fun _ _ _ hr hv=>ownsRow.ext hv hr,⟨fun _ _ _ _ _=>trivial,⟨fun _ _ _ hr hv=>hv.ext hr,⟨fun _ _ _ hr hv=>ownsRow.ext hv hr,trivial⟩⟩⟩⟩⟩⟩⟩⟩⟩) (by exact ⟨⟨undef,(HRD).out.ext (Kp.refl _ _).drew⟩,⟨⟨undef,ownsRow.ext (HR3).out (Kp.refl _ _).drew⟩,trivial⟩⟩) (by kernel_rfl) (by kernel_rfl) (by kernel_rfl) ?_
    rotate_left 4
    simp only [List.take_succ_cons,List.take_zero]
    repeat (first
     | (refine Av.X.wpD_skipv ?_ ?_ ?_
        focus rfl
        focus rfl
        simp only [Act.put,List.setIfInBounds_toArray,List.set_cons_succ,List.set_cons_zero])
     | (refine' Av.X.wpD_val (c:=_) ?_ (fun w=>Kp.refl _ w) ?_ (fun wq hwq hfz=>?_) ?_
        rotate_left
        focus rfl
        focus rfl
        focus (have hfq:=hfz.at_;have hcq:=hfz.use;(have c2:=((HB3).out.kp hwq (fun f=>by have:=HXS.out;rcases f with f|f|f;(focus omega);(focus exact HXB.out _ f rfl);(have:=HRB.out;have:=HXO.out;omega))).cell 2 _ rfl);go_simp;first|done|rfl)
        simp only [Act.put,List.setIfInBounds_toArray,List.set_cons_succ,List.set_cons_zero])
     | (refine' Av.X.wpD_con (c:=_) ?_ ?_ (fun wq hwq hfz=>?_) ?_
        rotate_left
        focus rfl
        focus rfl
        focus (have hfq:=hfz.at_;have hcq:=hfz.use;(have c2:=((HB3).out.kp hwq (fun f=>by have:=HXS.out;rcases f with f|f|f;(focus omega);(focus exact HXB.out _ f rfl);(have:=HRB.out;have:=HXO.out;omega))).cell 2 _ rfl);go_simp;(try (rw [dUpon_enter]));fail)
        simp only [Act.put,List.setIfInBounds_toArray,List.set_cons_succ,List.set_cons_zero])
     | (refine Av.X.wpD_used (A:=fun u=>u=.agg #[.int .i64 (o2.1).kind, .string (o2.1).path, .string (o2.1).data, .int .i64 (o2.1).ver, .int .i64 (o2.1).flags]) (V:=fun _ w'=>RdrAt w' rb m o2.2) 39 ?_ ?_ ?_ ?_ (fun wq hwq hfz=>?_) (fun v39 h39=>?_)
        focus rfl
        focus rfl
        focus (exact ⟨_,rfl⟩)
        focus rfl
        focus (have hfq:=hfz.at_;have hcq:=hfz.use;(have c2:=((HB3).out.kp hwq (fun f=>by have:=HXS.out;rcases f with f|f|f;(focus omega);(focus exact HXB.out _ f rfl);(have:=HRB.out;have:=HXO.out;omega))).cell 2 _ rfl);go_simp;(try (rw [dUpon_enter]));have hrd:RdrAt wq rb m (plusR r'):=(hcq 900 rfl).elim (fun _ h=>h);(with_reducible refine (HOP.out _ hrd (by have:=hwq.size;have:=(HK3).out.size;have:=HMM.out;omega)).mono ?_);rintro e w' ⟨rfl,hr',hk'⟩;refine ⟨_,rfl,rfl,hr',hk'.mono (fun i _ e=>.inr (.inr e)), ?_⟩;repeat (first|exact PresL.nil|(with_reducible refine PresL.val ?_)|(refine PresL.out rfl ?_)|(refine PresL.keep (fun u hu=>ownsRow.kp hu hk' (fun i hi e=>by have:=HRB.out;have:=(own_in hu hi).1;omega)) ?_)))
        subst h39
        simp only [Act.put,List.setIfInBounds_toArray,List.set_cons_succ,List.set_cons_zero])
     | (refine Av.X.wpD_made (A:=fun _=>True) (V:=fun v w'=>BoxL (w3).heap.size opTy 1 (OpV.cells o2.1) v w') 40 ?_ ?_ ?_ ?_ (fun wq hwq hfz=>?_) (fun v40 h40=>?_)
        focus rfl
        focus rfl
        focus (exact ⟨undef,trivial⟩)
        focus rfl
        focus (have hfq:=hfz.at_;have hcq:=hfz.use;(have c2:=((HB3).out.kp hwq (fun f=>by have:=HXS.out;rcases f with f|f|f;(focus omega);(focus exact HXB.out _ f rfl);(have:=HRB.out;have:=HXO.out;omega))).cell 2 _ rfl);go_simp;(try (rw [dUpon_enter]));rw [dUpon_value];exact mPost trivial (BoxL.new hwq.size) ((Kp.refl _ _).alloc _))
        clear h40
        simp only [Act.put,List.setIfInBounds_toArray,List.set_cons_succ,List.set_cons_zero])
     | (refine Av.X.wpD_used (A:=fun v=>∃ a c,v=.slice a (ops.length+1) c) (V:=fun v w'=>w'.ownsRow w.heap.size opTy 5 v (ops.length+1) ((ops).flatMap OpV.cells++OpV.cells o2.1)) 41 ?_ ?_ ?_ ?_ (fun wq hwq hfz=>?_) (fun v41 h41=>?_)
        focus rfl
        focus rfl
        focus (exact ⟨.slice none (ops.length+1) 0,_,_,rfl⟩)
        focus rfl
        focus (have hfq:=hfz.at_;have hcq:=hfz.use;(have c2:=((HB3).out.kp hwq (fun f=>by have:=HXS.out;rcases f with f|f|f;(focus omega);(focus exact HXB.out _ f rfl);(have:=HRB.out;have:=HXO.out;omega))).cell 2 _ rfl);have hrow:wq.ownsRow w.heap.size opTy 5 (.slice va ops.length vc) ops.length ((ops).flatMap OpV.cells):=(hcq 901 rfl).elim (fun _ h=>h);refine dUpon_app (d:=41) rfl (by kernel_rfl) opsTy opTy 5 (by decide) op_factsT rfl _ _ rfl w.heap.size (.slice va ops.length vc) ops.length _ rfl hrow v40 1 (OpV.cells o2.1) rfl (BoxL.sl (k:=5) (hfq 40 rfl) rfl (by decide)).1 (BoxL.sl (k:=5) (hfq 40 rfl) rfl (by decide)).2 HONE.out (by omega) (by have:=hwq.size;have:=(HK3).out.size;omega) (fun v' w' h1 h2=>⟨owns_slice h1,h1,h2.mono (fun i _ e=>.inr (.inl e)), ?_⟩);repeat (first|exact PresL.nil|(with_reducible refine PresL.val ?_)|(refine PresL.out rfl ?_)|(refine PresL.keep (fun u hu=>RdrAt.kpS hu h2 (fun e=>by have:=HRB.out;have:=(HGE.out _ e).1;omega) (fun i hi e=>by have:=(HGE.out _ e).1;have:=HMM.out;omega)) ?_)))
        obtain ⟨aN,cN,rfl⟩:=h41
        simp only [Act.put,List.setIfInBounds_toArray,List.set_cons_succ,List.set_cons_zero])
     | fail)
    refine Av.X.wpD_nil ?_
    intro w7 hr7 hend
    have hN:w7.ownsRow w.heap.size opTy 5 (.slice aN (ops.length+1) cN) (ops.length+1) ((ops).flatMap OpV.cells++OpV.cells o2.1):=hend 41 (by kernel_rfl)
    have hR:RdrAt w7 rb m o2.2:=hend 39 (by kernel_rfl)
    have hB7:=(HB3).out.kp hr7 (fun f=>by
     have:=HXS.out
     rcases f with f|f|f
     ·omega
     ·exact HXB.out _ f rfl
     ·have:=HRB.out
      have:=HXO.out
      omega)
    have HK7:=Lib.hid ((HK3).out.next hr7 (fun i hi f=>by
     rcases f with f|f|f
     ·have:=(HK3).out.size
      omega
     ·have:=(HGE.out _ f).1
      omega
     ·exact f))
    have HZ7:=Lib.hid (HZ.out.kp hr7 (fun f=>by
     have:=HZ.out.lt
     rcases f with f|f|f
     ·omega
     ·obtain ⟨cur,f2,hc⟩:=own_type (HR3).out f
      have h2:(w3).heap[(w.heap.size:Nat)]? = some (.cells _ reqT (0,0)):=HZ.out
      rw [hc] at h2
      simp only [Option.some.injEq,Obj.cells.injEq] at h2
      exact absurd h2.2.1 (by decide)
     ·have:=HRB.out
      omega))
    have HN7:=Lib.hid hN
    have HR7:=Lib.hid hR
    have HB7:=Lib.hid hB7
    clear hend hN hR hr7 HONE HGE HXB HXS
    have c0:=hB7.cell 0 _ rfl
    have c1:=hB7.cell 1 _ rfl
    have c2:=hB7.cell 2 _ rfl
    have fc0:=hB7.free 0
    have fc1:=hB7.free 1
    have fc2:=hB7.free 2
    clear hB7
    obtain ⟨w8,hw8⟩:∃ W,w7.setCell ⟨xb,2,none⟩ (.slice aN (ops.length+1) cN)=W:=⟨_,rfl⟩
    have k8:Kp (fun i=>i=xb) w7 w8:=by rw [← hw8];exact (Kp.refl (fun i=>i=xb) w7).set1 xb 2 _ rfl
    have HB8:Hid (Blk w8 xb #[.int .i64 p.1, .int .i64 q.1, .slice aN (ops.length+1) cN] reqT):=by show Blk _ _ _ _;rw [← hw8];exact HB7.out.set 2 _
    have HR8:=Lib.hid (HR7.out.off k8 (by have:=HRB.out;have:=HXO.out;omega) (by have:=HMM.out;have:=HXO.out;omega))
    have HK8:=Lib.hid (HK7.out.next k8 (fun i hi e=>by have:=HXO.out;omega))
    have HZ8:=Lib.hid (HZ7.out.kp k8 (by have:=HXO.out;omega))
    have HN8:=Lib.hid (ownsRow.kp HN7.out k8 (row_off HN7.out HB7.out))
    have HW8:=Lib.hid hw8
    clear hw8 k8 HR7 HK7 HZ7 HN7 HB7 HRD HR3 HB3 HK3 HZ HOP
    go_wp2_with (fail)
    rw [HW8.out]
    clear HW8 c0 c1 c2 fc0 fc1 fc2
    go_light
    refine ⟨⟨f,o2.2,ops++[o2.1],aN,cN,HGO.out,HLEN.out.2.1,HS2.out, ?_,HR8.out, ?_, ?_,HK8.out,HZ8.out⟩, ?_⟩
    ·rw [List.length_append,List.length_singleton];exact HLEN.out.2.2.1
    ·rw [List.length_append,List.length_singleton];exact HB8.out
    ·rw [List.length_append,List.length_singleton,List.flatMap_append,List.flatMap_cons,List.flatMap_nil,List.append_nil];exact HN8.out
    ·rw [HLC.out,lenC_eq HR8.out];exact HLEN.out.1
end Go.Proofs.YtnlefnhdhigecaaGreatDoor
