/- Texts put together: AvSesH, AvSesI, AvGrow, AvWWat. -/
import Derived.Test.YtnlefnhdhigecaaGreatDoorAvG20
import Derived.Test.YtnlefnhdhigecaaGreatDoorAvG3
import Derived.Sort.Grow
import Derived.Test.YtnlefnhdhigecaaGreatDoorAvS
import Derived.Test.YtnlefnhdhigecaaGreatDoorAvG12
import Derived.Test.YtnlefnhdhigecaaGreatDoorAvG1
import Derived.Handy
namespace Go.Proofs.YtnlefnhdhigecaaGreatDoor
set_option maxRecDepth 100000
open Go.RowKit Av
theorem del_mid (l:List SeV) (k:Nat) (hk:k<l.length):((l.flatMap scell).take (k*3)++(l.drop (k+1)).flatMap scell++(l.flatMap scell).drop (k*3+((l.drop (k+1)).flatMap scell).length)).take ((l.length - 1)*3)=(l.take k++l.drop (k+1)).flatMap scell:=by
 have h1:((l.drop (k+1)).flatMap scell).length=(l.length - (k+1))*3:=by rw [flat_len scell 3 (fun _=>rfl),List.length_drop]
 have h2:((l.flatMap scell).take (k*3)).length=k*3:=by rw [List.length_take,flat_len scell 3 (fun _=>rfl)];omega
 rw [List.take_append_of_le_length (by rw [List.length_append,h1,h2];omega),List.take_of_length_le (by rw [List.length_append,h1,h2];omega),flat_take scell 3 (fun _=>rfl),List.flatMap_append]
theorem cut_some (r c j:Nat) (l:List SeV) (w:World) (hrow:RowB w r seT 3 c (l.flatMap scell)) (hj:j≤l.length) (hc:l.length≤c):∃ ad,(if c=j then some (⟨r,0,none⟩:Addr) else some ⟨r,j*3,none⟩)=some ad∧∀ i q,((l.drop j).flatMap scell)[i]? = some q→w.cell? (ad.add i)=some q:=by
 by_cases e:c=j
 ·refine ⟨⟨r,0,none⟩,by rw [if_pos e],fun i q hq=>?_⟩
  rw [List.drop_of_length_le (by omega)] at hq
  simp at hq
 ·refine ⟨⟨r,j*3,none⟩,by rw [if_neg e],fun i q hq=>?_⟩
  have hd:(l.flatMap scell)[j*3+i]? = some q:=by
   rw [← hq,← List.getElem?_drop]
   congr 1
   have:l.flatMap scell=(l.take j).flatMap scell++(l.drop j).flatMap scell:=by rw [← List.flatMap_append,List.take_append_drop]
   rw [this]
   have h2:((l.take j).flatMap scell).length=j*3:=by rw [flat_len scell 3 (fun _=>rfl),List.length_take];omega
   rw [List.drop_append_of_le_length (by omega),List.drop_of_length_le (by omega),List.nil_append]
  have h3:=hrow.cell hd
  rw [Addr.add_lit]
  exact h3
set_option maxHeartbeats 3200000 in
theorem sesDelete_any (r c:Nat) (l:List SeV) (k m:Nat) (w:World) (hk:k<l.length) (hm:m+1=l.length) (hrow:RowB w r seT 3 c (l.flatMap scell)) (hnc:l.length≤c) (hcm:c≤maxLen) (hl:l.length≤100000) :
  Calls Tryz.prog 138 #[.slice (some ⟨r,0,none⟩) l.length c, .int .i64 k, .int .i64 (k+1:Nat)] w fun e w'=>e=.returned (.slice (some ⟨r,0,none⟩) m c)∧w'.ownsRow 0 seT 3 (.slice (some ⟨r,0,none⟩) m c) m ((l.take k++l.drop (k+1)).flatMap scell)∧Kp (fun i=>i=r) w w':=by
 obtain ⟨j,hj⟩:∃ j,k+1=j:=⟨_,rfl⟩
 rw [hj]
 have HMID:=Lib.hid (del_mid l k hk)
 have HONE:=Lib.hid (scell_one (l.drop j))
 have HCUT:=Lib.hid (fun w1 (h1:RowB w1 r seT 3 c (l.flatMap scell))=>cut_some r c j l w1 h1 (by omega) hnc)
 have HLD:Hid (((l.drop j).flatMap scell).length=(l.length - j)*3):=by show _=_;rw [flat_len scell 3 (fun _=>rfl),List.length_drop]
 have HLX:Hid ((l.flatMap scell).length=l.length*3):=flat_len scell 3 (fun _=>rfl) l
 have HKM:Hid (k+(l.length - j)=m):=by show _=_;omega
 have HML:Hid (l.length - 1=m):=by show _=_;omega
 have HROW:=Lib.hid hrow
 have hP1:(0:Int)≤(k:Int)∧(k:Int)≤(j:Int)∧(j:Int)≤(l.length:Int)∧(l.length:Int)≤(c:Int):=by omega
 obtain ⟨q1,q2,q3,q4⟩:=hP1
 have hne:((k:Int) == (j:Int))=false:=beq_eq_false_iff_ne.2 (by omega)
 have HP1:Hid ((0:Int)≤k∧(k:Int)≤c):=⟨by omega,by omega⟩
 have HP2:Hid ((0:Int)≤(l.length:Int)∧(l.length:Int)≤c):=⟨by omega,by omega⟩
 have HP5:Hid ((0:Int)≤j∧(j:Int)≤(l.length:Int)):=⟨by omega,by omega⟩
 unfold maxLen at hcm
 rw [hj] at HMID
 clear hrow hj
 go_enter Tryz.func138,Tryz.ntmps138
 go_upto_region 5 with (fail)
 refine' Av.X.wp_region_dagG (fun i=>i=r) 7 [(26,[900],[])] [900] ((20, .val _)::(21, .val _)::(22, .val _)::(23, .val _)::(24, .val _)::(25, .val _)::(26,⟨fun v=>v=.slice (some ⟨r,0,none⟩) m c,fun _ w'=>RowB w' r seT 3 c ((l.flatMap scell).take (k*3)++(l.drop j).flatMap scell++(l.flatMap scell).drop (k*3+((l.drop j).flatMap scell).length))⟩)::(900,⟨fun _=>True,fun _ w'=>RowB w' r seT 3 c (l.flatMap scell)⟩)::[]) (by exact ⟨fun _ _ _ _ _=>trivial,⟨fun _ _ _ _ _=>trivial,⟨fun _ _ _ _ _=>trivial,⟨fun _ _ _ _ _=>trivial,⟨fun _ _ _ _ _=>trivial,⟨fun _ _ _ _ _=>trivial,⟨fun _ _ _ hr hv=>RowB.kp hv hr (fun f=>f),⟨fun _ _ _ hr hv=>RowB.kp hv hr (fun f=>f),trivial⟩⟩⟩⟩⟩⟩⟩⟩) (by exact ⟨⟨undef,RowB.kp HROW.out (Kp.refl (fun _=>False) _).drew (fun f=>f)⟩,trivial⟩) (by kernel_rfl) (by kernel_rfl) (by kernel_rfl) ?_
 rotate_left 6
 simp only [List.take_succ_cons,List.take_zero]
 repeat (first
  | (refine Av.X.wpD_skipv ?_ ?_ ?_
     focus rfl
     focus rfl
     simp only [Act.put,List.setIfInBounds_toArray,List.set_cons_succ,List.set_cons_zero])
  | (refine' Av.X.wpD_val (c:=_) ?_ (fun w=>Kp.refl _ w) ?_ (fun wq hwq hfz=>?_) ?_
     rotate_left
     focus rfl
     focus rfl
     focus (have hfq:=hfz.at_;have hcq:=hfz.use;(have p1:=HP1.out;have p2:=HP2.out;have p5:=HP5.out);go_simp;first|done|rfl)
     simp only [Act.put,List.setIfInBounds_toArray,List.set_cons_succ,List.set_cons_zero])
  | (refine' Av.X.wpD_con (c:=_) ?_ ?_ (fun wq hwq hfz=>?_) ?_
     rotate_left
     focus rfl
     focus rfl
     focus (have hfq:=hfz.at_;have hcq:=hfz.use;(have p1:=HP1.out;have p2:=HP2.out;have p5:=HP5.out);go_simp;(try (rw [dUpon_enter]));fail)
     simp only [Act.put,List.setIfInBounds_toArray,List.set_cons_succ,List.set_cons_zero])
  | (refine Av.X.wpD_used (A:=fun v=>v=.slice (some ⟨r,0,none⟩) m c) (V:=fun _ w'=>RowB w' r seT 3 c ((l.flatMap scell).take (k*3)++(l.drop j).flatMap scell++(l.flatMap scell).drop (k*3+((l.drop j).flatMap scell).length))) 26 ?_ ?_ ?_ ?_ (fun wq hwq hfz=>?_) (fun v26 h26=>?_)
     focus rfl
     focus rfl
     focus (exact ⟨_,rfl⟩)
     focus rfl
     focus (have hfq:=hfz.at_;have hcq:=hfz.use;(have p1:=HP1.out;have p2:=HP2.out;have p5:=HP5.out);have h900:RowB wq r seT 3 c (l.flatMap scell):=(hcq 900 rfl).elim (fun _ h=>h);refine dUpon_room (d:=26) rfl (by kernel_rfl) sesT seT 3 se_facts rfl _ _ rfl r k c (l.flatMap scell) h900 rfl _ (l.length - j) _ ((l.drop j).flatMap scell) rfl (HCUT.out _ h900) HLD.out HONE.out (by omega) (by rw [HLD.out,HLX.out];omega) (fun w' h1 h2=>⟨by rw [HKM.out],h1,h2.mono (fun i _ e=>.inr e), ?_⟩);repeat (first|exact PresL.nil|(with_reducible refine PresL.val ?_)|(refine PresL.out rfl ?_)))
     subst h26
     simp only [Act.put,List.setIfInBounds_toArray,List.set_cons_succ,List.set_cons_zero])
  | fail)
 refine Av.X.wpD_nil ?_
 intro w2 hx2 hend
 generalize (if c=j then some (⟨r,0,none⟩:Addr) else some ⟨r,j*3,none⟩)=A25
 have h26:RowB w2 r seT 3 c ((l.flatMap scell).take (k*3)++(l.drop j).flatMap scell++(l.flatMap scell).drop (k*3+((l.drop j).flatMap scell).length)):=hend 26 (by kernel_rfl)
 clear hend
 have hk2:Kp (fun i=>i=r) w w2:=hx2.mono (fun i hi e=>by
  rcases e with e|e
  ·omega
  ·exact e)
 have HK2:=Lib.hid hk2
 have H26:=Lib.hid h26
 have hlen:((l.flatMap scell).take (k*3)++(l.drop j).flatMap scell++(l.flatMap scell).drop (k*3+((l.drop j).flatMap scell).length)).length=l.length*3:=by
  simp only [List.length_append,List.length_take,List.length_drop,HLX.out,HLD.out];omega
 generalize ((l.flatMap scell).take (k*3)++(l.drop j).flatMap scell++(l.flatMap scell).drop (k*3+((l.drop j).flatMap scell).length))=X at *
 obtain ⟨vs,hvl,hclr⟩:=run_clear_rows (P:=Tryz.prog) w2 199 206 _ 3 rfl (by decide) Tryz.underlying199 Tryz.zeroValue206 (by intro v hv;simp [Value.cells] at hv;rcases hv with rfl|rfl|rfl<;>rfl) r (m*3) (l.length - m) (c - m) (by omega)
  (fun q hq=>by
    have:m*3+q<X.length:=by rw [hlen];omega
    rw [h26.cell (List.getElem?_eq_getElem this)];rfl)
  (fun q _=>h26.free _)
 have hm1:(0:Int)≤(m:Int)∧(m:Int)≤(l.length:Int):=by omega
 obtain ⟨m1,m2⟩:=hm1
 have HLEN:=Lib.hid hlen
 clear h26 hx2 hk2 hlen
 go_wp2_with (fail)
 go_ret
 have hrow:=RowB.setCells vs (m*3) H26.out
 have ho:=hrow.owns (m:=m) (base:=0) (by rw [setMs_len,HLEN.out];omega) (by omega) (by unfold maxLen;omega) (Nat.zero_le _)
 rw [setMs_take _ _ _ _ (Nat.le_refl _)] at ho
 have h5:=HMID.out
 rw [HML.out] at h5
 rw [h5] at ho
 exact ⟨rfl,ho,HK2.out.trans (kp_setCells vs w2 (m*3))⟩
set_option maxHeartbeats 3200000 in
theorem sesClose_any (b:Nat) (ro:Option Nat) (s:SsV) (id:Int) (w:World) (h:SesR w b ro s) (hn:s.l.length≤100000) :
  Calls Tryz.prog 96 #[.pointer (some ⟨b,0,none⟩), .int .i64 id] w fun e w'=>SesPost w b ro (closeS s id).1 (.int .i64 (closeS s id).2) e w':=by
 have HF:=Lib.hid (sesFind_any b ro s id w h hn)
 have HH:=Lib.hid h
 cases hf:findS s.l id with
 | none=>
   rw [idxF_none hf] at HF
   have HE:Hid (closeS s id=(s,11)):=by show _=_;unfold closeS;rw [hf]
   clear h hf
   go_enter Tryz.func96,Tryz.ntmps96
   go_wp2_with (fail)
   refine HF.out.mono ?_
   rintro e w1 ⟨rfl,hx1⟩
   have HX1:=Lib.hid hx1
   clear hx1
   go_wp2_with (fail)
   go_ret
   rw [HE.out]
   exact SesPost.no HH.out HX1.out
 | some k=>
   rw [idxF_some hf] at HF
   obtain ⟨hk,hid⟩:=findS_lt hf
   have HE:Hid (closeS s id=(⟨s.room,s.now,s.next,s.l.take k++s.l.drop (k+1)⟩,0)):=by show _=_;unfold closeS;rw [hf]
   obtain ⟨a,c,hb,hown,hro,hrb,had⟩:=h.open
   obtain ⟨ad,rfl⟩:∃ ad,a=some ad:=by
    cases a with
    | some ad=>exact ⟨ad,rfl⟩
    | none=>
      obtain ⟨_,h2|⟨g,c,cur,hv,_⟩⟩:=hown
      ·omega
      ·simp at hv
   obtain ⟨r,rfl,hrow,_,hnc,hcm,_⟩:=RowB.of_owns hown
   have hr0:=had _ rfl
   simp only at hr0
   subst hr0
   obtain ⟨m,hm⟩:∃ m,m+1=s.l.length:=⟨s.l.length - 1,by omega⟩
   have HD:=Lib.hid (fun W (hW:RowB W r seT 3 c (s.l.flatMap scell))=>sesDelete_any r c s.l k m W hk hm hW hnc hcm hn)
   have HROW:=Lib.hid hrow
   have HB:=Lib.hid hb
   have HRB:=Lib.hid hrb
   have HML:Hid ((s.l.take k++s.l.drop (k+1)).length=m):=by show _=_;rw [List.length_append,List.length_take,List.length_drop];omega
   have hI3:¬ (k:Int)<0:=by omega
   have hW1:IntKind.i64.wrap ((k:Int)+1)=((k+1:Nat):Int):=by rw [IntWalk.i64_in _ (by omega)];omega
   have hW2:wrap64 ((k:Int)+1)=((k+1:Nat):Int):=by unfold wrap64;omega
   clear h hf hb hown hrow hid hm hnc hcm
   go_enter Tryz.func96,Tryz.ntmps96
   go_wp2_with (fail)
   refine HF.out.mono ?_
   rintro e w1 ⟨rfl,hx1⟩
   have HX1:=Lib.hid hx1
   have hb1:=HB.out.kp hx1 (fun f=>f)
   have c3:=hb1.cell 3 _ rfl
   have HB1:=Lib.hid hb1
   have HR1:=Lib.hid (HROW.out.kp hx1 (fun f=>f))
   clear hx1 hb1
   go_wp2_with (fail)
   refine (HD.out _ HR1.out).mono ?_
   rintro e w2 ⟨rfl,ho2,hk2⟩
   have hb2:=HB1.out.kp hk2 (fun (e:b=r)=>HRB.out r rfl e.symm)
   have c3:=hb2.cell 3 _ rfl
   have f3:=hb2.free 3
   have HB2:=Lib.hid hb2
   have HO2:=Lib.hid ho2
   have HK2:=Lib.hid hk2
   clear hb2 ho2 hk2
   go_wp2_with (fail)
   go_ret
   rw [HE.out]
   have hst:Kp (fun i=>i=b) w2 (w2.setCell ⟨b,3,none⟩ (.slice (some ⟨r,0,none⟩) m c)):=Kp.set1 (S:=fun i=>i=b) (Kp.refl _ _) b 3 _ rfl
   refine ⟨rfl,⟨some r,SesR.mk (v:=.slice (some ⟨r,0,none⟩) m c) (HB2.out.set 3 _) ?_ rfl HRB.out,fun i hi=>.inl hi⟩,((Ext.kp HX1.out).next HK2.out (fun i _ (e:i=r)=>.inr (by rw [e]))).set1 b 3 _ (.inl rfl)⟩
   show World.ownsRow _ 0 seT 3 _ (s.l.take k++s.l.drop (k+1)).length _
   rw [HML.out]
   exact ownsRow.kp HO2.out hst (fun i hi e=>HRB.out i hi e)
end Go.Proofs.YtnlefnhdhigecaaGreatDoor

namespace Go.Proofs.YtnlefnhdhigecaaGreatDoor
set_option maxRecDepth 100000
open Go.RowKit Av
abbrev sxT:TypeId:=2
abbrev sxsT:TypeId:=58
theorem sx_facts:ElemOk Tryz.prog sxsT sxT 1:=⟨by kernel_rfl,by kernel_rfl⟩
def ovS (now:Int) (l:List SeV):List Int:=(l.filter (overS now)).map (·.id)
def sxc (l:List Int):List Value:=l.map (Value.int .i64)
theorem sxc_one (l:List Int):∀ y∈sxc l,y.oneCell'=true:=by
 intro y hy
 obtain ⟨x,_,rfl⟩:=List.mem_map.1 hy
 rfl
theorem ovS_snoc (now:Int) (l:List SeV) (x:SeV):ovS now (l++[x])=if overS now x=true then ovS now l++[x.id] else ovS now l:=by
 unfold ovS
 rw [List.filter_append,List.map_append]
 cases h:overS now x<;>simp [h]
theorem own_atS {w:World} {base k n:Nat} {e:TypeId} {v:Value} {xs:List Value} (h:w.ownsRow base e k v n xs) {i:Nat} (hi:v.ownBlock=some i):base≤i∧i<w.heap.size:=by
 obtain ⟨_,⟨rfl,_⟩|⟨g,cap,cur,rfl,hb,hg,_⟩⟩:=h
 ·simp [Value.ownBlock] at hi
 ·simp only [Value.ownBlock,Option.some.injEq] at hi
  subst hi
  exact ⟨hb,(Array.getElem?_eq_some_iff.1 hg).1⟩
structure TkInv (pb ob sb:Nat) (now:Int) (rb base:Nat) (seen:List SeV) (cur:Option Nat) (W:World):Prop where
 pc:W.cell? ⟨pb,0,none⟩=some (.pointer (some ⟨sb,0,none⟩))
 nc:W.cell? ⟨sb,1,none⟩=some (.int .i64 now)
 out:∃ v,Blk W ob #[v] sxsT∧W.ownsRow base sxT 1 v (ovS now seen).length (sxc (ovS now seen))∧cur=v.ownBlock
 ne:(ob≠pb∧ob≠sb)∧(pb<base∧sb<base∧ob<base)∧(pb≠rb∧sb≠rb∧ob≠rb)∧rb<base∧base≤W.heap.size
theorem TkInv.kp {pb ob sb:Nat} {now:Int} {rb base:Nat} {seen:List SeV} {cur:Option Nat} {W W':World} {S:Nat→Prop} (h:TkInv pb ob sb now rb base seen cur W) (k:Kp S W W') (hs:∀ i,S i→i=rb∨W.heap.size≤i):TkInv pb ob sb now rb base seen cur W':=by
 obtain ⟨hp,hu,⟨v,h1,h2,h3⟩,⟨n1,n2⟩,⟨m1,m2,m4⟩,⟨k1,k2,k4⟩,hrb,hb⟩:=h
 have key:∀ q,q<base→q≠rb→¬ S q:=fun q hq hne hS=>by rcases hs q hS with h|h<;>omega
 refine ⟨k.cell hp (key pb m1 k1),k.cell hu (key sb m2 k2),⟨v,h1.kp k (key ob m4 k4),ownsRow.kp h2 k (fun i hi hS=>?_),h3⟩,⟨n1,n2⟩,⟨m1,m2,m4⟩,⟨k1,k2,k4⟩,hrb,Nat.le_trans hb k.size⟩
 have:=own_atS h2 hi
 rcases hs i hS with h|h<;>omega
set_option maxHeartbeats 1600000 in
theorem tickAsk (pb ob sb:Nat) (now:Int) (rb base:Nat):AskedS 144 #[.pointer (some ⟨pb,0,none⟩), .pointer (some ⟨ob,0,none⟩)] (overS now) (fun i=>i=ob∧ob≠rb∧ob<base) base rb (TkInv pb ob sb now rb base):=by
 refine ⟨enters_of Tryz.func144 (by kernel_rfl) rfl, ?_, ?_, ?_, ?_⟩
 ·intro seen cur x W hn hI
  have HTS:=Lib.hid (ovS_snoc now seen x)
  have htl:(ovS now seen).length≤seen.length:=by unfold ovS;rw [List.length_map];exact List.length_filter_le _ _
  obtain ⟨W1,hW1⟩:∃ W1,W.alloc (.cells (scell x).toArray 206)=W1:=⟨_,rfl⟩
  have hx1:Ext W W1:=by rw [← hW1];exact (Kp.refl _ _).alloc _
  have hb1:Blk W1 W.heap.size (scell x).toArray 206:=by rw [← hW1];exact heap_alloc_new W _
  have hi1:=hI.kp (S:=fun _=>False) hx1 (fun _ f=>f.elim)
  have HI1:=Lib.hid hi1
  have HX1:=Lib.hid hx1
  have HB1:=Lib.hid hb1
  have HW1:=Lib.hid hW1
  obtain ⟨xi,xp,xt⟩:=x
  have HOV:Hid (overS now ⟨xi,xp,xt⟩=decide (xt≤now)):=rfl
  clear hI hi1 hx1 hb1 hW1
  by_cases h0:xt≤now
  ·have HT:Hid (ovS now (seen++[⟨xi,xp,xt⟩])=ovS now seen++[xi]∧overS now ⟨xi,xp,xt⟩=true):=by
    have e:overS now ⟨xi,xp,xt⟩=true:=by rw [HOV.out];exact decide_eq_true h0
    refine ⟨?_,e⟩
    rw [HTS.out,if_pos e]
   go_enter Tryz.func144,Tryz.ntmps144
   go_upto_region 1 with (fail)
   rw [show W.alloc (.cells #[.int .i64 xi, .int .i64 xp, .int .i64 xt] 206)=W1 from HW1.out]
   refine' wp_region_dag0 ((6, .val _)::(7, .val _)::(8, .val _)::(9, .val _)::(10, .val _)::(11, .val _)::(12, .val _)::(5, .val _)::[]) (by exact ⟨fun _ _ _ _ _=>trivial,⟨fun _ _ _ _ _=>trivial,⟨fun _ _ _ _ _=>trivial,⟨fun _ _ _ _ _=>trivial,⟨fun _ _ _ _ _=>trivial,⟨fun _ _ _ _ _=>trivial,⟨fun _ _ _ _ _=>trivial,⟨fun _ _ _ _ _=>trivial,trivial⟩⟩⟩⟩⟩⟩⟩⟩) (by kernel_rfl) (by kernel_rfl) (by kernel_rfl) ?_
   rotate_left 8
   repeat (first
    | (refine wpD_skipv ?_ ?_ ?_
       focus rfl
       focus rfl
       simp only [Act.put,List.setIfInBounds_toArray,List.set_cons_succ,List.set_cons_zero])
    | (refine' wpD_val (c:=_) ?_ (fun w=>Kp.refl _ w) ?_ (fun wq hwq hfq=>?_) ?_
       rotate_left
       focus rfl
       focus rfl
       focus ((have hiq:=HI1.out.kp (S:=fun _=>False) hwq (fun _ f=>f.elim);have q1:=hiq.pc;have q2:=hiq.nc;have b2:=(HB1.out.kp hwq (fun f=>f)).cell 2 _ rfl);go_simp;first|done|rfl)
       simp only [Act.put,List.setIfInBounds_toArray,List.set_cons_succ,List.set_cons_zero])
    | (refine' wpD_con (c:=_) ?_ ?_ (fun wq hwq hfq=>?_) ?_
       rotate_left
       focus rfl
       focus rfl
       focus ((have hiq:=HI1.out.kp (S:=fun _=>False) hwq (fun _ f=>f.elim);have q1:=hiq.pc;have q2:=hiq.nc;have b2:=(HB1.out.kp hwq (fun f=>f)).cell 2 _ rfl);go_simp;(try (rw [dUpon_enter]));fail)
       simp only [Act.put,List.setIfInBounds_toArray,List.set_cons_succ,List.set_cons_zero])
    | fail)
   refine wpD_nil ?_
   intro W2 hx2 hend
   clear hend
   have hi2:=HI1.out.kp (S:=fun _=>False) hx2 (fun _ f=>f.elim)
   have hb2:=HB1.out.kp hx2 (fun f=>f)
   have HX2:=Lib.hid (HX1.out.trans hx2)
   have HI2:=Lib.hid hi2
   obtain ⟨v,hob,how,hcu⟩:=hi2.out
   obtain ⟨a3,l3,c3,hv3⟩:∃ a3 l3 c3,v=.slice a3 l3 c3:=by obtain ⟨a3,c3,e,_⟩:=Sl.open (Sl.of_owns how);exact ⟨_,_,_,e⟩
   subst hv3
   have o0:=hob.cell 0 _ rfl
   have b0:=hb2.cell 0 _ rfl
   have HOB:=Lib.hid hob
   have HOW:=Lib.hid how
   have HCU:=Lib.hid hcu
   have hone:=sxc_one [xi]
   clear hi2 hb2 HTS hob how hcu hx2 HI1 HX1 HB1 HW1
   go_wp2_with (at_builtin;refine wpList_appK sxsT sxT 1 (by decide) sx_facts rfl _ _ rfl base _ _ _ rfl (ownsRow.ext HOW.out ((Kp.refl _ _).alloc _)) _ 1 (sxc [xi]) rfl (Sl.of_block (heap_alloc_new W2 _) rfl (by decide) (Nat.le_refl _)) Shp.some hone ?c1 ?c2 ?_)
   case c1=>omega
   case c2=>have:=HI2.out.ne.2.2.2.2;simp;omega
   intro v' w' h1 k2
   obtain ⟨a4,l4,c4,hv4⟩:∃ a4 l4 c4,v'=.slice a4 l4 c4:=by obtain ⟨a4,c4,e,_⟩:=Sl.open (Sl.of_owns h1);exact ⟨_,_,_,e⟩
   subst hv4
   have hob1:Blk w' ob #[.slice a3 l3 c3] sxsT:=(HOB.out.kp (S:=fun _=>False) ((Kp.refl _ _).alloc _) (fun f=>f)).kp k2 (fun e=>by
    have h5:=(own_atS HOW.out e).1
    have:=HI2.out.ne.2.1.2.2
    omega)
   have o1:=hob1.cell 0 _ rfl
   have f1:=hob1.free 0
   have hin:TkInv pb ob sb now rb base seen cur (W2.alloc (.cells #[.int .i64 xi] 2)):=HI2.out.kp (S:=fun _=>False) ((Kp.refl _ _).alloc _) (fun _ f=>f.elim)
   have hkw:Kp (fun i=>(i=ob∧ob≠rb∧ob<base)∨cur=some i) W w':=Kp.next (S:=fun i=>(i=ob∧ob≠rb∧ob<base)∨cur=some i) (Ext.kp (HX2.out.alloc _)) k2 (fun i _ e=>.inr (by rw [HCU.out];exact e))
   have hq:w'.cell? ⟨pb,0,none⟩=some (.pointer (some ⟨sb,0,none⟩))∧w'.cell? ⟨sb,1,none⟩=some (.int .i64 now)∧base≤w'.heap.size:=by
    have m:=HI2.out.ne.2.1
    have z:∀ i,i<base→(Value.slice a3 l3 c3).ownBlock=some i→False:=fun i hi e=>by have:=(own_atS HOW.out e).1;omega
    exact ⟨k2.cell hin.pc (z pb m.1),k2.cell hin.nc (z sb m.2.1),Nat.le_trans hin.ne.2.2.2.2 k2.size⟩
   have HQ:=Lib.hid hq
   have HKW:=Lib.hid hkw
   have HOB1:=Lib.hid hob1
   have HOW1:=Lib.hid h1
   clear h1 k2 hob1 hin hkw hq o0 b0 hone
   go_wp2_with (fail)
   go_ret
   go_light
   have hne:=HI2.out.ne
   have hst:Kp (fun i=>i=ob) w' (w'.setCell ⟨ob,0,none⟩ (.slice a4 l4 c4)):=Kp.set1 (S:=fun i=>i=ob) (Kp.refl _ _) ob 0 _ rfl
   refine ⟨ret_bool (by rw [HT.out.2]),(Value.slice a4 l4 c4).ownBlock,⟨hst.cell HQ.out.1 (fun e=>hne.1.1 e.symm),hst.cell HQ.out.2.1 (fun e=>hne.1.2 e.symm),⟨.slice a4 l4 c4,HOB1.out.set 0 _, ?_,rfl⟩,hne.1,hne.2.1,hne.2.2.1,hne.2.2.2.1,Nat.le_trans HQ.out.2.2 hst.size⟩,HKW.out.set1 ob 0 _ (.inl ⟨rfl,hne.2.2.1.2.2,hne.2.1.2.2⟩)⟩
   rw [HT.out.1]
   have h6:w'.ownsRow base sxT 1 (.slice a4 l4 c4) (ovS now seen++[xi]).length (sxc (ovS now seen++[xi])):=by
    unfold sxc
    rw [List.map_append,List.length_append];exact HOW1.out
   exact ownsRow.kp h6 hst (fun i hi e=>by have:=(own_atS HOW1.out hi).1;have:=hne.2.1.2.2;omega)
  ·have HT:Hid (ovS now (seen++[⟨xi,xp,xt⟩])=ovS now seen∧overS now ⟨xi,xp,xt⟩=false):=by
    have e:overS now ⟨xi,xp,xt⟩=false:=by rw [HOV.out];exact decide_eq_false h0
    refine ⟨?_,e⟩
    rw [HTS.out,if_neg (by rw [e];decide)]
   go_enter Tryz.func144,Tryz.ntmps144
   go_upto_region 1 with (fail)
   rw [show W.alloc (.cells #[.int .i64 xi, .int .i64 xp, .int .i64 xt] 206)=W1 from HW1.out]
   refine' wp_region_dag0 ((6, .val _)::(7, .val _)::(8, .val _)::(9, .val _)::(10, .val _)::(11, .val _)::(12, .val _)::(5, .val _)::[]) (by exact ⟨fun _ _ _ _ _=>trivial,⟨fun _ _ _ _ _=>trivial,⟨fun _ _ _ _ _=>trivial,⟨fun _ _ _ _ _=>trivial,⟨fun _ _ _ _ _=>trivial,⟨fun _ _ _ _ _=>trivial,⟨fun _ _ _ _ _=>trivial,⟨fun _ _ _ _ _=>trivial,trivial⟩⟩⟩⟩⟩⟩⟩⟩) (by kernel_rfl) (by kernel_rfl) (by kernel_rfl) ?_
   rotate_left 8
   repeat (first
    | (refine wpD_skipv ?_ ?_ ?_
       focus rfl
       focus rfl
       simp only [Act.put,List.setIfInBounds_toArray,List.set_cons_succ,List.set_cons_zero])
    | (refine' wpD_val (c:=_) ?_ (fun w=>Kp.refl _ w) ?_ (fun wq hwq hfq=>?_) ?_
       rotate_left
       focus rfl
       focus rfl
       focus ((have hiq:=HI1.out.kp (S:=fun _=>False) hwq (fun _ f=>f.elim);have q1:=hiq.pc;have q2:=hiq.nc;have b2:=(HB1.out.kp hwq (fun f=>f)).cell 2 _ rfl);go_simp;first|done|rfl)
       simp only [Act.put,List.setIfInBounds_toArray,List.set_cons_succ,List.set_cons_zero])
    | (refine' wpD_con (c:=_) ?_ ?_ (fun wq hwq hfq=>?_) ?_
       rotate_left
       focus rfl
       focus rfl
       focus ((have hiq:=HI1.out.kp (S:=fun _=>False) hwq (fun _ f=>f.elim);have q1:=hiq.pc;have q2:=hiq.nc;have b2:=(HB1.out.kp hwq (fun f=>f)).cell 2 _ rfl);go_simp;(try (rw [dUpon_enter]));fail)
       simp only [Act.put,List.setIfInBounds_toArray,List.set_cons_succ,List.set_cons_zero])
    | fail)
   refine wpD_nil ?_
   intro W2 hx2 hend
   clear hend
   have HI2:=Lib.hid (HI1.out.kp (S:=fun _=>False) hx2 (fun _ f=>f.elim))
   have HX2:=Lib.hid (HX1.out.trans hx2)
   clear hx2 HTS HI1 HX1 HB1 HW1
   go_wp2_with (fail)
   go_ret
   go_light
   refine ⟨ret_bool (by rw [HT.out.2]),⟨cur, ?_⟩,Ext.kp HX2.out⟩
   have h:=HI2.out
   obtain ⟨v,h1,h2,h3⟩:=h.out
   exact ⟨h.pc,h.nc,⟨v,h1,by rw [HT.out.1];exact h2,h3⟩,h.ne⟩
 ·intro seen cur W W' hI hk
  exact hI.kp hk (fun i hi=>.inl hi)
 ·intro seen cur W i hI he
  obtain ⟨v,h1,h2,h3⟩:=hI.out
  have hb:=own_atS h2 (i:=i) (by rw [← h3,he])
  exact ⟨hb.1,hb.2,by have:=hI.ne.2.2.2.1;omega⟩
 ·rintro i ⟨rfl,h1,h2⟩
  exact ⟨h1,h2⟩
set_option maxHeartbeats 800000 in
theorem indexFuncS_none (a:Option Addr) (c:Nat) (fv:Value) (w:World):Calls Tryz.prog 168 #[.slice a 0 c,fv] w fun e w'=>e=.returned (.int .i64 (-1))∧w=w':=by
 go_enter Tryz.func168,Tryz.ntmps168
 go_wp2_with (fail)
 refine wp_loop_rounds 1 ?_
 rw [rounds_succ]
 go_wp2_with (fail)
 go_ret
 exact ⟨rfl,rfl⟩
set_option maxHeartbeats 800000 in
theorem deleteFuncS_none (a:Option Addr) (c:Nat) (fv:Value) (w:World):Calls Tryz.prog 143 #[.slice a 0 c,fv] w fun e w'=>e=.returned (.slice a 0 c)∧w=w':=by
 go_enter Tryz.func143,Tryz.ntmps143
 go_wp2_with (fail)
 refine (indexFuncS_none a c fv w).mono ?_
 rintro e w1 ⟨rfl,rfl⟩
 go_wp2_with (fail)
 go_ret
 exact ⟨rfl,rfl⟩
def rsS (now:Int) (l:List SeV):List SeV:=l.filter fun x=>!overS now x
structure TkDel (W w':World) (ro:Option Nat) (ob:Nat) (now:Int) (l:List SeV) (v:Value):Prop where
 own:w'.ownsRow 0 seT 3 v (rsS now l).length ((rsS now l).flatMap scell)
 blk:v.ownBlock=ro
 out:∃ u,Blk w' ob #[u] sxsT∧w'.ownsRow W.heap.size sxT 1 u (ovS now l).length (sxc (ovS now l))
theorem tickDel (ro:Option Nat) (a:Option Addr) (c:Nat) (l:List SeV) (pb ob sb:Nat) (now:Int) (W:World)
  (hown:W.ownsRow 0 seT 3 (.slice a l.length c) l.length (l.flatMap scell)) (hrv:(Value.slice a l.length c).ownBlock=ro) (hro:∀ i,ro=some i→i<W.heap.size∧i≠pb∧i≠sb∧i≠ob)
  (hn:l.length≤100000) (hpc:W.cell? ⟨pb,0,none⟩=some (.pointer (some ⟨sb,0,none⟩))) (hnc:W.cell? ⟨sb,1,none⟩=some (.int .i64 now)) (hoc:Blk W ob #[.slice none 0 0] sxsT) (hne:ob≠pb∧ob≠sb) :
  Calls Tryz.prog 143 #[.slice a l.length c, .func (.func 144) #[] #[.pointer (some ⟨pb,0,none⟩), .pointer (some ⟨ob,0,none⟩)]] W fun e w'=>
   ∃ a' c',e=.returned (.slice a' (rsS now l).length c')∧TkDel W w' ro ob now l (.slice a' (rsS now l).length c')∧Kp (fun i=>i=ob∨ro=some i) W w':=by
 cases l with
 | nil=>
   refine (deleteFuncS_none a c _ W).mono ?_
   rintro e w' ⟨rfl,rfl⟩
   exact ⟨a,c,rfl,⟨hown,hrv, .slice none 0 0,hoc,⟨rfl, .inl ⟨rfl,rfl⟩⟩⟩,Kp.refl _ _⟩
 | cons x r=>
   obtain ⟨ad,rfl⟩:∃ ad,a=some ad:=by
    cases a with
    | some ad=>exact ⟨ad,rfl⟩
    | none=>obtain ⟨_,h|⟨g,c,cur,hv,_⟩⟩:=hown
            ·simp at h
            ·simp at hv
   generalize x::r=l at *
   have hr:ro=some ad.block:=by rw [← hrv];rfl
   obtain ⟨k2,k3,k4,k6⟩:=hro _ hr
   have hpl:=World.block_lt_of_cell? W _ hpc
   have hul:=World.block_lt_of_cell? W _ hnc
   have hol:=hoc.lt
   have hI:TkInv pb ob sb now ad.block W.heap.size [] none W:=⟨hpc,hnc,⟨.slice none 0 0,hoc,⟨rfl, .inl ⟨rfl,rfl⟩⟩,rfl⟩,hne,⟨hpl,hul,hol⟩,⟨Ne.symm k3,Ne.symm k4,Ne.symm k6⟩,k2,Nat.le_refl _⟩
   refine (deleteFuncS_any (tickAsk pb ob sb now ad.block W.heap.size) 0 (some ad) l c W hown (fun y hy=>by cases hy;rfl) (fun _=>k2) (Nat.le_refl _) hn ⟨none,hI⟩).mono ?_
   rintro e w' ⟨⟨rfl,ho,cur,hi⟩,hk⟩
   obtain ⟨v,h1,h2,h3⟩:=hi.out
   have hk2:Kp (fun i=>i=ob∨ro=some i) W w':=hk.mono (fun i hi h=>by
    rcases h with (h|h)|h
    ·exact .inl h.1
    ·omega
    ·exact .inr (by rw [hr,h]))
   exact ⟨_,_,rfl,⟨ho,by rw [← hrv];rfl,v,h1,h2⟩,hk2⟩
def TickPost (w:World) (b:Nat) (ro:Option Nat) (s:SsV) (e:Ending) (w':World):Prop:=
 ∃ v,e=.returned v∧w'.ownsRow w.heap.size sxT 1 v (tickS s).2.length (sxc (tickS s).2)∧SesR w' b ro (tickS s).1∧Kp (fun i=>i=b∨ro=some i) w w'
set_option maxHeartbeats 3200000 in
theorem sesTick_any (N b:Nat) (ro:Option Nat) (s:SsV) (w:World) (h:SesR w b ro s) (hok:SsOk N s) (hN:N≤1000000000) :
  Calls Tryz.prog 100 #[.pointer (some ⟨b,0,none⟩)] w (TickPost w b ro s):=by
 obtain ⟨hlt,hrl⟩:=h.lt
 obtain ⟨a,c,hb,hown,hro,hrb,had⟩:=h.open
 have hnow:=hok.now
 have hW1:wrap64 (s.now+1)=s.now+1:=by unfold wrap64;omega
 obtain ⟨W0,hW0⟩:∃ W0,w.alloc (.cells #[.pointer (some ⟨b,0,none⟩)] 132)=W0:=⟨_,rfl⟩
 have hx0:Ext w W0:=by rw [← hW0];exact (Kp.refl _ _).alloc _
 have hp0:Blk W0 w.heap.size #[.pointer (some ⟨b,0,none⟩)] 132:=by rw [← hW0];exact heap_alloc_new w _
 have hs0:W0.heap.size=w.heap.size+1:=by rw [← hW0];simp
 have hb0:=hb.kp hx0 (fun f=>f)
 obtain ⟨W1,hW1'⟩:∃ W1,W0.setCell ⟨b,1,none⟩ (.int .i64 (s.now+1))=W1:=⟨_,rfl⟩
 have hk1:Kp (fun i=>i=b) W0 W1:=by rw [← hW1'];exact Kp.set1 (S:=fun i=>i=b) (Kp.refl _ _) b 1 _ rfl
 have hb1:Blk W1 b #[.int .i64 s.room, .int .i64 (s.now+1), .int .i64 s.next, .slice a s.l.length c] ssT:=by rw [← hW1'];exact hb0.set 1 _
 have hp1:Blk W1 w.heap.size #[.pointer (some ⟨b,0,none⟩)] 132:=hp0.kp hk1 (by omega)
 have hs1:W1.heap.size=w.heap.size+1:=by rw [← hs0,← hW1'];simp
 have ho1:W1.ownsRow 0 seT 3 (.slice a s.l.length c) s.l.length (s.l.flatMap scell):=ownsRow.kp (ownsRow.ext hown hx0) hk1 (fun i hi e=>hrb i (by rw [← hro];exact hi) e)
 obtain ⟨W2,hW2⟩:∃ W2,W1.alloc (.cells #[.slice none 0 0] sxsT)=W2:=⟨_,rfl⟩
 have hx2:Ext W1 W2:=by rw [← hW2];exact (Kp.refl _ _).alloc _
 have hl2:Blk W2 (w.heap.size+1) #[.slice none 0 0] sxsT:=by rw [← hW2,← hs1];exact heap_alloc_new W1 _
 have hs2:W2.heap.size=w.heap.size+2:=by rw [← hW2];simp [hs1]
 have HP2:=Lib.hid (hp1.kp hx2 (fun f=>f))
 have HB2:=Lib.hid (hb1.kp hx2 (fun f=>f))
 have HO2:=Lib.hid (ownsRow.ext ho1 hx2)
 have HL2:=Lib.hid hl2
 have HW0:=Lib.hid hW0
 have HW1:=Lib.hid hW1'
 have HW2:=Lib.hid hW2
 have HS2:=Lib.hid hs2
 have HS1:=Lib.hid hs1
 have HK2:Hid (Kp (fun i=>i=b∨ro=some i) w W2):=((Ext.kp hx0).next hk1 (fun i _ e=>.inl e)).next hx2 (fun i _ f=>f.elim)
 have HRO:=Lib.hid hro
 have HRB:=Lib.hid hrb
 have HRL:=Lib.hid (show b<w.heap.size∧∀ i,ro=some i→i<w.heap.size from ⟨hlt,hrl⟩)
 have HDEL:=Lib.hid (fun W (hW:Kp (fun i=>W2.heap.size≤i∨(i=w.heap.size+1∨ro=some i)) W2 W) (h1:W.ownsRow 0 seT 3 (.slice a s.l.length c) s.l.length (s.l.flatMap scell)) (h2:Blk W (w.heap.size+1) #[.slice none 0 0] sxsT)=>tickDel ro a c s.l w.heap.size (w.heap.size+1) b (s.now+1) W h1 hro (fun i hi=>by
   have h5:=hrl i hi
   have h6:=hrb i hi
   have h7:=hW.size
   exact ⟨by omega,by omega,h6,by omega⟩) (by have:=hok.len;omega)
  ((HP2.out.kp hW (fun f=>by rcases f with f|f|f;(focus omega);(focus omega);have:=hrl _ f;omega)).cell 0 _ rfl)
  ((HB2.out.kp hW (fun f=>by rcases f with f|f|f;(focus omega);(focus omega);exact hrb _ f rfl)).cell 1 _ rfl) h2 ⟨by omega,by omega⟩)
 have c1:=hb0.cell 1 _ rfl
 have f1:=hb0.free 1
 have p0:=hp0.cell 0 _ rfl
 have HE1:Hid (tickS s=(⟨s.room,s.now+1,s.next,rsS (s.now+1) s.l⟩,ovS (s.now+1) s.l)):=rfl
 clear h hok hb hown hro hrb had hnow hlt hrl hx0 hp0 hs0 hb0 hk1 hb1 hp1 hs1 ho1 hx2 hl2 hs2 hW0 hW1' hW2
 go_enter Tryz.func100,Tryz.ntmps100
 go_upto_region 1 with (fail)
 rw [HW0.out]
 go_upto_region 2 with (fail)
 rw [HW1.out]
 clear c1 f1 p0
 go_upto_region 3 with (fail)
 rw [HW2.out]
 rw [HS1.out]
 refine' Av.X.wp_region_dagG (fun i=>i=w.heap.size+1∨ro=some i) 9 [(17,[900],[])] [900] ((11, .val _)::(12, .val _)::(13, .val _)::(14, .val _)::(15, .val _)::(16, .val _)::(17,⟨fun v=>∃ a' l' c',v=.slice a' l' c',fun v w'=>v.ownBlock=ro∧w'.ownsRow 0 seT 3 v (rsS (s.now+1) s.l).length ((rsS (s.now+1) s.l).flatMap scell)∧∃ u,Blk w' (w.heap.size+1) #[u] sxsT∧w'.ownsRow W2.heap.size sxT 1 u (ovS (s.now+1) s.l).length (sxc (ovS (s.now+1) s.l))⟩)::(18, .val _)::(19, .val _)::(900,⟨fun _=>True,fun _ w'=>w'.ownsRow 0 seT 3 (.slice a s.l.length c) s.l.length (s.l.flatMap scell)∧Blk w' (w.heap.size+1) #[.slice none 0 0] sxsT⟩)::[]) (by exact ⟨fun _ _ _ _ _=>trivial,⟨fun _ _ _ _ _=>trivial,⟨fun _ _ _ _ _=>trivial,⟨fun _ _ _ _ _=>trivial,⟨fun _ _ _ _ _=>trivial,⟨fun _ _ _ _ _=>trivial,⟨fun _ _ _ hr ⟨h0,h1,u,h2,h3⟩=>⟨h0,ownsRow.ext h1 hr,u,h2.kp hr (fun f=>f),ownsRow.ext h3 hr⟩,⟨fun _ _ _ _ _=>trivial,⟨fun _ _ _ _ _=>trivial,⟨fun _ _ _ hr hv=>⟨ownsRow.ext hv.1 hr,hv.2.kp hr (fun f=>f)⟩,trivial⟩⟩⟩⟩⟩⟩⟩⟩⟩⟩) (by exact ⟨⟨undef,⟨ownsRow.ext HO2.out (Kp.refl (fun _=>False) _).drew,HL2.out.kp (Kp.refl (fun _=>False) _).drew (fun f=>f)⟩⟩,trivial⟩) (by kernel_rfl) (by kernel_rfl) (by kernel_rfl) ?_
 rotate_left 8
 simp only [List.take_succ_cons,List.take_zero]
 repeat (first
  | (refine Av.X.wpD_skipv ?_ ?_ ?_
     focus rfl
     focus rfl
     simp only [Act.put,List.setIfInBounds_toArray,List.set_cons_succ,List.set_cons_zero])
  | (refine' Av.X.wpD_val (c:=_) ?_ (fun w=>Kp.refl _ w) ?_ (fun wq hwq hfz=>?_) ?_
     rotate_left
     focus rfl
     focus rfl
     focus (have hfq:=hfz.at_;have hcq:=hfz.use;(have c1:=(HP2.out.kp hwq (fun f=>by have h1:=HS2.out;rcases f with f|f|f;(focus omega);(focus omega);have:=HRL.out.2 _ f;omega)).cell 0 _ rfl;have c2:=(HB2.out.kp hwq (fun f=>by have h1:=HS2.out;have h2:=HRL.out.1;rcases f with f|f|f;(focus omega);(focus omega);exact HRB.out _ f rfl)).cell 3 _ rfl);go_simp;first|done|rfl)
     simp only [Act.put,List.setIfInBounds_toArray,List.set_cons_succ,List.set_cons_zero])
  | (refine' Av.X.wpD_con (c:=_) ?_ ?_ (fun wq hwq hfz=>?_) ?_
     rotate_left
     focus rfl
     focus rfl
     focus (have hfq:=hfz.at_;have hcq:=hfz.use;(have c1:=(HP2.out.kp hwq (fun f=>by have h1:=HS2.out;rcases f with f|f|f;(focus omega);(focus omega);have:=HRL.out.2 _ f;omega)).cell 0 _ rfl;have c2:=(HB2.out.kp hwq (fun f=>by have h1:=HS2.out;have h2:=HRL.out.1;rcases f with f|f|f;(focus omega);(focus omega);exact HRB.out _ f rfl)).cell 3 _ rfl);go_simp;(try (rw [dUpon_enter]));fail)
     simp only [Act.put,List.setIfInBounds_toArray,List.set_cons_succ,List.set_cons_zero])
  | (refine Av.X.wpD_used (A:=fun v=>∃ a' l' c',v=.slice a' l' c') (V:=fun v w'=>v.ownBlock=ro∧w'.ownsRow 0 seT 3 v (rsS (s.now+1) s.l).length ((rsS (s.now+1) s.l).flatMap scell)∧∃ u,Blk w' (w.heap.size+1) #[u] sxsT∧w'.ownsRow W2.heap.size sxT 1 u (ovS (s.now+1) s.l).length (sxc (ovS (s.now+1) s.l))) 17 ?_ ?_ ?_ ?_ (fun wq hwq hfz=>?_) (fun v17 h17=>?_)
     focus rfl
     focus rfl
     focus (exact ⟨.slice none 0 0,_,_,_,rfl⟩)
     focus rfl
     focus (have hfq:=hfz.at_;have hcq:=hfz.use;(have c1:=(HP2.out.kp hwq (fun f=>by have h1:=HS2.out;rcases f with f|f|f;(focus omega);(focus omega);have:=HRL.out.2 _ f;omega)).cell 0 _ rfl;have c2:=(HB2.out.kp hwq (fun f=>by have h1:=HS2.out;have h2:=HRL.out.1;rcases f with f|f|f;(focus omega);(focus omega);exact HRB.out _ f rfl)).cell 3 _ rfl);go_simp;(try (rw [dUpon_enter]));obtain ⟨h901,h902⟩:wq.ownsRow 0 seT 3 (.slice a s.l.length c) s.l.length (s.l.flatMap scell)∧Blk wq (w.heap.size+1) #[.slice none 0 0] sxsT:=(hcq 900 rfl).elim (fun _ h=>h);(with_reducible refine (HDEL.out _ hwq h901 h902).mono ?_);rintro e w' ⟨a',c',rfl,hd,hk⟩;obtain ⟨u,hu1,hu2⟩:=hd.out;refine ⟨_,rfl,⟨_,_,_,rfl⟩,⟨hd.blk,hd.own,u,hu1,own_less hu2 hwq.size⟩,hk.mono (fun i _ e=>.inr e), ?_⟩;repeat (first|exact PresL.nil|(with_reducible refine PresL.val ?_)|(refine PresL.out rfl ?_)))
     obtain ⟨a17,l17,c17,rfl⟩:=h17
     simp only [Act.put,List.setIfInBounds_toArray,List.set_cons_succ,List.set_cons_zero])
  | fail)
 refine Av.X.wpD_nil ?_
 intro w3 hx3 hend
 obtain ⟨h0,h1,u,h2,h3⟩:(Value.slice a17 l17 c17).ownBlock=ro∧w3.ownsRow 0 seT 3 (.slice a17 l17 c17) (rsS (s.now+1) s.l).length ((rsS (s.now+1) s.l).flatMap scell)∧∃ u,Blk w3 (w.heap.size+1) #[u] sxsT∧w3.ownsRow W2.heap.size sxT 1 u (ovS (s.now+1) s.l).length (sxc (ovS (s.now+1) s.l)):=hend 17 (by kernel_rfl)
 clear hend
 have hb3:=HB2.out.kp hx3 (fun f=>by
  have h1:=HS2.out
  have h2:=HRL.out.1
  rcases f with f|f|f
  ·omega
  ·omega
  ·exact HRB.out _ f rfl)
 have f3:=hb3.free 3
 have c3:=hb3.cell 3 _ rfl
 have hst:Kp (fun i=>i=b) w3 (w3.setCell ⟨b,3,none⟩ (.slice a17 l17 c17)):=Kp.set1 (S:=fun i=>i=b) (Kp.refl _ _) b 3 _ rfl
 have hbl:b≠w.heap.size+1:=by have:=HRL.out.1;omega
 have hl4:=(h2.kp hst hbl.symm).cell 0 _ rfl
 have HB3:=Lib.hid hb3
 have HH0:=Lib.hid h0
 have HH1:=Lib.hid h1
 have HH3:=Lib.hid h3
 have HST:=Lib.hid hst
 have HK3:Hid (Kp (fun i=>i=b∨ro=some i) w w3):=HK2.out.next hx3 (fun i hi e=>by
  have h1:=HS2.out
  rcases e with e|e|e
  ·omega
  ·omega
  ·exact .inr e)
 have huu:∃ a l c,u=.slice a l c:=by obtain ⟨a3,c3,e,_⟩:=Sl.open (Sl.of_owns h3);exact ⟨_,_,_,e⟩
 obtain ⟨ua,ul,uc,rfl⟩:=huu
 clear hb3 h0 h1 h2 h3 hst hx3
 go_wp2_with (fail)
 go_ret
 unfold TickPost
 rw [HE1.out]
 refine ⟨_,rfl, ?_,SesR.mk (v:=.slice a17 l17 c17) (HB3.out.set 3 _) (ownsRow.kp HH1.out HST.out (fun i hi e=>HRB.out i (by rw [← HH0.out];exact hi) e)) HH0.out HRB.out,HK3.out.set1 b 3 _ (.inl rfl)⟩
 refine own_less (ownsRow.kp HH3.out HST.out (fun i hi e=>?_)) (by have:=HS2.out;omega)
 have h5:=(own_atS HH3.out hi).1
 have h6:=HRL.out.1
 have h7:=HS2.out
 omega
end Go.Proofs.YtnlefnhdhigecaaGreatDoor

namespace Av
set_option maxRecDepth 100000
open Go Go.RowKit Go.Sort
structure Gw (a b:World):Prop where
 ext:Ext a b
 drawn:a.drawn≤b.drawn
theorem Gw.refl (w:World):Gw w w:=⟨Kp.refl _ w,Nat.le_refl _⟩
theorem Gw.trans {a b c:World} (h:Gw a b) (k:Gw b c):Gw a c:=⟨h.ext.trans k.ext,Nat.le_trans h.drawn k.drawn⟩
theorem Gw.drew {a w:World} (h:Gw a w):Gw a w.drew:=⟨h.ext.drew,Nat.le_trans h.drawn (Nat.le_succ _)⟩
theorem Gw.alloc {a w:World} (h:Gw a w) (o:Obj):Gw a (w.alloc o):=⟨h.ext.alloc o,h.drawn⟩
theorem Gw.grow {a b:World} (h:Gw a b):∃ q os,b=Go.Sort.grow (a.drewN q) os:=by
 refine ⟨b.drawn - a.drawn,b.heap.extract a.heap.size b.heap.size, ?_⟩
 have hh:b.heap=a.heap++b.heap.extract a.heap.size b.heap.size:=by
  have hs:=h.ext.size
  apply Array.ext_getElem?
  intro i
  rw [Array.getElem?_append]
  split
  ·rename_i hi;exact h.ext.block i hi (fun f=>f)
  ·rename_i hi
   rw [Array.getElem?_extract]
   split
   ·congr 1;omega
   ·rw [Array.getElem?_eq_none (by omega)]
 have hd:b.drawn=a.drawn+(b.drawn - a.drawn):=by have:=h.drawn;omega
 have h1:=h.ext.os;have h2:=h.ext.tape;have h3:=h.ext.output
 cases a;cases b
 simp only [Go.Sort.grow,World.drewN] at *
 subst h1 h2 h3
 simp only [World.mk.injEq,true_and,and_true]
 exact ⟨hh,hd⟩
theorem wp_region_dagG {P:Program} {id:Nat} {Q:Exit→Act→World→Prop} {a:Act} {w:World} {l:List Oper} (S:List (Tmp×TSpec)) (hst:Stab (fun a b=>Gw a b) S) (hm:P.follows .mixedOrders=true) (hB:dagB .any l.toArray [] l.length=true) (hsz:dstB l.toArray a.tmps.size=true)
  (h:WpD P l.toArray (fun a b=>Gw a b) (fun a b=>Gw a b) w S [] (fun a'=>∀ w',Gw w w'→Ends l.toArray S [] l.length a' w'→Q .normal a' w') l 0 a):(Code.region id l.toArray true).wp P Q a w:=by
 refine wp_region_dagR l.length S [] (fun a b=>Gw a b) (fun w=>Gw.refl w) (fun _ _ _ h k=>h.trans k) (Gw.refl w).drew hm hB hsz ?_
 rw [List.take_length,List.drop_length]
 exact h.out hst (fun _ _ h=>h)
end Av

namespace Go.Proofs.YtnlefnhdhigecaaGreatDoor
set_option maxRecDepth 100000
open Go.RowKit Av
abbrev wcell (e:Wt):List Value:=[.int .i64 e.sess, .string e.path, .int .i64 e.kind]
theorem lessB_eq (x y:Bs):Op.bytesLess x y=decide (x<y):=by
 induction x generalizing y with
 | nil=>cases y<;>simp [Op.bytesLess]
 | cons a x ih=>
   cases y with
   | nil=>simp [Op.bytesLess]
   | cons b y=>
     rw [Op.bytesLess,ih,Bool.eq_iff_iff]
     simp [List.cons_lt_cons_iff]
set_option maxHeartbeats 400000 in
theorem nanI64 (x:Int) (w:World):Calls Tryz.prog 291 #[.int .i64 x] w fun e w'=>e=.returned (.bool false)∧w=w':=by
 go_enter Tryz.func291,Tryz.ntmps291
 go_wp2_with (fail)
 go_ret
 go_light
 exact ⟨by simp,rfl⟩
set_option maxHeartbeats 400000 in
theorem nanInt (x:Int) (w:World):Calls Tryz.prog 215 #[.int .i64 x] w fun e w'=>e=.returned (.bool false)∧w=w':=by
 go_enter Tryz.func215,Tryz.ntmps215
 go_wp2_with (fail)
 go_ret
 go_light
 exact ⟨by simp,rfl⟩
set_option maxHeartbeats 400000 in
theorem nanStr (x:ByteArray) (w:World):Calls Tryz.prog 282 #[.string x] w fun e w'=>e=.returned (.bool false)∧w=w':=by
 go_enter Tryz.func282,Tryz.ntmps282
 go_wp2_with (fail)
 go_ret
 go_light
 exact ⟨by simp,rfl⟩
set_option maxHeartbeats 800000 in
theorem cmpI64_any (x y:Int) (w:World):Calls Tryz.prog 245 #[.int .i64 x, .int .i64 y] w fun e w'=>e=.returned (.int .i64 (cmpI x y))∧w=w':=by
 rcases Int.lt_trichotomy x y with h1|h1|h1
 ·rw [(cmpI_lt _ _).1 h1]
  go_enter Tryz.func245,Tryz.ntmps245
  go_wp2_with (fail)
  refine (nanI64 _ _).mono ?_
  rintro e w1 ⟨rfl,rfl⟩
  go_wp2_with (fail)
  refine (nanI64 _ _).mono ?_
  rintro e w1 ⟨rfl,rfl⟩
  go_wp2_with (fail)
  go_ret
  go_light
  exact ⟨rfl,rfl⟩
 ·rw [(cmpI_lt _ _).2.1 h1]
  subst h1
  have h2:¬ x<x:=Int.lt_irrefl x
  go_enter Tryz.func245,Tryz.ntmps245
  go_wp2_with (fail)
  refine (nanI64 _ _).mono ?_
  rintro e w1 ⟨rfl,rfl⟩
  go_wp2_with (fail)
  refine (nanI64 _ _).mono ?_
  rintro e w1 ⟨rfl,rfl⟩
  go_wp2_with (fail)
  go_ret
  go_light
  exact ⟨rfl,rfl⟩
 ·rw [(cmpI_lt _ _).2.2 h1]
  have h2:¬ x<y:=by omega
  go_enter Tryz.func245,Tryz.ntmps245
  go_wp2_with (fail)
  refine (nanI64 _ _).mono ?_
  rintro e w1 ⟨rfl,rfl⟩
  go_wp2_with (fail)
  refine (nanI64 _ _).mono ?_
  rintro e w1 ⟨rfl,rfl⟩
  go_wp2_with (fail)
  go_ret
  go_light
  exact ⟨rfl,rfl⟩
set_option maxHeartbeats 800000 in
theorem cmpInt_any (x y:Int) (w:World):Calls Tryz.prog 175 #[.int .i64 x, .int .i64 y] w fun e w'=>e=.returned (.int .i64 (cmpI x y))∧w=w':=by
 rcases Int.lt_trichotomy x y with h1|h1|h1
 ·rw [(cmpI_lt _ _).1 h1]
  go_enter Tryz.func175,Tryz.ntmps175
  go_wp2_with (fail)
  refine (nanInt _ _).mono ?_
  rintro e w1 ⟨rfl,rfl⟩
  go_wp2_with (fail)
  refine (nanInt _ _).mono ?_
  rintro e w1 ⟨rfl,rfl⟩
  go_wp2_with (fail)
  go_ret
  go_light
  exact ⟨rfl,rfl⟩
 ·rw [(cmpI_lt _ _).2.1 h1]
  subst h1
  have h2:¬ x<x:=Int.lt_irrefl x
  go_enter Tryz.func175,Tryz.ntmps175
  go_wp2_with (fail)
  refine (nanInt _ _).mono ?_
  rintro e w1 ⟨rfl,rfl⟩
  go_wp2_with (fail)
  refine (nanInt _ _).mono ?_
  rintro e w1 ⟨rfl,rfl⟩
  go_wp2_with (fail)
  go_ret
  go_light
  exact ⟨rfl,rfl⟩
 ·rw [(cmpI_lt _ _).2.2 h1]
  have h2:¬ x<y:=by omega
  go_enter Tryz.func175,Tryz.ntmps175
  go_wp2_with (fail)
  refine (nanInt _ _).mono ?_
  rintro e w1 ⟨rfl,rfl⟩
  go_wp2_with (fail)
  refine (nanInt _ _).mono ?_
  rintro e w1 ⟨rfl,rfl⟩
  go_wp2_with (fail)
  go_ret
  go_light
  exact ⟨rfl,rfl⟩
theorem strCmp (x y:ByteArray):(Op.bytesLess x.toList y.toList=true∧cmpS x y=-1)∨(Op.bytesLess x.toList y.toList=false∧(x.toList == y.toList)=true∧cmpS x y=0)∨(Op.bytesLess x.toList y.toList=false∧(x.toList == y.toList)=false∧cmpS x y=1):=by
 have l1:Op.bytesLess x.toList y.toList=decide (x.data.toList<y.data.toList):=by rw [Lib.toList_data,Lib.toList_data,lessB_eq]
 rw [l1,str_eq]
 unfold cmpS
 by_cases h1:x.data.toList<y.data.toList
 ·left;simp [h1,cmpV]
 ·right
  by_cases h2:y.data.toList<x.data.toList
  ·right
   refine ⟨by simp [h1],decide_eq_false (fun e=>by subst e;exact List.lt_irrefl _ h2),by simp [h1,h2,cmpV]⟩
  ·left
   have:x=y:=Av.bs_inj (List.le_antisymm h2 h1)
   exact ⟨by simp [h1],by simp [this],by simp [h1,h2,cmpV]⟩
set_option maxHeartbeats 800000 in
theorem cmpStr_any (x y:ByteArray) (w:World):Calls Tryz.prog 246 #[.string x, .string y] w fun e w'=>e=.returned (.int .i64 (cmpS x y))∧w=w':=by
 rcases strCmp x y with ⟨l1,hr⟩|⟨l1,l2,hr⟩|⟨l1,l2,hr⟩
 all_goals rw [hr]
 all_goals clear hr
 all_goals go_enter Tryz.func246,Tryz.ntmps246
 all_goals go_wp2_with (fail)
 all_goals refine (nanStr _ _).mono ?_
 all_goals rintro e w1 ⟨rfl,rfl⟩
 all_goals go_wp2_with (fail)
 all_goals refine (nanStr _ _).mono ?_
 all_goals rintro e w1 ⟨rfl,rfl⟩
 all_goals
  go_wp2_with (fail)
  go_ret
  go_light
  exact ⟨rfl,rfl⟩
theorem or_ne {x:Int} {r:List Int} (h:x≠0):orI (x::r)=x:=by unfold orI;rw [show (x == 0)=false from beq_eq_false_iff_ne.2 h];rfl
def OrRel (l:List Int) (i:Value):Prop:=∃ k:Nat,k≤l.length∧i=.int .i64 k∧orI (l.drop k)=orI l
set_option maxHeartbeats 800000 in
theorem or_any (v:Value) (l:List Int) (w:World) (h:Sl w 1 v l.length (l.map (Value.int .i64))):Calls Tryz.prog 244 #[v] w fun e w'=>e=.returned (.int .i64 (orI l))∧w=w':=by
 obtain ⟨a,c,rfl,hcc,hm,hl,hop⟩:=Sl.open h
 unfold maxLen at hm
 have HOP:=Lib.hid hop
 clear h hop hl
 go_enter Tryz.func244,Tryz.ntmps244
 go_wp2_with (fail)
 go_loop [8] (fun i=>OrRel l i) (fun i=>l.length - (intOf i).toNat)
 case atStart=>exact ⟨0,Nat.zero_le _,rfl,rfl⟩
 case round=>
  obtain ⟨k,hk,rfl,hor⟩:=hrel
  have HO:=Lib.hid hor
  clear hor
  by_cases hlt:k<l.length
  ·obtain ⟨g,off,rfl,hg,hcl⟩:=HOP.out (by omega)
   have s0:=hcl k (.int .i64 l[k]) (by rw [List.getElem?_map,List.getElem?_eq_getElem hlt];rfl)
   have hd:=List.drop_eq_getElem_cons hlt
   by_cases h0:l[k]=0
   ·have HR:Hid (orI (l.drop (k+1))=orI l):=by show _=_;rw [← HO.out,hd,orI,h0];rfl
    rw [h0] at s0
    clear hcl hd
    go_wp2_with (fail)
    go_light
    exact ⟨⟨k+1,by omega,by go_num,HR.out⟩,by simp [intOf];omega⟩
   ·have HR:Hid (l[k]=orI l):=by show _=_;rw [← HO.out,hd,or_ne h0]
    clear hcl hd
    go_wp2_with (fail)
    go_ret
    go_light
    exact ⟨by first|rfl|(rw [HR.out];rfl),rfl⟩
  ·have HR:Hid (orI l=0):=by show _=_;rw [← HO.out,List.drop_of_length_le (by omega)];rfl
   clear HO
   go_wp2_with (fail)
   go_ret
   go_light
   exact ⟨by first|rfl|(rw [HR.out];rfl),rfl⟩
end Go.Proofs.YtnlefnhdhigecaaGreatDoor

