/- Texts put together: AvWWatB, AvWWatC, AvWWatD, AvWWatE, AvRowS, AvWWatF, AvWWatG. -/
import Derived.Test.YtnlefnhdhigecaaGreatDoorAvG21
import Derived.Shelf.SlicesQ.Contains
import Derived.Laws.StructEq
import Derived.Ground.SlgqProg
import Derived.Test.YtnlefnhdhigecaaGreatDoorShelfW
import Derived.Test.YtnlefnhdhigecaaGreatDoorAvG1
import Derived.Shelf.AbstractIn
import Derived.Shelf.SlSortCmp.NoneTotal
import Derived.Ground.SlsfProg
import Derived.Test.YtnlefnhdhigecaaGreatDoorAvG6
import Derived.Deep.RegionHeld3
import Derived.Deep.AppendLies
namespace Go.Proofs.YtnlefnhdhigecaaGreatDoor
set_option maxRecDepth 100000
open Go.RowKit Av
set_option maxHeartbeats 1600000 in
theorem order_any (x y:Wt) (w:World):Calls Tryz.prog 211 #[.agg (wcell x).toArray, .agg (wcell y).toArray] w fun e w'=>e=.returned (.int .i64 (ordW x y))∧Gw w w':=by
 obtain ⟨xs,xp,xk⟩:=x
 obtain ⟨ys,yp,yk⟩:=y
 obtain ⟨r1,h1⟩:∃ r,cmpI xs ys=r:=⟨_,rfl⟩
 obtain ⟨r2,h2⟩:∃ r,cmpI xk yk=r:=⟨_,rfl⟩
 obtain ⟨r3,h3⟩:∃ r,cmpS xp yp=r:=⟨_,rfl⟩
 obtain ⟨r,hr⟩:∃ r,ordW ⟨xs,xp,xk⟩ ⟨ys,yp,yk⟩=r:=⟨_,rfl⟩
 have HO:Hid (orI [r1,r2,r3]=r):=by show _=_;rw [← hr,← h1,← h2,← h3];rfl
 have HC1:=Lib.hid (fun W=>cmpI64_any xs ys W)
 have HC2:=Lib.hid (fun W=>cmpInt_any xk yk W)
 have HC3:=Lib.hid (fun W=>cmpStr_any xp yp W)
 rw [hr]
 rw [h1] at HC1
 rw [h2] at HC2
 rw [h3] at HC3
 clear h1 h2 h3 hr
 go_enter Tryz.func211,Tryz.ntmps211
 go_upto_region 1 with (fail)
 obtain ⟨wX,hwX⟩:∃ wX,(w.alloc (.cells #[.int .i64 xs, .string xp, .int .i64 xk] 214)).alloc (.cells #[.int .i64 ys, .string yp, .int .i64 yk] 214)=wX:=⟨_,rfl⟩
 have hg:Gw w wX:=by rw [← hwX];exact ((Gw.refl w).alloc _).alloc _
 have b1:Blk wX w.heap.size #[.int .i64 xs, .string xp, .int .i64 xk] 214:=by rw [← hwX];exact Blk.kp (S:=fun _=>False) (heap_alloc_new w _) ((Kp.refl _ _).alloc _) (fun f=>f)
 have b2:Blk wX (w.heap.size+1) #[.int .i64 ys, .string yp, .int .i64 yk] 214:=by
  rw [← hwX]
  have:=heap_alloc_new (w.alloc (.cells #[.int .i64 xs, .string xp, .int .i64 xk] 214)) (.cells #[.int .i64 ys, .string yp, .int .i64 yk] 214)
  simpa [Blk] using this
 have HG:=Lib.hid hg
 have HB1:=Lib.hid b1
 have HB2:=Lib.hid b2
 simp only [hwX]
 clear hg b1 b2 hwX
 refine' wp_region_dagG ((4, .val _)::(5, .val _)::(6, .val _)::(7, .val _)::(8, .val _)::(9, .val _)::(10, .val _)::(11, .val _)::(12, .val _)::(13, .val _)::(14, .val _)::(15, .val _)::(16, .val _)::(17, .val _)::(18, .val _)::(19, .val _)::(20,⟨fun _=>True,fun v w=>Sl w 1 v 3 [.int .i64 r1, .int .i64 r2, .int .i64 r3]⟩)::(21, .val _)::[]) (by exact ⟨fun _ _ _ _ _=>trivial,⟨fun _ _ _ _ _=>trivial,⟨fun _ _ _ _ _=>trivial,⟨fun _ _ _ _ _=>trivial,⟨fun _ _ _ _ _=>trivial,⟨fun _ _ _ _ _=>trivial,⟨fun _ _ _ _ _=>trivial,⟨fun _ _ _ _ _=>trivial,⟨fun _ _ _ _ _=>trivial,⟨fun _ _ _ _ _=>trivial,⟨fun _ _ _ _ _=>trivial,⟨fun _ _ _ _ _=>trivial,⟨fun _ _ _ _ _=>trivial,⟨fun _ _ _ _ _=>trivial,⟨fun _ _ _ _ _=>trivial,⟨fun _ _ _ _ _=>trivial,⟨fun _ _ _ hr hv=>Sl.ext hv hr.ext,⟨fun _ _ _ _ _=>trivial,trivial⟩⟩⟩⟩⟩⟩⟩⟩⟩⟩⟩⟩⟩⟩⟩⟩⟩⟩) (by kernel_rfl) (by kernel_rfl) (by kernel_rfl) ?_
 rotate_left 17
 repeat (first
  | (refine wpD_skipv ?_ ?_ ?_
     focus rfl
     focus rfl
     simp only [Act.put,List.setIfInBounds_toArray,List.set_cons_succ,List.set_cons_zero])
  | (refine' wpD_val (c:=_) ?_ (fun w=>Gw.refl w) ?_ (fun wq hwq hfq=>?_) ?_
     rotate_left
     focus rfl
     focus rfl
     focus (have e0:=(HB1.out.kp hwq.ext (fun f=>f)).cell 0 _ rfl;have e1:=(HB1.out.kp hwq.ext (fun f=>f)).cell 1 _ rfl;have e2:=(HB1.out.kp hwq.ext (fun f=>f)).cell 2 _ rfl;have f0:=(HB2.out.kp hwq.ext (fun f=>f)).cell 0 _ rfl;have f1:=(HB2.out.kp hwq.ext (fun f=>f)).cell 1 _ rfl;have f2:=(HB2.out.kp hwq.ext (fun f=>f)).cell 2 _ rfl;go_simp;first|done|rfl)
     simp only [Act.put,List.setIfInBounds_toArray,List.set_cons_succ,List.set_cons_zero])
  | (refine' wpD_con (c:=_) ?_ ?_ (fun wq hwq hfq=>?_) ?_
     rotate_left
     focus rfl
     focus rfl
     focus (have e0:=(HB1.out.kp hwq.ext (fun f=>f)).cell 0 _ rfl;have e1:=(HB1.out.kp hwq.ext (fun f=>f)).cell 1 _ rfl;have e2:=(HB1.out.kp hwq.ext (fun f=>f)).cell 2 _ rfl;have f0:=(HB2.out.kp hwq.ext (fun f=>f)).cell 0 _ rfl;have f1:=(HB2.out.kp hwq.ext (fun f=>f)).cell 1 _ rfl;have f2:=(HB2.out.kp hwq.ext (fun f=>f)).cell 2 _ rfl;go_simp;(try (rw [dUpon_enter]));first|((have hc:=or_any v20 [r1,r2,r3] wq (hfq 20 rfl));(with_reducible refine hc.mono ?_);rintro e w' ⟨rfl,rfl⟩;rw [HO.out];exact DEnd.con (Gw.refl _))|((with_reducible refine (HC1.out _).mono ?_);rintro e w' ⟨rfl,rfl⟩;exact DEnd.con (Gw.refl _))|((with_reducible refine (HC2.out _).mono ?_);rintro e w' ⟨rfl,rfl⟩;exact DEnd.con (Gw.refl _))|((with_reducible refine (HC3.out _).mono ?_);rintro e w' ⟨rfl,rfl⟩;exact DEnd.con (Gw.refl _)))
     simp only [Act.put,List.setIfInBounds_toArray,List.set_cons_succ,List.set_cons_zero])
  | (refine wpD_made (A:=fun _=>True) (V:=fun v w=>Sl w 1 v 3 [.int .i64 r1, .int .i64 r2, .int .i64 r3]) 20 ?_ ?_ ?_ ?_ (fun wq hwq hfq=>?_) (fun v20 h20=>?_)
     focus rfl
     focus rfl
     focus (exact ⟨undef,trivial⟩)
     focus rfl
     focus (have e0:=(HB1.out.kp hwq.ext (fun f=>f)).cell 0 _ rfl;have e1:=(HB1.out.kp hwq.ext (fun f=>f)).cell 1 _ rfl;have e2:=(HB1.out.kp hwq.ext (fun f=>f)).cell 2 _ rfl;have f0:=(HB2.out.kp hwq.ext (fun f=>f)).cell 0 _ rfl;have f1:=(HB2.out.kp hwq.ext (fun f=>f)).cell 1 _ rfl;have f2:=(HB2.out.kp hwq.ext (fun f=>f)).cell 2 _ rfl;go_simp;(try (rw [dUpon_enter]));rw [dUpon_value];exact mPost trivial (Sl.of_block (heap_alloc_new wq _) rfl (by decide) (Nat.le_refl _)) ((Gw.refl _).alloc _))
     clear h20
     simp only [Act.put,List.setIfInBounds_toArray,List.set_cons_succ,List.set_cons_zero])
  | fail)
 refine wpD_nil ?_
 intro w1 hx1 _
 go_wp2_with (fail)
 go_ret
 go_light
 exact ⟨rfl,HG.out.trans hx1⟩
set_option maxHeartbeats 1600000 in
theorem event_any (x:Wt) (p up:ByteArray) (ch:Int) (w:World):Calls Tryz.prog 213 #[.agg (wcell x).toArray, .string p, .string up, .int .i64 ch] w fun e w'=>e=.returned (.int .i64 (evG p up ch x))∧Ext w w':=by
 obtain ⟨xs,xp,xk⟩:=x
 have a1:=str_eq xp p
 have a2:=str_eq xp up
 obtain ⟨r,hr⟩:∃ r,evG p up ch ⟨xs,xp,xk⟩=r:=⟨_,rfl⟩
 rw [hr]
 obtain ⟨c1,hc1⟩:∃ c,decide (xp=p)=c:=⟨_,rfl⟩
 obtain ⟨c2,hc2⟩:∃ c,decide (xp=up)=c:=⟨_,rfl⟩
 obtain ⟨c3,hc3⟩:∃ c,decide (up=⟨#[]⟩)=c:=⟨_,rfl⟩
 rw [hc1] at a1
 rw [hc2] at a2
 have hl3:up.toList.isEmpty=c3:=by rw [← hc3,Lib.toList_data,Bool.eq_iff_iff,decide_eq_true_iff,List.isEmpty_iff];exact ⟨fun h=>Av.bs_inj h,fun h=>by rw [h]⟩
 have HR:Hid (r=if xk=1∧c1=true then ch else if (xk=2∧ch=2)∧c1=true then ch else if ((xk=2∧ch≠3)∧c3=false)∧c2=true then 4 else 0):=by
  show _=_
  rw [← hr,← hc1,← hc2,← hc3];unfold evG;simp
 clear hr hc1 hc2 hc3
 go_enter Tryz.func213,Tryz.ntmps213
 have a3:up.toList.isEmpty=c3:=hl3
 cases c3 with
 | true=>
   have a4:up.toList=[]:=List.isEmpty_iff.1 a3
   clear hl3
   cases c1<;>cases c2
   all_goals
    go_wp2_with (fail)
    all_goals
     go_ret
     go_light
     refine ⟨?_,(Kp.refl _ _).alloc _⟩
     have h:=HR.out
     simp [*] at h
     simp [h]
 | false=>
   have a4:¬ up.toList=[]:=fun h=>by rw [h] at a3;cases a3
   clear hl3
   cases c1<;>cases c2
   all_goals
    go_wp2_with (fail)
    all_goals
     go_ret
     go_light
     refine ⟨?_,(Kp.refl _ _).alloc _⟩
     have h:=HR.out
     simp [*] at h
     simp [h]
end Go.Proofs.YtnlefnhdhigecaaGreatDoor

namespace Go.Proofs.YtnlefnhdhigecaaGreatDoor
set_option maxRecDepth 100000
open Go.RowKit Av Go.Shelf Go.Lib
theorem eqWt:EqlAt Tryz.prog 214 (fun x:Wt=>.agg (wcell x).toArray) (fun x y=>decide (x=y)):=by
 refine ⟨fun x y w=>?_,GuardAt.agg _ (by kernel_rfl)⟩
 have u2:=Tryz.underlying2
 have a2:=Tryz.isAgg2
 have z2:=Tryz.sizeOf2
 have u3:=Tryz.underlying3
 have a3:=Tryz.isAgg3
 have z3:=Tryz.sizeOf3
 have u9:=Tryz.underlying9
 have a9:=Tryz.isAgg9
 have z9:=Tryz.sizeOf9
 have hS:Tryz.prog.underlying 214=some (.struct (Tryz.prog.fieldsOf 214)):=by kernel_rfl
 have hp:Tryz.prog.stoodInHeld 214=false:=by kernel_rfl
 obtain ⟨xs,xp,xk⟩:=x
 obtain ⟨ys,yp,yk⟩:=y
 have hq:=str_eq xp yp
 rw [run_eql_struct,show (10000:Nat)=9999+1 from rfl,run_equalIn_agg w 9999 214 _ _ hS hp]
 simp only [Program.fieldsOf,Tryz.underlying214]
 go_simp
 by_cases h1:xs=ys<;>by_cases h2:xp=yp<;>by_cases h3:xk=yk<;>simp [h1,h2,h3] at hq ⊢
 all_goals simp [hq]
set_option maxHeartbeats 800000 in
theorem index_none (a:Option Addr) (c:Nat) (x:Wt) (w:World):Calls Tryz.prog 171 #[.slice a 0 c, .agg (wcell x).toArray] w fun e w'=>e=.returned (.int .i64 (-1))∧Ext w w':=by
 go_enter Tryz.func171,Tryz.ntmps171
 go_wp2_with (fail)
 refine wp_loop_rounds 1 ?_
 rw [rounds_succ]
 go_wp2_with (fail)
 go_ret
 exact ⟨rfl,(Kp.refl _ _).alloc _⟩
set_option maxHeartbeats 800000 in
theorem contains_any (v:Value) (xs:List Wt) (x:Wt) (w:World) (h:Sl w 3 v xs.length (xs.flatMap wcell)) :
  Calls Tryz.prog 133 #[v, .agg (wcell x).toArray] w fun e w'=>e=.returned (.bool (decide (x∈xs)))∧Ext w w':=by
 obtain ⟨a,c,rfl,hcc,hm,hop⟩:=Sl.rows (f:=wcell) (K:=3) (fun _=>rfl) h
 unfold maxLen at hm
 by_cases h0:0<xs.length
 ·obtain ⟨b,off,rfl,hb,hc⟩:=hop h0
  have hcon:=AnyQ.slices_Contains Tryz.containsW 3 Tryz.isAgg214 Tryz.sizeOf214 wcell (fun _=>rfl) _ eqWt b off xs.length c xs x w (Nat.le_refl _) (by omega) (fun j hj i v hi=>by
   have hi3:i<3:=by have:=(List.getElem?_eq_some_iff.1 hi).1;simpa using this
   rw [getElem!_pos xs j hj] at hi
   exact hc j hj i v hi3 hi)
  change Calls Tryz.prog 133 _ _ _ at hcon
  refine hcon.mono ?_
  rintro e w' ⟨rfl,hbw⟩
  refine ⟨?_,Kp.of_below hbw⟩
  congr 2
  rw [List.take_length,Bool.eq_iff_iff]
  simp
 ·have hn:xs=[]:=List.eq_nil_of_length_eq_zero (by omega)
  subst hn
  clear hop h0 h
  obtain ⟨xs,xp,xk⟩:=x
  have HI:=Lib.hid (fun W=>index_none a c ⟨xs,xp,xk⟩ W)
  go_enter Tryz.func133,Tryz.ntmps133
  go_wp2_with (fail)
  refine (HI.out _).mono ?_
  rintro e w1 ⟨rfl,hx1⟩
  go_wp2_with (fail)
  go_ret
  exact ⟨by simp,((Kp.refl _ _).alloc _).trans hx1⟩
end Go.Proofs.YtnlefnhdhigecaaGreatDoor

namespace Go.Proofs.YtnlefnhdhigecaaGreatDoor
set_option maxRecDepth 100000
open Go.RowKit Av
structure Asked (g:Nat) (lb:Array Value) (p:Wt→Bool) (S0:Nat→Prop) (base rb:Nat) (Inv:List Wt→Option Nat→World→Prop):Prop where
 eg:∀ args w,(callFunc g args).run Tryz.prog w=.ok (.enter g args) w
 call:∀ seen cur x W,seen.length<100000→Inv seen cur W→Calls Tryz.prog g (#[.agg (wcell x).toArray]++lb) W fun e w'=>e=.returned (.bool (p x))∧∃ cur',Inv (seen++[x]) cur' w'∧Kp (fun i=>S0 i∨cur=some i) W w'
 kp:∀ seen cur W W',Inv seen cur W→Kp (fun i=>i=rb) W W'→Inv seen cur W'
 cur:∀ seen cur W i,Inv seen cur W→cur=some i→base≤i∧i<W.heap.size∧i≠rb
 s0:∀ i,S0 i→i≠rb∧i<base
def FoundW (p:Wt→Bool) (Inv:List Wt→Option Nat→World→Prop) (xs:List Wt) (e:Ending) (w':World):Prop:=
 (e=.returned (.int .i64 (-1))∧(∀ x∈xs,p x=false)∧∃ cur,Inv xs cur w')∨∃ k:Nat,∃ hk:k<xs.length,e=.returned (.int .i64 k)∧(∀ x∈xs.take k,p x=false)∧p xs[k]=true∧∃ cur,Inv (xs.take (k+1)) cur w'
def IFRel (p:Wt→Bool) (S0:Nat→Prop) (base:Nat) (Inv:List Wt→Option Nat→World→Prop) (xs:List Wt) (w:World) (i:Value) (wr:World):Prop:=
 ∃ k:Nat,k≤xs.length∧i=.int .i64 k∧(∀ x∈xs.take k,p x=false)∧(∃ cur,Inv (xs.take k) cur wr)∧Kp (fun i=>S0 i∨base≤i) w wr
set_option maxHeartbeats 1600000 in
theorem indexFunc_any {g:Nat} {lb:Array Value} {p:Wt→Bool} {S0:Nat→Prop} {base rb:Nat} {Inv:List Wt→Option Nat→World→Prop} (hA:Asked g lb p S0 base rb Inv) (ad:Option Addr) (xs:List Wt) (cap:Nat) (w:World)
  (had:xs≠[]→ad=some ⟨rb,0,none⟩∧rb<base∧RowB w rb 214 3 cap (xs.flatMap wcell)) (hm:xs.length≤100000) (h0:∃ cur,Inv [] cur w) :
  Calls Tryz.prog 216 #[.slice ad xs.length cap, .func (.func g) #[] lb] w fun e w'=>FoundW p Inv xs e w'∧Kp (fun i=>S0 i∨base≤i) w w':=by
 have eg:=hA.eg
 have HAD:=Lib.hid had
 have H0:=Lib.hid h0
 have HA:=Lib.hid hA
 clear had h0 hA
 go_enter Tryz.func216,Tryz.ntmps216
 go_wp2_with (fail)
 go_loopw [8] (fun i wr=>IFRel p S0 base Inv xs w i wr) (fun i _=>xs.length - (intOf i).toNat)
 case atStart=>exact ⟨0,Nat.zero_le _,rfl,by simp,by simpa using H0.out,Kp.refl _ _⟩
 case round=>
  obtain ⟨k,hk,rfl,hall,⟨cur,hinv⟩,hkp⟩:=hrel
  have HALL:=Lib.hid hall
  have HK:=Lib.hid hkp
  have HI:=Lib.hid hinv
  clear hall hkp hinv
  by_cases hlt:k<xs.length
  ·have hne:xs≠[]:=by rintro rfl;simp at hlt
   obtain ⟨rfl,hrb,hrow⟩:=HAD.out hne
   have hrow2:RowB wr rb 214 3 cap (xs.flatMap wcell):=hrow.kp HK.out (fun f=>Or.elim f (fun h=>(HA.out.s0 rb h).1 rfl) (fun h=>by omega))
   have c0:=hrow2.cell (i:=k*3) (v:=.int .i64 xs[k].sess) (rowK_cell wcell 3 (fun _=>rfl) xs k hlt 0 (by decide))
   have c1:=hrow2.cell (i:=k*3+1) (v:=.string xs[k].path) (rowK_cell wcell 3 (fun _=>rfl) xs k hlt 1 (by decide))
   have c2:=hrow2.cell (i:=k*3+2) (v:=.int .i64 xs[k].kind) (rowK_cell wcell 3 (fun _=>rfl) xs k hlt 2 (by decide))
   have HC:=Lib.hid (HA.out.call (xs.take k) cur xs[k] wr (by rw [List.length_take];omega) HI.out)
   have HCUR:=Lib.hid (HA.out.cur (xs.take k) cur wr)
   have hcon:Calls Tryz.prog g (#[.agg #[.int .i64 xs[k].sess, .string xs[k].path, .int .i64 xs[k].kind]]++lb) wr fun e w'=>e=.returned (.bool (p xs[k]))∧∃ cur',Inv (xs.take (k+1)) cur' w'∧Kp (fun i=>S0 i∨base≤i) w w':=by
    refine HC.out.mono ?_
    rintro e w' ⟨rfl,cur',h1,h2⟩
    refine ⟨rfl,cur',by rw [List.take_succ_eq_append_getElem hlt];exact h1,HK.out.next h2 ?_⟩
    rintro i hi (h|h)
    ·exact .inl h
    ·exact .inr (HCUR.out i HI.out h).1
   have HCON:=Lib.hid hcon
   clear hcon hrow hrow2 hrb HC HCUR
   cases hp:p xs[k] with
   | true=>
     have HP:=Lib.hid hp
     rw [hp] at HCON
     clear hp
     go_wp2_with (go_at_fn g;refine HCON.out.mono ?_;rintro e w1 ⟨rfl,cur',h1,h2⟩;have H1:=Lib.hid h1;have H2:=Lib.hid h2;clear h1 h2)
     go_ret
     go_light
     exact ⟨.inr ⟨k,hlt,rfl,HALL.out,HP.out,cur',H1.out⟩,H2.out⟩
   | false=>
     have HP:=Lib.hid hp
     rw [hp] at HCON
     clear hp
     go_wp2_with (go_at_fn g;refine HCON.out.mono ?_;rintro e w1 ⟨rfl,cur',h1,h2⟩;have H1:=Lib.hid h1;have H2:=Lib.hid h2;clear h1 h2)
     go_light
     refine ⟨⟨k+1,by omega,by go_num,fun x hx=>?_,⟨cur',H1.out⟩,H2.out⟩,by simp [intOf];omega⟩
     rw [List.take_succ_eq_append_getElem hlt] at hx
     rcases List.mem_append.1 hx with hx|hx
     ·exact HALL.out x hx
     ·simp only [List.mem_singleton] at hx;subst hx;exact HP.out
  ·have e1:xs.take k=xs:=List.take_of_length_le (by omega)
   rw [e1] at HALL HI
   clear e1 HAD
   go_wp2_with (fail)
   go_ret
   go_light
   exact ⟨.inl ⟨rfl,HALL.out,cur,HI.out⟩,HK.out⟩
end Go.Proofs.YtnlefnhdhigecaaGreatDoor

namespace Go.Proofs.YtnlefnhdhigecaaGreatDoor
set_option maxRecDepth 100000
open Go.RowKit Av
theorem kept_snoc {p:Wt→Bool} {xs:List Wt} {j:Nat} (hj:j<xs.length):(xs.take (j+1)).filter (fun x=>!p x)=(xs.take j).filter (fun x=>!p x)++(if p xs[j] then [] else [xs[j]]):=by
 rw [List.take_succ_eq_append_getElem hj,List.filter_append]
 cases h:p xs[j]<;>simp [h]
theorem kept_start {p:Wt→Bool} {xs:List Wt} {k:Nat} (hk:k<xs.length) (hall:∀ x∈xs.take k,p x=false) (hp:p xs[k]=true):(xs.take (k+1)).filter (fun x=>!p x)=xs.take k:=by
 rw [kept_snoc hk,hp,if_pos rfl,List.append_nil,List.filter_eq_self]
 intro x hx;rw [hall x hx];rfl
structure DelSt (p:Wt→Bool) (xs dk:List Wt) (i j:Nat):Prop where
 hj:j≤xs.length
 hi:i=((xs.take j).filter (fun x=>!p x)).length
 lt:i<j
 len:dk.length=xs.length
 low:dk.take i=(xs.take j).filter (fun x=>!p x)
 high:dk.drop j=xs.drop j
theorem DelSt.at {p:Wt→Bool} {xs dk:List Wt} {i j:Nat} (h:DelSt p xs dk i j) (hlt:j<xs.length):dk[j]'(by rw [h.len];exact hlt)=xs[j]:=by
 have h1:=h.high
 rw [List.drop_eq_getElem_cons (by rw [h.len];exact hlt),List.drop_eq_getElem_cons hlt] at h1
 exact (List.cons.inj h1).1
theorem DelSt.skip {p:Wt→Bool} {xs dk:List Wt} {i j:Nat} (h:DelSt p xs dk i j) (hlt:j<xs.length) (hp:p xs[j]=true):DelSt p xs dk i (j+1):=by
 have hk:(xs.take (j+1)).filter (fun x=>!p x)=(xs.take j).filter (fun x=>!p x):=by rw [kept_snoc hlt,hp,if_pos rfl,List.append_nil]
 refine ⟨hlt,by rw [hk];exact h.hi,by have:=h.lt;omega,h.len,by rw [hk];exact h.low, ?_⟩
 have:=congrArg (List.drop 1) h.high
 simpa [List.drop_drop] using this
theorem DelSt.keep {p:Wt→Bool} {xs dk:List Wt} {i j:Nat} (h:DelSt p xs dk i j) (hlt:j<xs.length) (hp:p xs[j]=false):DelSt p xs (dk.set i xs[j]) (i+1) (j+1):=by
 have hk:(xs.take (j+1)).filter (fun x=>!p x)=(xs.take j).filter (fun x=>!p x)++[xs[j]]:=by rw [kept_snoc hlt,hp];rfl
 have hlt2:=h.lt
 have hlen:=h.len
 refine ⟨hlt,by rw [hk,List.length_append,← h.hi];rfl,by omega,by rw [List.length_set];exact h.len, ?_, ?_⟩
 ·rw [hk,← h.low,List.take_set,List.take_succ_eq_append_getElem (by omega:i<dk.length),List.set_append_right _ _ (by rw [List.length_take];omega)]
  congr 1
  rw [List.length_take,Nat.min_eq_left (by omega),Nat.sub_self];rfl
 ·have h2:(dk.set i xs[j]).drop (j+1)=dk.drop (j+1):=by rw [List.drop_set_of_lt (by omega)]
  rw [h2]
  have:=congrArg (List.drop 1) h.high
  simpa [List.drop_drop] using this
def DFRel (p:Wt→Bool) (S0:Nat→Prop) (base rb cap:Nat) (Inv:List Wt→Option Nat→World→Prop) (xs:List Wt) (w:World) (s5 s6:Value) (wr:World):Prop:=
 ∃ (i j:Nat) (dk:List Wt),s5=.int .i64 i∧s6=.int .i64 j∧DelSt p xs dk i j∧RowB wr rb 214 3 cap (dk.flatMap wcell)∧(∃ cur,Inv (xs.take j) cur wr)∧Kp (fun i=>(S0 i∨base≤i)∨i=rb) w wr
def DeldW (p:Wt→Bool) (base:Nat) (Inv:List Wt→Option Nat→World→Prop) (xs:List Wt) (ad:Option Addr) (cap:Nat) (e:Ending) (w':World):Prop:=
 e=.returned (.slice ad (xs.filter fun x=>!p x).length cap)∧w'.ownsRow base 214 3 (.slice ad (xs.filter fun x=>!p x).length cap) (xs.filter fun x=>!p x).length ((xs.filter fun x=>!p x).flatMap wcell)∧∃ cur,Inv xs cur w'
set_option maxHeartbeats 3200000 in
theorem deleteFunc_any {g:Nat} {lb:Array Value} {p:Wt→Bool} {S0:Nat→Prop} {base rb:Nat} {Inv:List Wt→Option Nat→World→Prop} (hA:Asked g lb p S0 base rb Inv) (rbase:Nat) (ad:Option Addr) (xs:List Wt) (cap:Nat) (w:World)
  (hown:w.ownsRow rbase 214 3 (.slice ad xs.length cap) xs.length (xs.flatMap wcell)) (had:∀ a,ad=some a→a.block=rb) (hrb:ad≠none→rb<base) (hb:base≤w.heap.size) (hm:xs.length≤100000) (h0:∃ cur,Inv [] cur w) :
  Calls Tryz.prog 176 #[.slice ad xs.length cap, .func (.func g) #[] lb] w fun e w'=>DeldW p rbase Inv xs ad cap e w'∧Kp (fun i=>(S0 i∨base≤i)∨i=rb) w w':=by
 have hrow:∀ a,ad=some a→ad=some ⟨rb,0,none⟩∧RowB w rb 214 3 cap (xs.flatMap wcell)∧xs.length≤cap∧cap≤maxLen∧rbase≤rb:=by
  intro a ha
  subst ha
  obtain ⟨b,rfl,h1,_,h3,h4,h5⟩:=RowB.of_owns hown
  have:=had _ rfl
  simp only at this
  subst this
  exact ⟨rfl,h1,h3,h4,h5⟩
 have hsome:xs≠[]→∃ a,ad=some a:=by
  intro hne
  cases ad with
  | some a=>exact ⟨a,rfl⟩
  | none=>
    exfalso
    obtain ⟨_,h2|⟨g,c,cur,hv,_⟩⟩:=hown
    ·exact hne (List.eq_nil_of_length_eq_zero h2.2)
    ·simp at hv
 have eg:=hA.eg
 have HIF:=Lib.hid (indexFunc_any hA ad xs cap w (fun hne=>by
  obtain ⟨a,ha⟩:=hsome hne
  obtain ⟨h1,h2,_⟩:=hrow a ha
  exact ⟨h1,hrb (by rw [ha];simp),h2⟩) hm h0)
 have hown1:∀ w1,Kp (fun i=>S0 i∨base≤i) w w1→w1.ownsRow rbase 214 3 (.slice ad xs.length cap) xs.length (xs.flatMap wcell):=by
  intro w1 hk
  refine ownsRow.kp hown hk ?_
  intro b hb h
  cases ad with
  | none=>simp [Value.ownBlock] at hb
  | some a=>
    have hab:a.block=b:=by simpa [Value.ownBlock] using hb
    have:=had a rfl
    rw [hab] at this
    subst this
    have hrb:=hrb (by simp)
    rcases h with h|h
    ·exact (hA.s0 _ h).1 rfl
    ·omega
 have HOWN:=Lib.hid hown1
 have HROW:=Lib.hid hrow
 have HSOME:=Lib.hid hsome
 have HA:=Lib.hid hA
 have HHB:=Lib.hid hb
 clear hown hown1 had hrow hsome hA h0
 go_enter Tryz.func176,Tryz.ntmps176
 go_wp2_with (fail)
 refine HIF.out.mono ?_
 rintro e w1 ⟨hf,hk1⟩
 have HK1:=Lib.hid hk1
 clear HIF hk1
 rcases hf with ⟨rfl,hall,hcur⟩|⟨k,hk,rfl,hall,hp,hcur⟩
 ·have HALL:=Lib.hid hall
  have HC:=Lib.hid hcur
  clear hall hcur
  go_wp2_with (fail)
  go_ret
  refine ⟨?_,HK1.out.mono (fun i _ h=>.inl h)⟩
  unfold DeldW
  rw [show xs.filter (fun x=>!p x)=xs from List.filter_eq_self.2 (fun x hx=>by rw [HALL.out x hx];rfl)]
  refine ⟨rfl, ?_,HC.out⟩
  exact HOWN.out _ HK1.out
 ·have hne:xs≠[]:=by rintro rfl;simp at hk
  obtain ⟨a,rfl⟩:=HSOME.out hne
  have hrb:=hrb (by simp)
  obtain ⟨h1,hrow,hcap,hcm,hrr⟩:=HROW.out a rfl
  simp only [Option.some.injEq] at h1
  subst h1
  have HC:=Lib.hid hcur
  have HROW1:Hid (RowB w1 rb 214 3 cap (xs.flatMap wcell)):=hrow.kp HK1.out (fun f=>Or.elim f (fun h=>(HA.out.s0 rb h).1 rfl) (fun h=>by omega))
  have HD:Hid (DelSt p xs xs k (k+1)):=by
   show DelSt p xs xs k (k+1)
   have hks:=kept_start hk hall hp
   exact ⟨hk,by rw [hks,List.length_take];omega,Nat.lt_succ_self _,rfl,by rw [hks],rfl⟩
  have HRR:=Lib.hid hrr
  have hne1:((k:Int) == -1)=false:=beq_eq_false_iff_ne.2 (by omega)
  unfold maxLen at hcm
  clear hall hp hcur hrow HROW HSOME HOWN hrr
  go_wp2_with (fail)
  go_loopw [5,6] (fun s5 s6 wr=>DFRel p S0 base rb cap Inv xs w s5 s6 wr) (fun _ s6 _=>xs.length - (intOf s6).toNat)
  case atStart=>exact ⟨k,k+1,xs,rfl,by go_num,HD.out,HROW1.out,HC.out,HK1.out.mono (fun i _ h=>.inl h)⟩
  case round=>
   clear HD HROW1 HC HK1 hk hne1
   obtain ⟨i,j,dk,rfl,rfl,hd,hrow,⟨cur,hinv⟩,hkp⟩:=hrel
   have hij:=hd.lt
   have hjn:=hd.hj
   have HD:=Lib.hid hd
   have HK:=Lib.hid hkp
   have HI:=Lib.hid hinv
   have HR:=Lib.hid hrow
   clear hd hkp hinv hrow
   by_cases hlt:j<xs.length
   ·have hlt2:j<dk.length:=by rw [HD.out.len];exact hlt
    have hat:=HD.out.at hlt
    have c0:=HR.out.cell (i:=j*3) (v:=.int .i64 xs[j].sess) (by rw [← hat];exact rowK_cell wcell 3 (fun _=>rfl) dk j hlt2 0 (by decide))
    have c1:=HR.out.cell (i:=j*3+1) (v:=.string xs[j].path) (by rw [← hat];exact rowK_cell wcell 3 (fun _=>rfl) dk j hlt2 1 (by decide))
    have c2:=HR.out.cell (i:=j*3+2) (v:=.int .i64 xs[j].kind) (by rw [← hat];exact rowK_cell wcell 3 (fun _=>rfl) dk j hlt2 2 (by decide))
    obtain ⟨x,hx⟩:∃ x,xs[j]=x:=⟨_,rfl⟩
    rw [hx] at c0 c1 c2
    have HX:=Lib.hid hx
    clear hx hat
    obtain ⟨W2,hW2⟩:∃ W2,wr.alloc (.cells #[.int .i64 x.sess, .string x.path, .int .i64 x.kind] 214)=W2:=⟨_,rfl⟩
    have hx2:Ext wr W2:=by rw [← hW2];exact (Kp.refl _ _).alloc _
    have hb2:Blk W2 wr.heap.size #[.int .i64 x.sess, .string x.path, .int .i64 x.kind] 214:=by rw [← hW2];exact heap_alloc_new wr _
    have hwr:w.heap.size≤wr.heap.size:=HK.out.size
    have hcon:Calls Tryz.prog g (#[.agg #[.int .i64 x.sess, .string x.path, .int .i64 x.kind]]++lb) W2 fun e w'=>e=.returned (.bool (p x))∧(∃ cur',Inv (xs.take (j+1)) cur' w')∧Kp (fun i=>(S0 i∨base≤i)∨i=rb) w w'∧RowB w' rb 214 3 cap (dk.flatMap wcell)∧Blk w' wr.heap.size #[.int .i64 x.sess, .string x.path, .int .i64 x.kind] 214:=by
     have hi2:=HA.out.kp _ _ wr W2 HI.out hx2.kp
     have hcu:=HA.out.cur (xs.take j) cur wr
     refine (HA.out.call (xs.take j) cur x W2 (by rw [List.length_take];omega) hi2).mono ?_
     rintro e w' ⟨rfl,cur',h1,h2⟩
     refine ⟨rfl,⟨cur',by rw [List.take_succ_eq_append_getElem hlt,HX.out];exact h1⟩,(HK.out.ext hx2).next h2 ?_,(HR.out.kp hx2 (fun f=>f)).kp h2 ?_,hb2.kp h2 ?_⟩
     ·rintro i hi (h|h)
      ·exact .inl (.inl h)
      ·exact .inl (.inr (hcu i HI.out h).1)
     ·intro f
      rcases f with h|h
      ·exact (HA.out.s0 _ h).1 rfl
      ·exact (hcu rb HI.out h).2.2 rfl
     ·intro f
      rcases f with h|h
      ·have:=(HA.out.s0 _ h).2;have:=HHB.out;omega
      ·exact absurd (hcu _ HI.out h).2.1 (Nat.lt_irrefl _)
    have HCON:=Lib.hid hcon
    have hil:i<dk.length:=by omega
    have HD0:=Lib.hid (rowK_cell wcell 3 (fun _=>rfl) dk i hil)
    have g0:=hb2.cell 0 _ rfl
    have g1:=hb2.cell 1 _ rfl
    have g2:=hb2.cell 2 _ rfl
    clear hcon hx2 hb2 hwr hlt2
    go_upto_region 8 with (fail)
    cases hp:p x with
    | true=>
      have HP:=Lib.hid hp
      rw [hp] at HCON
      clear hp hW2
      go_wp2_with (go_at_fn g;refine HCON.out.mono ?_;rintro e w2 ⟨rfl,h1,h2,h3,h4⟩;have H1:=Lib.hid h1;have H2:=Lib.hid h2;have H3:=Lib.hid h3;clear h1 h2 h3 h4)
      go_light
      exact ⟨⟨i,j+1,dk,rfl,by go_num,HD.out.skip hlt (by rw [HX.out];exact HP.out),H3.out,H1.out,H2.out⟩,by simp [intOf];omega⟩
    | false=>
      have HP:=Lib.hid hp
      rw [hp] at HCON
      clear hp hW2
      go_wp2_with (go_at_fn g;refine HCON.out.mono ?_;rintro e w2 ⟨rfl,h1,h2,h3,h4⟩;have H1:=Lib.hid h1;have H2:=Lib.hid h2;have H3:=Lib.hid h3;have e0:=h4.cell 0 _ rfl;have e1:=h4.cell 1 _ rfl;have e2:=h4.cell 2 _ rfl;have d0:=h3.cell (i:=i*3) (v:=.int .i64 dk[i].sess) (HD0.out 0 (by decide));have d1:=h3.cell (i:=i*3+1) (v:=.string dk[i].path) (HD0.out 1 (by decide));have d2:=h3.cell (i:=i*3+2) (v:=.int .i64 dk[i].kind) (HD0.out 2 (by decide));have r0:=h3.free (i*3);have r1:=h3.free (i*3+1);have r2:=h3.free (i*3+2);clear h1 h2 h3 h4)
      go_light
      obtain ⟨cur',hi'⟩:=H1.out
      refine ⟨⟨i+1,j+1,dk.set i x,by go_num,by go_num, ?_, ?_,⟨cur',HA.out.kp _ _ w2 _ hi' (kp_set3 (S:=fun i=>i=rb) (Kp.refl _ _) rb _ _ _ _ rfl)⟩,kp_set3 H2.out rb _ _ _ _ (.inr rfl)⟩,by simp [intOf];omega⟩
      ·have:=HD.out.keep hlt (by rw [HX.out];exact HP.out)
       rwa [HX.out] at this
      ·have:=((H3.out.set (i*3) (.int .i64 x.sess)).set (i*3+1) (.string x.path)).set (i*3+2) (.int .i64 x.kind)
       rwa [flat_set3 wcell x _ _ _ rfl (fun _=>rfl)] at this
   ·have hj2:j=xs.length:=by omega
    subst hj2
    have hlen:=HD.out.len
    have hfl:=flat_len wcell 3 (fun _=>rfl) dk
    obtain ⟨vs,hvl,hclr⟩:=run_clear_rows (P:=Tryz.prog) wr 202 214 _ 3 rfl (by decide) Tryz.underlying202 Tryz.zeroValue214 (by intro v hv;simp [Value.cells] at hv;rcases hv with rfl|rfl|rfl<;>rfl) rb (i*3) (xs.length - i) (cap - i) (by omega)
     (fun q hq=>by
       have:i*3+q<(dk.flatMap wcell).length:=by rw [hfl];omega
       rw [HR.out.cell (List.getElem?_eq_getElem this)];rfl)
     (fun q _=>HR.out.free _)
    have HV:=Lib.hid hvl
    clear hlen hfl
    go_wp2_with (fail)
    go_ret
    obtain ⟨cur',hi'⟩:∃ cur',Inv xs cur' wr:=⟨cur,by have:=HI.out;rwa [List.take_length] at this⟩
    have hk:dk.take i=xs.filter (fun x=>!p x):=by have:=HD.out.low;rwa [List.take_length] at this
    have hil:i=(xs.filter fun x=>!p x).length:=by have:=HD.out.hi;rwa [List.take_length] at this
    have hrow:=RowB.setCells vs (i*3) HR.out
    have hlen:=HD.out.len
    have ho:=hrow.owns (m:=i) (base:=rbase) (by rw [setMs_len,flat_len wcell 3 (fun _=>rfl)];omega) (by omega) (by unfold maxLen;omega) HRR.out
    rw [setMs_take _ _ _ _ (Nat.le_refl _),flat_take wcell 3 (fun _=>rfl),hk] at ho
    refine ⟨⟨by rw [← hil];rfl, ?_,cur',HA.out.kp _ _ wr _ hi' (kp_setCells _ _ _)⟩,HK.out.next (kp_setCells vs wr (i*3)) (fun q _ e=>.inr e)⟩
    rw [← hil]
    exact ho
end Go.Proofs.YtnlefnhdhigecaaGreatDoor

namespace Av
set_option maxRecDepth 100000
open Go Go.RowKit Go.Sort Go.Proofs
theorem flatK_list {α:Type} [Inhabited α] (f:α→List Value) (K:Nat) (h0:0<K) (hf:∀ x,(f x).length=K) (xs:List α):(flatK f K xs.toArray).toList=xs.flatMap f:=by
 apply List.ext_getElem
 ·rw [flat_len f K hf];simp
 ·intro t h1 h2
  have ht:t<xs.length*K:=by rw [flat_len f K hf] at h2;exact h2
  have hd:t / K<xs.length:=(Nat.div_lt_iff_lt_mul h0).2 ht
  have hm:t % K<K:=Nat.mod_lt _ h0
  have e1:=rowK_cell f K hf xs (t / K) hd (t % K) hm
  have et:t / K*K+t % K=t:=by rw [Nat.mul_comm];exact Nat.div_add_mod t K
  rw [et,List.getElem?_eq_getElem h2,List.getElem?_eq_getElem (by rw [hf];exact hm)] at e1
  have e2:=Option.some.inj e1
  rw [e2]
  have e3:=get_flatK f K xs.toArray t (by simpa using ht)
  rw [getElem!_pos (flatK f K xs.toArray) t (by simpa using ht),getElem!_pos xs.toArray (t / K) (by simpa using hd)] at e3
  rw [Array.getElem_toList,e3]
  simp only [List.getElem_toArray]
  rw [getElem!_pos (f xs[t / K]) (t % K) (by rw [hf];exact hm)]
theorem RowB.holds {α:Type} [Inhabited α] {f:α→List Value} {K:Nat} (h0:0<K) (hf:∀ x,(f x).length=K) {w:World} {b cap:Nat} {e:TypeId} {xs:List α} (h:RowB w b e K cap (xs.flatMap f)):HoldsK f K w b 0 xs.toArray:=by
 intro j hj
 have hl:=flatK_list f K h0 hf xs
 refine ⟨?_,h.free _⟩
 rw [Nat.zero_add]
 refine h.cell ?_
 rw [← hl,getElem!_pos _ j hj,Array.getElem?_toList,Array.getElem?_eq_getElem hj]
 rfl
theorem RowB.sorted {α:Type} [Inhabited α] {f:α→List Value} {K:Nat} (h0:0<K) (hf:∀ x,(f x).length=K) {w:World} {b cap:Nat} {e:TypeId} {xs ys:List α} (h:RowB w b e K cap (xs.flatMap f)) (hl:ys.length=xs.length) (n:Nat) (os:Array Obj) :
  RowB (sortWorldK f K w b 0 n ys.toArray os) b e K cap (ys.flatMap f)∧Kp (fun i=>i=b) w (sortWorldK f K w b 0 n ys.toArray os):=by
 have hlt:=h.lt
 have hlen:=h.len
 rw [flat_len f K hf,← hl] at hlen
 have hfl:=flatK_list f K h0 hf ys
 obtain ⟨cur,h1,h2,h3⟩:=h
 have hget:∀ k,k<w.heap.size→(sortWorldK f K w b 0 n ys.toArray os).heap[k]? = (w.heap.modify b (onCells (putCells id 0 (flatK f K ys.toArray))))[k]?:=by
  intro k hk
  show ((w.heap.modify b (onCells (putCells id 0 (flatK f K ys.toArray))))++os)[k]? = _
  rw [Array.getElem?_append_left (by simpa using hk)]
 constructor
 ·refine ⟨putCells id 0 (flatK f K ys.toArray) cur, ?_,by simpa [putCells] using h2, ?_⟩
  ·rw [hget b hlt,Array.getElem?_modify,if_pos rfl,h1];rfl
  ·rw [← hfl]
   apply List.ext_getElem?
   intro t
   rw [List.getElem?_take]
   by_cases ht:t<(flatK f K ys.toArray).toList.length
   ·rw [if_pos ht]
    have ht2:t<(flatK f K ys.toArray).size:=by simpa using ht
    have ht3:t<cur.size:=by have:(flatK f K ys.toArray).size=ys.length*K:=by simp
                            omega
    rw [Array.getElem?_toList,Array.getElem?_toList,Array.getElem?_eq_getElem ht2]
    simp only [putCells,Array.getElem?_mapIdx,Array.getElem?_eq_getElem ht3,Option.map_some]
    rw [if_pos ⟨Nat.zero_le _,by omega⟩,Nat.sub_zero,getElem!_pos _ t ht2]
    rfl
   ·rw [if_neg ht,List.getElem?_eq_none (by omega)]
 ·refine ⟨rfl,rfl,rfl, ?_,fun k hk hs=>?_⟩
  ·show w.heap.size≤((w.heap.modify b _)++os).size
   simp
  ·rw [hget k hk,Array.getElem?_modify,if_neg (fun e=>hs e.symm)]
end Av

namespace Go.Proofs.YtnlefnhdhigecaaGreatDoor
set_option maxRecDepth 100000
open Go.RowKit Av Go.Shelf Go.Sort
theorem wcell_one (x:Wt) (v:Value) (hv:v∈wcell x):v.oneCell'=true:=by
 simp [wcell] at hv
 rcases hv with rfl|rfl|rfl<;>rfl
theorem ltOf_ordW (x y:Wt):ltOf ordW x y=ltW x y:=ordW_lt x y
theorem ltOf_ordW':ltOf ordW=ltW:=funext fun x=>funext fun y=>ordW_lt x y
theorem swoW:SWO (ltOf ordW) where
 irrefl x:=by rw [ltOf_ordW];exact ltW_irrefl x
 trans x y z h1 h2:=by rw [ltOf_ordW] at *;exact ltW_trans h1 h2
 ntrans x y z h1 h2:=by rw [ltOf_ordW] at *;exact ltW_ntrans h1 h2
theorem sort_any (ad:Option Addr) (cap:Nat) (xs:List Wt) (w:World) (base:Nat) (hown:w.ownsRow base 214 3 (.slice ad xs.length cap) xs.length (xs.flatMap wcell)) (hn:xs.length≤100000) :
  Calls Tryz.prog 210 #[.slice ad xs.length cap, .func (.func 211) #[] #[]] w fun e w'=>
   e=.returned (.tuple #[])∧w'.ownsRow base 214 3 (.slice ad (sortW xs).length cap) (sortW xs).length ((sortW xs).flatMap wcell)∧Kp (fun i=>∃ a,ad=some a∧a.block=i) w w':=by
 cases xs with
 | nil=>
   have hcon:=AnyF.slices_SortFunc_none { Tryz.sortFW with } ad cap (.func (.func 211) #[] #[]) w
   change Calls Tryz.prog 210 _ _ _ at hcon
   refine hcon.mono ?_
   rintro e w' ⟨rfl,rfl⟩
   refine ⟨rfl, ?_,Kp.refl _ _⟩
   have:sortW []=[]:=List.eq_nil_of_length_eq_zero (sortW_len [])
   rw [this];exact hown
 | cons x r=>
   obtain ⟨a,rfl⟩:∃ a,ad=some a:=by
    cases ad with
    | some a=>exact ⟨a,rfl⟩
    | none=>obtain ⟨_,h|⟨g,c,cur,hv,_⟩⟩:=hown
            ·simp at h
            ·simp at hv
   obtain ⟨b,rfl,hrow,hlen,hnc,hcm,hbb⟩:=RowB.of_owns hown
   generalize hxs:x::r=xs at *
   have eg:∀ args w,(callFunc 211 args).run Tryz.prog w=.ok (.enter 211 args) w:=enters_of Tryz.func211 (by kernel_rfl) rfl
   have hcmp:CmpLays Tryz.prog 211 #[] wcell 3 ordW b 0 xs.toArray.size w:=fun m os dk _ x y=>(order_any x y _).mono fun e w' h=>⟨h.1,h.2.grow⟩
   have hcon:=AnyQ.slices_SortFunc_total Tryz.sortFW 3 Tryz.isAgg214 Tryz.sizeOf214 wcell (fun _=>rfl) wcell_one ordW swoW 211 #[] b 0 cap xs.toArray w eg hcmp (RowB.holds (f:=wcell) (K:=3) (by decide) (fun _=>rfl) hrow) hrow.lt (by simp;omega) (fun x y h1 h2=>ltW_total (by rw [← ltOf_ordW];exact h1) (by rw [← ltOf_ordW];exact h2))
   change Calls Tryz.prog 210 #[.slice (some ⟨b,0,none⟩) xs.length cap, .func (.func 211) #[] #[]] _ _ at hcon
   refine hcon.mono ?_
   rintro e w' ⟨rfl,n,os,rfl⟩
   have hs:(xs.toArray.toList.mergeSort fun x y=>!(ltOf ordW) y x)=sortW xs:=by
    unfold sortW;rw [ltOf_ordW']
   rw [hs]
   obtain ⟨h1,h2⟩:=RowB.sorted (f:=wcell) (K:=3) (by decide) (fun _=>rfl) hrow (sortW_len xs) n os
   refine ⟨rfl, ?_,h2.mono (fun i _ e=>⟨_,rfl,e.symm⟩)⟩
   have:=h1.owns (m:=(sortW xs).length) (base:=base) (by rw [flat_len wcell 3 (fun _=>rfl)];exact Nat.le_refl _) (by rw [sortW_len];exact hnc) hcm hbb
   rwa [flat_take wcell 3 (fun _=>rfl),List.take_length] at this
end Go.Proofs.YtnlefnhdhigecaaGreatDoor

namespace Go.Proofs.YtnlefnhdhigecaaGreatDoor
set_option maxRecDepth 100000
open Go.RowKit Av
abbrev wlT:TypeId:=204
theorem own_slice (a:Option Addr) (n m c c':Nat):(Value.slice a n c).ownBlock=(Value.slice a m c').ownBlock:=by cases a<;>rfl
def WL (w:World) (b:Nat) (ro:Option Nat) (room:Nat) (l:List Wt):Prop:=
 ∃ v,Blk w b #[.int .i64 room,v] wlT∧w.ownsRow 0 214 3 v l.length (l.flatMap wcell)∧v.ownBlock=ro∧∀ i,ro=some i→i≠b
theorem WL.kp {S:Nat→Prop} {w w':World} {b room:Nat} {ro:Option Nat} {l:List Wt} (h:WL w b ro room l) (k:Kp S w w') (hb:¬ S b) (hr:∀ i,ro=some i→¬ S i):WL w' b ro room l:=by
 obtain ⟨v,h1,h2,h3,h4⟩:=h
 exact ⟨v,h1.kp k hb,ownsRow.kp h2 k (fun i hi=>hr i (by rw [← h3,hi])),h3,h4⟩
theorem WL.ext {w w':World} {b room:Nat} {ro:Option Nat} {l:List Wt} (h:WL w b ro room l) (k:Ext w w'):WL w' b ro room l:=h.kp k (fun f=>f) (fun _ _ f=>f)
theorem WL.lt {w:World} {b room:Nat} {ro:Option Nat} {l:List Wt} (h:WL w b ro room l):b<w.heap.size∧∀ i,ro=some i→i<w.heap.size:=by
 obtain ⟨v,h1,h2,h3,h4⟩:=h
 refine ⟨h1.lt,fun i hi=>?_⟩
 subst h3
 obtain ⟨_,⟨rfl,_⟩|⟨g,cap,cur,rfl,_,hg,_⟩⟩:=h2
 ·simp [Value.ownBlock] at hi
 ·simp only [Value.ownBlock,Option.some.injEq] at hi
  subst hi
  exact (Array.getElem?_eq_some_iff.1 hg).1
theorem WL.open {w:World} {b room:Nat} {ro:Option Nat} {l:List Wt} (h:WL w b ro room l):∃ a c,Blk w b #[.int .i64 room, .slice a l.length c] wlT∧w.ownsRow 0 214 3 (.slice a l.length c) l.length (l.flatMap wcell)∧(Value.slice a l.length c).ownBlock=ro∧(∀ i,ro=some i→i≠b)∧(∀ x,a=some x→ro=some x.block):=by
 obtain ⟨v,h1,h2,h3,h4⟩:=h
 obtain ⟨a,c,rfl,_⟩:=Sl.open (Sl.of_owns h2)
 refine ⟨a,c,h1,h2,h3,h4,fun x hx=>?_⟩
 subst hx
 rw [← h3];rfl
theorem WL.mk {w:World} {b room:Nat} {ro:Option Nat} {l:List Wt} {v:Value} (h1:Blk w b #[.int .i64 room,v] wlT) (h2:w.ownsRow 0 214 3 v l.length (l.flatMap wcell)) (h3:v.ownBlock=ro) (h4:∀ i,ro=some i→i≠b):WL w b ro room l:=⟨v,h1,h2,h3,h4⟩
set_option maxHeartbeats 800000 in
theorem watNew_any (room:Nat) (w:World) (h1:1≤room) (h2:room≤1000):Calls Tryz.prog 77 #[.int .i64 room] w fun e w'=>e=.returned (.tuple #[.pointer (some ⟨w.heap.size,0,none⟩), .int .i64 0])∧WL w' w.heap.size none room []∧Ext w w':=by
 have a1:¬ (room:Int)<1:=by omega
 have a2:¬ (1000:Int)<room:=by omega
 go_enter Tryz.func77,Tryz.ntmps77
 go_wp2_with (fail)
 go_ret2
 refine ⟨by simp,WL.mk (v:=.slice none 0 0) (heap_alloc_new w _) ⟨rfl, .inl ⟨rfl,rfl⟩⟩ rfl (by simp),(Kp.refl _ _).alloc _⟩
def DInv (sb:Nat) (s:Int) (rb:Nat) (base:Nat) (_seen:List Wt) (cur:Option Nat) (W:World):Prop:=cur=none∧W.cell? ⟨sb,0,none⟩=some (.int .i64 s)∧sb≠rb∧base≤W.heap.size
set_option maxHeartbeats 800000 in
theorem dropAsk (sb:Nat) (s:Int) (rb base:Nat):Asked 177 #[.pointer (some ⟨sb,0,none⟩)] (fun x=>decide (x.sess=s)) (fun _=>False) base rb (DInv sb s rb base):=by
 refine ⟨enters_of Tryz.func177 (by kernel_rfl) rfl, ?_, ?_, ?_, ?_⟩
 ·intro seen cur x W _ hI
  obtain ⟨rfl,hc,hne,hbs⟩:=hI
  obtain ⟨xs,xp,xk⟩:=x
  have hlt:=World.block_lt_of_cell? W _ hc
  have HH:=Lib.hid (show ∀ W',Ext W W'→DInv sb s rb base (seen++[⟨xs,xp,xk⟩]) none W' from fun W' hx=>⟨rfl,hx.cell hc (fun f=>f),hne,Nat.le_trans hbs hx.size⟩)
  have hcX:∀ o:Obj,(W.alloc o).cell? ⟨sb,0,none⟩=some (.int .i64 s):=fun o=>Lib.cell?_alloc_some o hc
  clear hbs hne
  go_enter Tryz.func177,Tryz.ntmps177
  go_wp2_with (fail)
  go_ret
  go_light
  refine ⟨ret_bool ?_,⟨none,HH.out _ ((Kp.refl _ _).alloc _)⟩,(Kp.refl _ _).alloc _⟩
  first|rfl|(rw [Bool.eq_iff_iff];simp)
 ·intro seen cur W W' hI hk
  obtain ⟨rfl,hc,hne,hbs⟩:=hI
  exact ⟨rfl,hk.cell hc hne,hne,Nat.le_trans hbs hk.size⟩
 ·intro seen cur W i hI he
  rw [hI.1] at he;cases he
 ·intro i f;exact f.elim
set_option maxHeartbeats 1600000 in
theorem watDrop_any (b:Nat) (ro:Option Nat) (room:Nat) (l:List Wt) (s:Int) (w:World) (h:WL w b ro room l) (hn:l.length≤100000) :
  Calls Tryz.prog 140 #[.pointer (some ⟨b,0,none⟩), .int .i64 s] w fun e w'=>e=.returned (.int .i64 ((l.length - (dropW s l).length:Nat):Int))∧WL w' b ro room (dropW s l)∧Kp (fun i=>i=b∨ro=some i) w w':=by
 obtain ⟨hlt,hrl⟩:=h.lt
 obtain ⟨a,c,hb,hown,hro,hrb,had⟩:=h.open
 have hdl:(dropW s l).length≤l.length:=List.length_filter_le _ _
 have e3:IntKind.i64.wrap ((l.length:Int) - ((dropW s l).length:Int))=((l.length - (dropW s l).length:Nat):Int):=by rw [IntWalk.i64_in _ (by omega)];omega
 obtain ⟨W,hW⟩:∃ W,w.alloc (.cells #[.int .i64 s] 2)=W:=⟨_,rfl⟩
 have hx:Ext w W:=by rw [← hW];exact (Kp.refl _ _).alloc _
 have hs:Blk W w.heap.size #[.int .i64 s] 2:=by rw [← hW];exact heap_alloc_new w _
 have hsz:W.heap.size=w.heap.size+1:=by rw [← hW];simp
 have c1:=(hb.kp hx (fun f=>f)).cell 1 _ rfl
 have hcon:Calls Tryz.prog 176 #[.slice a l.length c, .func (.func 177) #[] #[.pointer (some ⟨w.heap.size,0,none⟩)]] W fun e w'=>∃ v,e=.returned v∧Blk w' b #[.int .i64 room, .slice a l.length c] wlT∧w'.ownsRow 0 214 3 v (dropW s l).length ((dropW s l).flatMap wcell)∧v.ownBlock=ro∧Kp (fun i=>i=b∨ro=some i) w w':=by
  have hrb2:∀ i,i=ro.getD W.heap.size→i<w.heap.size→ro=some i:=by
   intro i hi hil
   cases hr:ro with
   | none=>rw [hr] at hi;simp at hi;omega
   | some r=>rw [hr] at hi;simp at hi;rw [hi]
  have hne:w.heap.size≠ro.getD W.heap.size:=by
   cases hr:ro with
   | none=>simp;omega
   | some r=>have:=hrl r hr;simp;omega
  refine (deleteFunc_any (dropAsk w.heap.size s (ro.getD W.heap.size) W.heap.size) 0 a l c W (ownsRow.ext hown hx) (fun x hx=>by rw [had x hx];rfl) (fun hn=>?_) (Nat.le_refl _) hn ⟨none,rfl,hs.cell 0 _ rfl,hne,Nat.le_refl _⟩).mono ?_
  ·cases ha:a with
   | none=>exact absurd ha hn
   | some x=>have h1:=had x ha;have h2:=hrl _ h1;rw [h1];simp;omega
  ·rintro e w' ⟨⟨rfl,ho,_⟩,hk⟩
   have hd:(l.filter fun x=>!(decide (x.sess=s)))=dropW s l:=by unfold dropW;congr 1;funext x;simp
   rw [hd] at ho ⊢
   have hk2:Kp (fun i=>ro=some i) w w':=Kp.next (S:=fun i=>ro=some i) hx.kp hk (fun i hi h=>by
    rcases h with (h|h)|h
    ·exact h.elim
    ·omega
    ·exact hrb2 i h hi)
   refine ⟨_,rfl,hb.kp hk2 (fun h=>hrb b h rfl),ho,by rw [← hro];exact own_slice _ _ _ _ _,hk2.mono (fun i _ h=>.inr h)⟩
 have HCON:=Lib.hid hcon
 have HRB:=Lib.hid hrb
 clear h hb hown had hcon hx hs hrb hrl hlt hsz hro
 go_enter Tryz.func140,Tryz.ntmps140
 go_wp2_with (fail)
 refine HCON.out.mono ?_
 rintro e w1 ⟨v,rfl,hb1,ho1,hr1,hk1⟩
 obtain ⟨a',c',rfl,_⟩:=Sl.open (Sl.of_owns ho1)
 have c1:=hb1.cell 1 _ rfl
 have f1:=hb1.free 1
 have hb2:=hb1.set 1 (.slice a' (dropW s l).length c')
 have c2:=hb2.cell 1 _ rfl
 have HB2:=Lib.hid hb2
 have HO:=Lib.hid ho1
 have HK:=Lib.hid hk1
 clear hb1 ho1 hk1 hb2
 go_wp2_with (fail)
 go_ret
 refine ⟨rfl,WL.mk HB2.out (ownsRow.kp HO.out (Kp.set1 (S:=fun i=>i=b) (Kp.refl _ _) b 1 _ rfl) (fun i hi=>HRB.out i (by rw [← hr1];exact hi))) hr1 HRB.out,Kp.set1 HK.out b 1 _ (.inl rfl)⟩
end Go.Proofs.YtnlefnhdhigecaaGreatDoor

