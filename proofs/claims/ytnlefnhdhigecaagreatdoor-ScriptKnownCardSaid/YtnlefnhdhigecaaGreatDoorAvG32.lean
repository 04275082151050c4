/- Texts put together: AvStabA, AvStabB, AvPurA, AvPurP, AvPurB, AvStabC. -/
import Derived.Test.YtnlefnhdhigecaaGreatDoorAvG31
import Derived.Test.YtnlefnhdhigecaaGreatDoorAvG1
import Derived.Test.YtnlefnhdhigecaaGreatDoorAvG19
import Derived.BigQuiet
import Derived.RegionTactic
import Derived.ChangeAlike
import Derived.Test.YtnlefnhdhigecaaGreatDoorAvG15
namespace Go.Proofs.YtnlefnhdhigecaaGreatDoor
set_option maxRecDepth 100000
open Go.RowKit Av
def cmpD (x y:ByteArray):Int:=Lib.compareInt ((dpB y.data.toList:Nat):Int) ((dpB x.data.toList:Nat):Int)
set_option maxHeartbeats 1600000 in
theorem deepCmp_any (x y:ByteArray) (w:World) (hG:GL w) (hx:x.size≤1000000) (hy:y.size≤1000000):Calls Tryz.prog 174 #[.string x, .string y] w fun e w'=>e=.returned (.int .i64 (cmpD x y))∧Ext w w':=by
 have HP1:=Lib.hid (Parts_any y w hG (by unfold maxLen;omega))
 have HP2:=Lib.hid (fun W (h:Ext w W)=>Parts_any x W (hG.ext h) (by unfold maxLen;omega))
 clear hG hx hy
 go_enter Tryz.func174,Tryz.ntmps174
 go_wp2_with (fail)
 refine HP1.out.mono ?_
 rintro e w1 ⟨v,ps,rfl,hps,hst,hx1⟩
 obtain ⟨a,c,rfl,_,_,_⟩:=Strs.open hst
 have hl:ps.length=dpB y.data.toList:=by unfold dpB;rw [← hps,List.length_map]
 rw [hl]
 have HX1:=Lib.hid hx1
 clear hps hst hx1 hl
 go_wp2_with (fail)
 refine (HP2.out _ HX1.out).mono ?_
 rintro e w2 ⟨v,ps,rfl,hps,hst,hx1⟩
 obtain ⟨a,c,rfl,_,_,_⟩:=Strs.open hst
 have hl:ps.length=dpB x.data.toList:=by unfold dpB;rw [← hps,List.length_map]
 rw [hl]
 have HX2:=Lib.hid (HX1.out.trans hx1)
 clear hps hst hx1 hl
 go_wp2_with (fail)
 refine (Tryz.cmp_Compare_int _ _ _).mono ?_
 rintro e w3 ⟨rfl,rfl⟩
 go_wp2_with (fail)
 go_ret
 exact ⟨rfl,HX2.out⟩
theorem cmpD_lt (x y:ByteArray):cmpD x y<0↔dpB y.data.toList<dpB x.data.toList:=by
 unfold cmpD Lib.compareInt
 split
 ·rename_i h
  constructor
  ·intro _;omega
  ·intro _;decide
 ·rename_i h
  split
  ·constructor
   ·intro h2;exact absurd h2 (by decide)
   ·intro h2;omega
  ·constructor
   ·intro h2;exact absurd h2 (by decide)
   ·intro h2;omega
def InsRel (w:World) (r c a b:Nat) (l:List Bs) (s8:Value) (wr:World):Prop:=∃ (i:Nat) (m:List Bs),a<i∧(i≤b∨i=a+1)∧s8=.int .i64 i∧St l m∧(∀ p,p<a∨b≤p→gtB m p=gtB l p)∧Fall m a i∧RowB wr r strT 1 c (m.map encStr)∧Kp (fun j=>j=r) w wr
def InnRel (w:World) (r c a b i:Nat) (l:List Bs) (s9:Value) (wr:World):Prop:=∃ (j:Nat) (m:List Bs),a≤j∧j≤i∧s9=.int .i64 j∧St l m∧(∀ p,p<a∨b≤p→gtB m p=gtB l p)∧FallBut m a (i+1) j∧RowB wr r strT 1 c (m.map encStr)∧Kp (fun j=>j=r) w wr
def InsPost (w:World) (r c a b:Nat) (l:List Bs) (w':World):Prop:=∃ m,St l m∧(∀ p,p<a∨b≤p→gtB m p=gtB l p)∧Fall m a b∧RowB w' r strT 1 c (m.map encStr)∧Kp (fun j=>j=r) w w'
theorem row_at {w:World} {r c:Nat} {m:List Bs} (h:RowB w r strT 1 c (m.map encStr)) {j:Nat} (hj:j<m.length):w.cell? ⟨r,j,none⟩=some (.string ⟨(gtB m j).toArray⟩):=by
 rw [gtB_eq hj]
 exact h.cell (by rw [List.getElem?_map,List.getElem?_eq_getElem hj];rfl)
theorem row_swap {w:World} {r c:Nat} {m:List Bs} (h:RowB w r strT 1 c (m.map encStr)) (k:Nat) :
  RowB ((w.setCell ⟨r,k+1,none⟩ (.string ⟨(gtB m k).toArray⟩)).setCell ⟨r,k,none⟩ (.string ⟨(gtB m (k+1)).toArray⟩)).drew r strT 1 c ((swB m k).map encStr)∧Kp (fun j=>j=r) w ((w.setCell ⟨r,k+1,none⟩ (.string ⟨(gtB m k).toArray⟩)).setCell ⟨r,k,none⟩ (.string ⟨(gtB m (k+1)).toArray⟩)).drew:=by
 have h1:=(h.set (k+1) (.string ⟨(gtB m k).toArray⟩)).set k (.string ⟨(gtB m (k+1)).toArray⟩)
 have e:((m.map encStr).set (k+1) (.string ⟨(gtB m k).toArray⟩)).set k (.string ⟨(gtB m (k+1)).toArray⟩)=(swB m k).map encStr:=by
  unfold swB
  rw [List.map_set,List.map_set]
 rw [e] at h1
 have k1:Kp (fun j=>j=r) w ((w.setCell ⟨r,k+1,none⟩ (.string ⟨(gtB m k).toArray⟩)).setCell ⟨r,k,none⟩ (.string ⟨(gtB m (k+1)).toArray⟩)):=Kp.set1 (S:=fun j=>j=r) (Kp.set1 (S:=fun j=>j=r) (Kp.refl _ _) _ (k+1) _ rfl) _ k _ rfl
 exact ⟨h1.kp (Kp.refl (fun _=>False) _).drew (fun f=>f),k1.drew⟩
set_option maxHeartbeats 6400000 in
theorem insSort_any (r c a b n cap:Nat) (l:List Bs) (w:World) (hG:GL w) (hg:0≠r) (hl:∀ s∈l,s.length≤1000000) (hn:l.length=n) (hb:b≤n) (ha:a≤b) (hn1:n≤1000000) (h:RowB w r strT 1 c (l.map encStr)) :
  Calls Tryz.prog 247 #[.slice (some ⟨r,0,none⟩) n cap, .int .i64 a, .int .i64 b, .func (.func 174) #[] #[]] w fun e w'=>(∃ u,e=.returned u)∧InsPost w r c a b l w':=by
 have HG:=Lib.hid hG
 have HL:=Lib.hid hl
 have HN:=Lib.hid hn
 have HR:=Lib.hid h
 have HGR:=Lib.hid hg
 clear hG hl hn h hg
 have hWa:wrap64 ((a:Int)+1)=a+1:=by unfold wrap64;omega
 go_enter Tryz.func247,Tryz.ntmps247
 go_wp2_with (fail)
 go_loopw [8] (fun s8 wr=>InsRel w r c a b l s8 wr) (fun s8 _=>b - (intOf s8).toNat)
 case atStart=>exact ⟨a+1,l,by omega, .inr rfl,by go_num,St.refl _,fun _ _=>rfl,fun p q h1 h2 h3=>by omega,HR.out,Kp.refl _ _⟩
 case round=>
  clear HR hWa
  obtain ⟨i,m,hai,hib,rfl,hst,hfr,hfall,hrow,hk⟩:=hrel
  have HST:=Lib.hid hst
  have HFR:=Lib.hid hfr
  have HFALL:=Lib.hid hfall
  have HROW:=Lib.hid hrow
  have HK:=Lib.hid hk
  clear hst hfr hfall hrow hk
  by_cases hlt:i<b
  ·go_wp2_with (fail)
   go_loopw [9] (fun s9 wr=>InnRel w r c a b i l s9 wr) (fun s9 _=>(intOf s9).toNat)
   case atStart=>exact ⟨i,m,by omega,Nat.le_refl _,rfl,HST.out,HFR.out,HFALL.out.but,HROW.out,HK.out⟩
   case round=>
    clear HST HFR HFALL HROW HK
    obtain ⟨j,m,hja,hji,rfl,hst,hfr,hfall,hrow,hk⟩:=hrel
    have hml:m.length=n:=by rw [hst.1];exact HN.out
    have HST:=Lib.hid hst
    have HFR:=Lib.hid hfr
    have HFALL:=Lib.hid hfall
    have HROW:=Lib.hid hrow
    have HK:=Lib.hid hk
    have HGW:=Lib.hid (HG.out.kp hk (fun e=>HGR.out e))
    clear hst hfr hfall hk
    by_cases hlj:a<j
    ·obtain ⟨k,rfl⟩:∃ k,j=k+1:=⟨j - 1,by omega⟩
     have hc1:=row_at hrow (j:=k+1) (by omega)
     have hc0:=row_at hrow (j:=k) (by omega)
     have hs1:(gtB m (k+1)).length≤1000000:=by rw [gtB_eq (by omega)];exact HL.out _ ((HST.out.mem _).1 (List.getElem_mem _))
     have hs0:(gtB m k).length≤1000000:=by rw [gtB_eq (by omega)];exact HL.out _ ((HST.out.mem _).1 (List.getElem_mem _))
     have HC1:=Lib.hid hc1
     have HC0:=Lib.hid hc0
     have HCMP:Hid (∀ W,Ext wr W→Calls Tryz.prog 174 #[.string ⟨(gtB m (k+1)).toArray⟩, .string ⟨(gtB m k).toArray⟩] W fun e w'=>e=.returned (.int .i64 (cmpD ⟨(gtB m (k+1)).toArray⟩ ⟨(gtB m k).toArray⟩))∧Ext W w'):=fun W hW=>deepCmp_any _ _ W (HGW.out.ext hW) (by rw [Lib.size_eq];simpa using hs1) (by rw [Lib.size_eq];simpa using hs0)
     have hcl:=cmpD_lt ⟨(gtB m (k+1)).toArray⟩ ⟨(gtB m k).toArray⟩
     obtain ⟨z,hz⟩:∃ z,cmpD ⟨(gtB m (k+1)).toArray⟩ ⟨(gtB m k).toArray⟩=z:=⟨_,rfl⟩
     rw [hz] at HCMP hcl
     have HCL:=Lib.hid hcl
     have hV1:IntKind.i64.wrap (k:Int)=k:=IntWalk.i64_in _ (by omega)
     have hlj':(a:Int)<(k:Int)+1:=by omega
     have hb1:(0:Int)≤(k:Int)+1∧(k:Int)+1<n:=by omega
     have hb0:(0:Int)≤(k:Int)∧(k:Int)<n:=by omega
     clear hrow hcl hz hc1 hc0 hs1 hs0
     have eg:∀ args w,(callFunc 174 args).run Tryz.prog w=.ok (.enter 174 args) w:=enters_of Tryz.func174 (by kernel_rfl) rfl
     go_upto_region 4 with (fail)
     refine' wp_region_dag0 ((18, .val _)::(19, .val _)::(20, .val _)::(21, .val _)::(22, .val _)::(23, .val _)::(24, .val _)::(25, .val _)::(26, .val _)::(27, .val _)::(28, .val _)::(29, .val _)::(30, .val _)::(31, .val _)::(32, .val _)::(33, .val _)::(34, .val _)::[]) (by exact ⟨fun _ _ _ _ _=>trivial,⟨fun _ _ _ _ _=>trivial,⟨fun _ _ _ _ _=>trivial,⟨fun _ _ _ _ _=>trivial,⟨fun _ _ _ _ _=>trivial,⟨fun _ _ _ _ _=>trivial,⟨fun _ _ _ _ _=>trivial,⟨fun _ _ _ _ _=>trivial,⟨fun _ _ _ _ _=>trivial,⟨fun _ _ _ _ _=>trivial,⟨fun _ _ _ _ _=>trivial,⟨fun _ _ _ _ _=>trivial,⟨fun _ _ _ _ _=>trivial,⟨fun _ _ _ _ _=>trivial,⟨fun _ _ _ _ _=>trivial,⟨fun _ _ _ _ _=>trivial,⟨fun _ _ _ _ _=>trivial,trivial⟩⟩⟩⟩⟩⟩⟩⟩⟩⟩⟩⟩⟩⟩⟩⟩⟩) (by kernel_rfl) (by kernel_rfl) (by kernel_rfl) ?_
     rotate_left 17
     repeat (first
      | (refine wpD_skipv ?_ ?_ ?_
         focus rfl
         focus rfl
         simp only [Act.put,List.setIfInBounds_toArray,List.set_cons_succ,List.set_cons_zero])
      | (refine' wpD_val (c:=_) ?_ (fun w=>Kp.refl _ w) ?_ (fun wq hwq hfq=>?_) ?_
         rotate_left
         focus rfl
         focus rfl
         focus ((have c1:=hwq.cell HC1.out (fun f=>f);have c0:=hwq.cell HC0.out (fun f=>f));go_simp;first|done|rfl)
         simp only [Act.put,List.setIfInBounds_toArray,List.set_cons_succ,List.set_cons_zero])
      | (refine' wpD_con (c:=_) ?_ ?_ (fun wq hwq hfq=>?_) ?_
         rotate_left
         focus rfl
         focus rfl
         focus ((have c1:=hwq.cell HC1.out (fun f=>f);have c0:=hwq.cell HC0.out (fun f=>f));go_simp;(try (rw [dUpon_enter]));((with_reducible refine (HCMP.out _ hwq).mono ?_);rintro e w' ⟨rfl,hx⟩;exact DEnd.con hx))
         simp only [Act.put,List.setIfInBounds_toArray,List.set_cons_succ,List.set_cons_zero])
      | fail)
     refine wpD_nil ?_
     intro w1 hx1 hend
     clear hend
     have HX1:=Lib.hid hx1
     have HRW1:=Lib.hid (HROW.out.kp hx1 (fun f=>f))
     have HK1:=Lib.hid (HK.out.next hx1 (fun _ _ f=>f.elim))
     clear hx1
     by_cases hz0:z<0
     ·have hlt2:dpB (gtB m k)<dpB (gtB m (k+1)):=by simpa using HCL.out.1 hz0
      have hrow:=HRW1.out
      have c1:=row_at hrow (j:=k+1) (by omega)
      have c0:=row_at hrow (j:=k) (by omega)
      have f1:=hrow.free (k+1)
      have f0:=hrow.free k
      have HLT2:=Lib.hid hlt2
      clear hrow hlt2
      go_wp2_with (fail)
      go_region
      have hsw:=row_swap HRW1.out k
      generalize ((w1.setCell ⟨r,k+1,none⟩ (.string ⟨(gtB m k).toArray⟩)).setCell ⟨r,k,none⟩ (.string ⟨(gtB m (k+1)).toArray⟩)).drew=w2 at hsw ⊢
      have HSW:=Lib.hid hsw
      clear hsw c1 c0 f1 f0
      go_wp2_with (fail)
      go_light
      refine ⟨⟨k,swB m k, ?_, ?_, ?_,HST.out.trans (swB_st m k ?_ ?_),fun p hp=>?_,HFALL.out.step ?_ ?_ ?_ HLT2.out,HSW.out.1,HK1.out.next HSW.out.2 (fun _ _ e=>e)⟩, ?_⟩
      ·omega
      ·omega
      ·go_num
      ·omega
      ·have:=HLT2.out;omega
      ·rw [swB_get m k p (by omega),if_neg (by omega),if_neg (by omega)]
       exact HFR.out p hp
      ·omega
      ·omega
      ·omega
      ·simp [intOf]
     ·have hge:dpB (gtB m (k+1))≤dpB (gtB m k):=by
       have h1:=HCL.out
       simp only at h1
       have h2:¬ dpB (gtB m k)<dpB (gtB m (k+1)):=fun h=>hz0 (h1.2 h)
       omega
      have HF:=Lib.hid (HFALL.out.stop (.inr hge))
      clear hge
      go_wp2_with (fail)
      go_light
      refine ⟨⟨i+1,m, ?_, ?_, ?_,HST.out,HFR.out,HF.out,HRW1.out,HK1.out⟩, ?_⟩
      ·omega
      ·omega
      ·go_num
      ·simp [intOf];omega
    ·have HF:=Lib.hid (HFALL.out.stop (.inl (by omega)))
     have hlf:¬ (a:Int)<(j:Int):=by omega
     have hld:decide ((a:Int)<(j:Int))=false:=decide_eq_false hlf
     have HKW:=HK
     have HRW:=HROW
     clear hrow
     go_upto_region 4 with (fail)
     refine' wp_region_dag0 ((18, .val _)::(19, .val _)::(20, .val _)::(21, .val _)::(22, .val _)::(23, .val _)::(24, .val _)::(25, .val _)::(26, .val _)::(27, .val _)::(28, .val _)::(29, .val _)::(30, .val _)::(31, .val _)::(32, .val _)::(33, .val _)::(34, .val _)::[]) (by exact ⟨fun _ _ _ _ _=>trivial,⟨fun _ _ _ _ _=>trivial,⟨fun _ _ _ _ _=>trivial,⟨fun _ _ _ _ _=>trivial,⟨fun _ _ _ _ _=>trivial,⟨fun _ _ _ _ _=>trivial,⟨fun _ _ _ _ _=>trivial,⟨fun _ _ _ _ _=>trivial,⟨fun _ _ _ _ _=>trivial,⟨fun _ _ _ _ _=>trivial,⟨fun _ _ _ _ _=>trivial,⟨fun _ _ _ _ _=>trivial,⟨fun _ _ _ _ _=>trivial,⟨fun _ _ _ _ _=>trivial,⟨fun _ _ _ _ _=>trivial,⟨fun _ _ _ _ _=>trivial,⟨fun _ _ _ _ _=>trivial,trivial⟩⟩⟩⟩⟩⟩⟩⟩⟩⟩⟩⟩⟩⟩⟩⟩⟩) (by kernel_rfl) (by kernel_rfl) (by kernel_rfl) ?_
     rotate_left 17
     repeat (first
      | (refine wpD_skipv ?_ ?_ ?_
         focus rfl
         focus rfl
         simp only [Act.put,List.setIfInBounds_toArray,List.set_cons_succ,List.set_cons_zero])
      | (refine' wpD_val (c:=_) ?_ (fun w=>Kp.refl _ w) ?_ (fun wq hwq hfq=>?_) ?_
         rotate_left
         focus rfl
         focus rfl
         focus (skip;go_simp;first|done|rfl)
         simp only [Act.put,List.setIfInBounds_toArray,List.set_cons_succ,List.set_cons_zero])
      | (refine' wpD_con (c:=_) ?_ ?_ (fun wq hwq hfq=>?_) ?_
         rotate_left
         focus rfl
         focus rfl
         focus (skip;go_simp;(try (rw [dUpon_enter]));fail)
         simp only [Act.put,List.setIfInBounds_toArray,List.set_cons_succ,List.set_cons_zero])
      | fail)
     refine wpD_nil ?_
     intro w1 hx1 hend
     clear hend
     have HRW1:=Lib.hid (HROW.out.kp hx1 (fun f=>f))
     have HK1:=Lib.hid (HK.out.next hx1 (fun _ _ f=>f.elim))
     clear hx1
     go_wp2_with (fail)
     go_light
     refine ⟨⟨i+1,m, ?_, ?_, ?_,HST.out,HFR.out,HF.out,HRW1.out,HK1.out⟩, ?_⟩
     ·omega
     ·omega
     ·go_num
     ·simp [intOf];omega
  ·have HF:Hid (Fall m a b):=fun p q h1 h2 h3=>HFALL.out p q h1 h2 (by omega)
   go_wp2_with (fail)
   go_end0
   exact ⟨⟨_,rfl⟩,m,HST.out,HFR.out,HF.out,HROW.out,HK.out⟩
end Go.Proofs.YtnlefnhdhigecaaGreatDoor

namespace Go.Proofs.YtnlefnhdhigecaaGreatDoor
set_option maxRecDepth 100000
open Go.RowKit Av
theorem fall_pair {l:List Bs} (h:Fall l 0 l.length):l.Pairwise (fun x y=>dpB y≤dpB x):=by
 rw [List.pairwise_iff_getElem]
 intro i j hi hj hij
 rw [← gtB_eq hi,← gtB_eq hj]
 exact h i j (Nat.zero_le _) hij hj
def SrtPost (w:World) (r c:Nat) (l:List Bs) (w':World):Prop:=∃ m,St l m∧m.Pairwise (fun x y=>dpB y≤dpB x)∧RowB w' r strT 1 c (m.map encStr)∧Kp (fun j=>j=r) w w'
end Go.Proofs.YtnlefnhdhigecaaGreatDoor

namespace Go.Proofs.YtnlefnhdhigecaaGreatDoor
set_option maxRecDepth 100000
open Go.RowKit Av
def oDel (p:ByteArray):OpV:=⟨2,p,⟨#[]⟩, -1,0⟩
theorem oDel_good {p:ByteArray} (h:goodL p.data.toList=true):goodO (oDel p)=0:=by
 have h1:formedB (oDel p)=true:=by unfold formedB oDel;simp [h]
 have h2:Av.ownB (oDel p)=true:=rfl
 have h3:numberedB (oDel p)=true:=by unfold numberedB oDel;simp
 unfold goodO
 rw [if_pos h1,if_neg (by show ¬ (1000:Nat)<0;omega),h2,h3]
 rfl
theorem del_doP {room:Int} {P:Pt} {p:ByteArray} {n:NodeV} (hg:goodL p.data.toList=true) (hm:mget P p=some n) (hk:n.names=[]):(doP room P (oDel p) 1 0 false).1=tellP ndRem (mdel P p) p:=by
 unfold doP
 rw [if_neg (by rw [oDel_good hg];simp),if_neg (by decide),if_neg (by show ¬ ((2:Int)=1);decide),if_pos (by left;rfl)]
 unfold changeP
 rw [show (oDel p).path=p from rfl,hm]
 simp only
 rw [if_neg (by show ¬ (wrongB (oDel p) n=true);unfold wrongB oDel;simp),if_pos (show (oDel p).kind=2 from rfl),if_neg (by rw [hk];simp)]
 rfl
theorem del_doL {room:Int} {L:RL} {p:ByteArray} {n:NodeV} (hg:goodL p.data.toList=true) (hm:mget L p=some n) (hk:n.names=[]):(doL room L (oDel p) 1 0).1=remL L p:=by
 unfold doL
 rw [if_neg (by rw [oDel_good hg];simp),if_neg (by decide),if_neg (by show ¬ ((2:Int)=1);decide),if_pos (by left;rfl)]
 unfold changeL
 rw [show (oDel p).path=p from rfl,hm]
 simp only
 rw [if_neg (by show ¬ (wrongB (oDel p) n=true);unfold wrongB oDel;simp),if_pos (show (oDel p).kind=2 from rfl),if_neg (by rw [hk];simp)]
 unfold remL
 rw [hm]
def TrRem (w0 w:World) (b m:Nat) (room:Int) (K:Nat) (t:Tr) (L:RL) (e:Ending) (w':World):Prop:=
 (∃ u,e=.returned u)∧∃ t',TrA w0 w' b m room (K+1) t' L∧Kp (nodeFr m t) w w'∧Fresh w t t'
theorem trRemove {w0 w:World} {b m:Nat} {room:Int} {K:Nat} {t:Tr} {L:RL} (h:TrA w0 w b m room K t L) (hG:GT w0) (hK:K≤100000) (p:ByteArray) (n:NodeV) (hm:mget L p=some n) (hk:n.names=[]) :
  Calls Tryz.prog 155 #[.pointer (some ⟨b,0,none⟩), .string p] w fun e w'=>TrRem w0 w b m room K t (remL L p) e w':=by
 have hmp:mget (pl t) p=some n:=by rw [← h.srt.get];exact hm
 have hg:=h.good.snd.good p n hmp
 have hps:=path_small p hg
 refine (treeRemove_any w0.heap.size b m room t p w0 w h.ts.tr (h.ts.pk.ok hK) hG.gl (Nat.le_refl _) (hG.ext h.ts.ex).gl (by omega)).mono ?_
 rintro e w' ⟨hu,h1,h2⟩
 have e1:pl (tellUp ndRem (mdel t p) p)=(doP room (pl t) (oDel p) 1 0 false).1:=by
  rw [del_doP hg hmp hk,pl_tell]
  congr 1
  exact pl_del _ _
 have e2:(doL room L (oDel p) 1 0).1=remL L p:=del_doL hg hm hk
 have e3:=(doL_doP (room:=room) h.srt h.ts.pk.1 (oDel p) 1 0).2
 rw [e2] at e3
 exact ⟨hu,_,⟨⟨h1,by rw [e1];exact h.ts.pk.doP room _ 1 0 false,h.ts.step h2⟩,by rw [e1];exact e3,by rw [e1];exact h.good.step h.ts.pk _ _ _⟩,h2,((Fresh.refl w t).del p).tell _ _⟩
end Go.Proofs.YtnlefnhdhigecaaGreatDoor

namespace Go.Proofs.YtnlefnhdhigecaaGreatDoor
set_option maxRecDepth 100000
open Go.RowKit Av
def toB (s:Bs):ByteArray:=⟨s.toArray⟩
theorem deepB_to (s:Bs):deepB (toB s)=dpB s:=by unfold deepB dpB toB;simp
theorem sort_st (l:List Bs):St l (l.mergeSort fun a b=>decide (dpB b≤dpB a))∧(l.mergeSort fun a b=>decide (dpB b≤dpB a)).Pairwise (fun x y=>dpB y≤dpB x):=by
 have htr:∀ a b c:Bs,decide (dpB b≤dpB a)=true→decide (dpB c≤dpB b)=true→decide (dpB c≤dpB a)=true:=fun a b c h1 h2=>by
  simp only [decide_eq_true_eq] at h1 h2 ⊢;omega
 have hto:∀ a b:Bs,(decide (dpB b≤dpB a)||decide (dpB a≤dpB b))=true:=fun a b=>by
  simp only [Bool.or_eq_true,decide_eq_true_eq];omega
 have hp:=List.mergeSort_perm l fun a b=>decide (dpB b≤dpB a)
 refine ⟨⟨hp.length_eq,fun k=>?_⟩, ?_⟩
 ·have h1:(l.filter fun s=>decide (dpB s=k)).Sublist (l.mergeSort fun a b=>decide (dpB b≤dpB a)):=by
   refine List.sublist_mergeSort htr hto ?_ List.filter_sublist
   rw [List.pairwise_iff_forall_sublist]
   intro a b hab
   have ha:=(List.mem_filter.1 (hab.subset (by simp:a∈[a,b]))).2
   have hb:=(List.mem_filter.1 (hab.subset (by simp:b∈[a,b]))).2
   simp only [decide_eq_true_eq] at ha hb ⊢
   omega
  have h2:=h1.filter (fun s=>decide (dpB s=k))
  rw [List.filter_filter] at h2
  simp only [Bool.and_self] at h2
  exact (h2.eq_of_length (hp.filter _).length_eq.symm).symm
 ·have:=List.pairwise_mergeSort htr hto l
  exact this.imp (fun h=>by simpa using h)
theorem sortD_to (l:List Bs):sortD (l.map toB)=(l.mergeSort fun a b=>decide (dpB b≤dpB a)).map toB:=by
 unfold sortD
 rw [List.map_mergeSort]
 intro a _ b _
 rw [deepB_to,deepB_to]
theorem st_sortD {l m:List Bs} (h:St l m) (hp:m.Pairwise (fun x y=>dpB y≤dpB x)):m.map toB=sortD (l.map toB):=by
 obtain ⟨h1,h2⟩:=sort_st l
 rw [sortD_to,fall_eq m _ hp h2 (fun k=>by rw [h.2,h1.2])]
theorem ofBL_of {L:RL} {P:Pt} (h:SortedAs L P) (hn:(P.map (·.1)).Nodup) (sess:Int):ofBL L sess=(ofS P (pathsP P) sess).map toB:=by
 have hL:L=ownL P:=h.own hn
 rw [hL]
 unfold ofBL ofS ownL
 rw [List.filter_map,List.map_map]
 congr 1
 apply List.filter_congr
 intro x hx
 show decide (0<sess∧(nodeP P ⟨x.toArray⟩).1.own=sess)=_
 obtain ⟨n,hn⟩:=Option.ne_none_iff_exists'.1 (paths_mem.1 hx)
 unfold nodeP ownI
 rw [hn]
 rw [Bool.eq_iff_iff]
 simp
theorem tell_own {P:Pt} {q p:ByteArray} {n:NodeV} (h:mget P p=some n):∃ n',mget (tellP ndRem P q) p=some n'∧n'.own=n.own:=by
 unfold tellP
 split
 ·exact ⟨n,h,rfl⟩
 ·split
  ·exact ⟨n,h,rfl⟩
  ·rename_i up _ _ nu hu
   rw [mget_mset]
   by_cases e:p=⟨up.toArray⟩
   ·rw [if_pos e]
    rw [e,hu] at h
    cases h
    refine ⟨_,rfl, ?_⟩
    unfold ndRem
    split<;>rfl
   ·rw [if_neg e]
    exact ⟨n,h,rfl⟩
end Go.Proofs.YtnlefnhdhigecaaGreatDoor

namespace Go.Proofs.YtnlefnhdhigecaaGreatDoor
set_option maxRecDepth 100000
open Go.RowKit Av
set_option maxHeartbeats 3200000 in
theorem sort_nil (a:Option Addr) (c:Nat) (w:World):Calls Tryz.prog 173 #[.slice a 0 c, .func (.func 174) #[] #[]] w fun e w'=>(∃ u,e=.returned u)∧w=w':=by
 have hins:Calls Tryz.prog 247 #[.slice a 0 c, .int .i64 0, .int .i64 0, .func (.func 174) #[] #[]] w fun e w'=>(∃ u,e=.returned u)∧w=w':=by
  go_enter Tryz.func247,Tryz.ntmps247
  go_wp2_with (fail)
  go_loopw [8] (fun s8 wr=>s8=.int .i64 1∧w=wr) (fun _ _=>0)
  case atStart=>exact ⟨rfl,rfl⟩
  case round=>
   obtain ⟨rfl,rfl⟩:=hrel
   go_wp2_with (fail)
   go_end0
   exact ⟨⟨_,rfl⟩,rfl⟩
 have hst:Calls Tryz.prog 214 #[.slice a 0 c, .int .i64 0, .func (.func 174) #[] #[]] w fun e w'=>(∃ u,e=.returned u)∧w=w':=by
  have HI:=Lib.hid hins
  clear hins
  go_enter Tryz.func214,Tryz.ntmps214
  go_wp2_with (fail)
  go_loopw [7,8] (fun s7 s8 wr=>s7=.int .i64 0∧s8=.int .i64 20∧w=wr) (fun _ _ _=>0)
  case atStart=>exact ⟨rfl,rfl,rfl⟩
  case round=>
   obtain ⟨rfl,rfl,rfl⟩:=hrel
   go_wp2_with (fail)
   refine HI.out.mono ?_
   rintro e w1 ⟨⟨u,rfl⟩,rfl⟩
   go_wp2_with (fail)
   go_loopw [6] (fun s6 wr=>s6=.int .i64 20∧w=wr) (fun _ _=>0)
   case atStart=>exact ⟨rfl,rfl⟩
   case round=>
    obtain ⟨rfl,rfl⟩:=hrel
    go_wp2_with (fail)
    go_end0
    exact ⟨⟨_,rfl⟩,rfl⟩
 have HS:=Lib.hid hst
 clear hst hins
 go_enter Tryz.func173,Tryz.ntmps173
 go_wp2_with (fail)
 refine HS.out.mono ?_
 rintro e w1 ⟨⟨u,rfl⟩,rfl⟩
 go_wp2_with (fail)
 go_end0
 exact ⟨⟨_,rfl⟩,rfl⟩
theorem remL_own {L:RL} (hr:Rising (keysR L)) {p:ByteArray} {n:NodeV} (hg:goodL p.data.toList=true) (hm:mget L p=some n) (hk:n.names=[]) {p':ByteArray} {n':NodeV} (hne:p'≠p) (h':mget L p'=some n'):∃ n'',mget (remL L p) p'=some n''∧n''.own=n'.own:=by
 have hs:SortedAs L L:=⟨hr,fun _=>rfl⟩
 have h1:=(doL_doP (room:=0) hs (rise_nodup hr) (oDel p) 1 0).2
 rw [del_doL hg hm hk,del_doP hg hm hk] at h1
 rw [h1.get]
 have h2:mget (mdel L p) p'=some n':=by rw [mget_mdel,if_neg hne];exact h'
 exact tell_own h2
theorem ofBL_nodup {L:RL} (hr:Rising (keysR L)) (sess:Int):(ofBL L sess).Nodup:=by
 unfold ofBL
 exact (rise_nodup hr).sublist (List.filter_sublist.map _)
theorem ofBL_own {L:RL} (hr:Rising (keysR L)) {sess:Int} {p:ByteArray} (h:p∈ofBL L sess):∃ n,mget L p=some n∧n.own≠0:=by
 unfold ofBL at h
 obtain ⟨e,he,rfl⟩:=List.mem_map.1 h
 obtain ⟨h1,h2⟩:=List.mem_filter.1 he
 simp only [decide_eq_true_eq] at h2
 exact ⟨e.2,mget_of_mem (rise_nodup hr) h1,by omega⟩
end Go.Proofs.YtnlefnhdhigecaaGreatDoor

namespace Go.Proofs.YtnlefnhdhigecaaGreatDoor
set_option maxRecDepth 100000
open Go.RowKit Av
def exB (l:List Bs) (x y:Nat):List Bs:=(l.set x (gtB l y)).set y (gtB l x)
theorem exB_len (l:List Bs) (x y:Nat):(exB l x y).length=l.length:=by unfold exB;simp
theorem gtB_set (l:List Bs) (x p:Nat) (v:Bs) (hx:x<l.length):gtB (l.set x v) p=if p=x then v else gtB l p:=by
 unfold gtB
 rw [List.getD_eq_getElem?_getD,List.getD_eq_getElem?_getD,List.getElem?_set]
 by_cases e:x=p
 ·subst e
  rw [if_pos rfl,if_pos hx,if_pos rfl];rfl
 ·rw [if_neg e,if_neg (fun h=>e h.symm)]
theorem exB_get (l:List Bs) (x y p:Nat) (hx:x<l.length) (hy:y<l.length):gtB (exB l x y) p=if p=y then gtB l x else if p=x then gtB l y else gtB l p:=by
 unfold exB
 rw [gtB_set _ _ _ _ (by simpa using hy),gtB_set _ _ _ _ hx]
theorem gt_ext2 {l m:List Bs} (hl:l.length=m.length) (h:∀ p,gtB l p=gtB m p):l=m:=by
 apply List.ext_getElem hl
 intro i h1 h2
 rw [← gtB_eq h1,← gtB_eq h2,h]
theorem gt_cong (l:List Bs) {i j:Nat} (h:i=j):gtB l i=gtB l j:=by rw [h]
def SwR (l m:List Bs) (a b n:Nat):Prop:=m.length=l.length∧∀ p,gtB m p=if a≤p∧p<a+n then gtB l (p - a+b) else if b≤p∧p<b+n then gtB l (p - b+a) else gtB l p
theorem SwR.refl (l:List Bs) (a b:Nat):SwR l l a b 0:=⟨rfl,fun p=>by rw [if_neg (by omega),if_neg (by omega)]⟩
theorem SwR.step {l m:List Bs} {a b i:Nat} (h:SwR l m a b i) (h1:a+i<b) (h2:b+i<l.length):SwR l (exB m (a+i) (b+i)) a b (i+1):=by
 obtain ⟨hl,hg⟩:=h
 refine ⟨by rw [exB_len];exact hl,fun p=>?_⟩
 rw [exB_get _ _ _ _ (by omega) (by omega),hg (a+i),hg (b+i),hg p]
 rw [if_neg (show ¬ (a≤a+i∧a+i<a+i) by omega),if_neg (show ¬ (b≤a+i∧a+i<b+i) by omega),if_neg (show ¬ (a≤b+i∧b+i<a+i) by omega),if_neg (show ¬ (b≤b+i∧b+i<b+i) by omega)]
 by_cases e1:p=b+i
 ·rw [if_pos e1,if_neg (by omega),if_pos (by omega)]
  exact gt_cong _ (by omega)
 ·rw [if_neg e1]
  by_cases e2:p=a+i
  ·rw [if_pos e2,if_pos (by omega)]
   exact gt_cong _ (by omega)
  ·rw [if_neg e2]
   by_cases e3:a≤p∧p<a+i
   ·rw [if_pos e3,if_pos (by omega)]
   ·rw [if_neg e3,if_neg (show ¬ (a≤p∧p<a+(i+1)) by omega)]
    by_cases e4:b≤p∧p<b+i
    ·rw [if_pos e4,if_pos (by omega)]
    ·rw [if_neg e4,if_neg (show ¬ (b≤p∧p<b+(i+1)) by omega)]
def RtR (l m:List Bs) (a k b:Nat):Prop:=m.length=l.length∧∀ p,gtB m p=if a≤p∧p<a+(b - k) then gtB l (p - a+k) else if a+(b - k)≤p∧p<b then gtB l (p - (a+(b - k))+a) else gtB l p
theorem RtR.one {l m n:List Bs} {a k b:Nat} (h:RtR l m a k b) (h2:RtR l n a k b):m=n:=gt_ext2 (h.1.trans h2.1.symm) fun p=>(h.2 p).trans (h2.2 p).symm
theorem RtR.none (l:List Bs) {a k b:Nat} (h1:a≤k) (h2:k≤b) (h:a=k∨k=b):RtR l l a k b:=⟨rfl,fun p=>by
 by_cases e1:a≤p∧p<a+(b - k)
 ·rw [if_pos e1];exact gt_cong _ (by omega)
 ·rw [if_neg e1]
  by_cases e2:a+(b - k)≤p∧p<b
  ·rw [if_pos e2];exact gt_cong _ (by omega)
  ·rw [if_neg e2]⟩
theorem RtR.same {l m:List Bs} {k i:Nat} (h:SwR l m (k - i) k i) (hi:i≤k):RtR l m (k - i) k (k+i):=⟨h.1,fun p=>by
 rw [h.2 p]
 by_cases e1:k - i≤p∧p<k - i+i
 ·rw [if_pos e1,if_pos (by omega)]
 ·rw [if_neg e1,if_neg (show ¬ (k - i≤p∧p<k - i+(k+i - k)) by omega)]
  by_cases e2:k≤p∧p<k+i
  ·rw [if_pos e2,if_pos (by omega)]
   exact gt_cong _ (by omega)
  ·rw [if_neg e2,if_neg (show ¬ (k - i+(k+i - k)≤p∧p<k+i) by omega)]⟩
theorem RtR.big {l m t:List Bs} {k i j:Nat} (h:SwR l m (k - i) k j) (hi:i≤k) (hj:j<i) (h2:RtR m t (k - i+j) k (k+j)):RtR l t (k - i) k (k+j):=⟨h2.1.trans h.1,fun p=>by
 rw [h2.2 p]
 by_cases e1:k - i≤p∧p<k - i+(k+j - k)
 ·rw [if_pos e1,if_neg (by omega),if_neg (by omega),h.2 p,if_pos (by omega)]
 ·rw [if_neg e1]
  by_cases e2:k - i+(k+j - k)≤p∧p<k+j
  ·rw [if_pos e2]
   by_cases e3:p<k - i+j+j
   ·rw [if_pos (by omega),h.2,if_neg (by omega),if_pos (by omega)]
    exact gt_cong _ (by omega)
   ·rw [if_neg (by omega),if_pos (by omega),h.2]
    rw [if_neg (by omega),if_neg (by omega)]
    exact gt_cong _ (by omega)
  ·rw [if_neg e2,if_neg (by omega),if_neg (by omega),h.2,if_neg (by omega),if_neg (by omega)]⟩
theorem RtR.small {l m t:List Bs} {k i j:Nat} (h:SwR l m (k - i) (k+j - i) i) (hi:i≤k) (hj:i<j) (h2:RtR m t (k - i) k (k+j - i)):RtR l t (k - i) k (k+j):=⟨h2.1.trans h.1,fun p=>by
 rw [h2.2 p]
 by_cases e1:k - i≤p∧p<k - i+(k+j - k)
 ·rw [if_pos e1]
  by_cases e3:p<k - i+(j - i)
  ·rw [if_pos (by omega),h.2,if_neg (by omega),if_neg (by omega)]
  ·by_cases e4:p<k+j - i
   ·rw [if_neg (by omega),if_pos (by omega),h.2,if_pos (by omega)]
    exact gt_cong _ (by omega)
   ·omega
 ·rw [if_neg e1]
  by_cases e2:k - i+(k+j - k)≤p∧p<k+j
  ·rw [if_pos e2,if_neg (by omega),if_neg (by omega),h.2,if_neg (by omega),if_pos (by omega)]
   exact gt_cong _ (by omega)
  ·rw [if_neg e2,if_neg (by omega),if_neg (by omega),h.2,if_neg (by omega),if_neg (by omega)]⟩
theorem RtR.up {l m:List Bs} {a k:Nat} (h:RtR l m a (a+1) (k+1)) (ha:a≤k) (hk:k+1<l.length):RtR l (exB m k (k+1)) a (a+1) (k+2):=by
 obtain ⟨hl,hg⟩:=h
 refine ⟨by rw [exB_len];exact hl,fun p=>?_⟩
 rw [exB_get _ _ _ _ (by omega) (by omega),hg k,hg (k+1),hg p]
 rw [if_neg (show ¬ (a≤k∧k<a+(k+1 - (a+1))) by omega),if_pos (show a+(k+1 - (a+1))≤k∧k<k+1 by omega),if_neg (show ¬ (a≤k+1∧k+1<a+(k+1 - (a+1))) by omega),if_neg (show ¬ (a+(k+1 - (a+1))≤k+1∧k+1<k+1) by omega)]
 by_cases e1:p=k+1
 ·rw [if_pos e1,if_neg (by omega),if_pos (by omega)]
  exact gt_cong _ (by omega)
 ·rw [if_neg e1]
  by_cases e2:p=k
  ·rw [if_pos e2,if_pos (by omega)]
   exact gt_cong _ (by omega)
  ·rw [if_neg e2]
   by_cases e3:a≤p∧p<a+(k+1 - (a+1))
   ·rw [if_pos e3,if_pos (by omega)]
   ·rw [if_neg e3,if_neg (show ¬ (a+(k+1 - (a+1))≤p∧p<k+1) by omega),if_neg (by omega),if_neg (by omega)]
theorem RtR.down {l m:List Bs} {k b:Nat} (h:RtR l m (k+1) b (b+1)) (hk:k+1≤b) (hb:b<l.length):RtR l (exB m (k+1) k) k b (b+1):=by
 obtain ⟨hl,hg⟩:=h
 refine ⟨by rw [exB_len];exact hl,fun p=>?_⟩
 rw [exB_get _ _ _ _ (by omega) (by omega),hg k,hg (k+1),hg p]
 rw [if_neg (show ¬ (k+1≤k∧k<k+1+(b+1 - b)) by omega),if_neg (show ¬ (k+1+(b+1 - b)≤k∧k<b+1) by omega),if_pos (show k+1≤k+1∧k+1<k+1+(b+1 - b) by omega)]
 by_cases e1:p=k
 ·rw [if_pos e1,if_pos (by omega)]
  exact gt_cong _ (by omega)
 ·rw [if_neg e1]
  by_cases e2:p=k+1
  ·rw [if_pos e2,if_neg (by omega),if_pos (by omega)]
   exact gt_cong _ (by omega)
  ·rw [if_neg e2,if_neg (by omega)]
   by_cases e3:k+1+(b+1 - b)≤p∧p<b+1
   ·rw [if_pos e3,if_neg (by omega),if_pos (by omega)]
    exact gt_cong _ (by omega)
   ·rw [if_neg e3,if_neg (by omega),if_neg (by omega)]
def rotB (l:List Bs) (a k b:Nat):List Bs:=l.take a++((l.drop k).take (b - k)++((l.drop a).take (k - a)++l.drop b))
theorem gtB_app (x y:List Bs) (p:Nat):gtB (x++y) p=if p<x.length then gtB x p else gtB y (p - x.length):=by
 unfold gtB
 simp only [List.getD_eq_getElem?_getD,List.getElem?_append]
 split<;>rfl
theorem gtB_take (l:List Bs) (n p:Nat) (h:p<n):gtB (l.take n) p=gtB l p:=by
 unfold gtB
 simp only [List.getD_eq_getElem?_getD,List.getElem?_take,if_pos h]
theorem gtB_drop (l:List Bs) (n p:Nat):gtB (l.drop n) p=gtB l (n+p):=by
 unfold gtB
 simp only [List.getD_eq_getElem?_getD,List.getElem?_drop]
theorem rotB_rt (l:List Bs) {a k b:Nat} (h1:a≤k) (h2:k≤b) (h3:b≤l.length):RtR l (rotB l a k b) a k b:=by
 have la:(l.take a).length=a:=by rw [List.length_take];omega
 have lk:((l.drop k).take (b - k)).length=b - k:=by rw [List.length_take,List.length_drop];omega
 have lx:((l.drop a).take (k - a)).length=k - a:=by rw [List.length_take,List.length_drop];omega
 refine ⟨by unfold rotB;simp only [List.length_append,la,lk,lx,List.length_drop];omega,fun p=>?_⟩
 unfold rotB
 rw [gtB_app,la]
 by_cases e0:p<a
 ·rw [if_pos e0,gtB_take _ _ _ e0,if_neg (by omega),if_neg (by omega)]
 ·rw [if_neg e0,gtB_app,lk]
  by_cases e1:p - a<b - k
  ·rw [if_pos e1,gtB_take _ _ _ e1,gtB_drop,if_pos (by omega)]
   exact gt_cong _ (by omega)
  ·rw [if_neg e1,gtB_app,lx,if_neg (show ¬ (a≤p∧p<a+(b - k)) by omega)]
   by_cases e2:p - a - (b - k)<k - a
   ·rw [if_pos e2,gtB_take _ _ _ e2,gtB_drop,if_pos (by omega)]
    exact gt_cong _ (by omega)
   ·rw [if_neg e2,gtB_drop,if_neg (by omega)]
    exact gt_cong _ (by omega)
theorem seg_split (l:List Bs) {a k:Nat} (h:a≤k):l.drop a=(l.drop a).take (k - a)++l.drop k:=by
 conv=>lhs;rw [← List.take_append_drop (k - a) (l.drop a)]
 rw [List.drop_drop,show a+(k - a)=k by omega]
theorem seg_mem {l:List Bs} {a k:Nat} {x:Bs} (h:x∈(l.drop a).take (k - a)):∃ p,a≤p∧p<k∧p<l.length∧gtB l p=x:=by
 obtain ⟨i,hi,rfl⟩:=List.getElem_of_mem h
 rw [List.length_take,List.length_drop] at hi
 refine ⟨a+i,by omega,by omega,by omega, ?_⟩
 rw [gtB_eq (by omega),List.getElem_take,List.getElem_drop]
theorem seg_in {l:List Bs} {a k p:Nat} (h1:a≤p) (h2:p<k) (h3:p<l.length):gtB l p∈(l.drop a).take (k - a):=by
 rw [gtB_eq h3,List.mem_take_iff_getElem]
 refine ⟨p - a,by rw [List.length_drop];omega, ?_⟩
 rw [List.getElem_drop]
 congr 1
 omega
theorem St.turn {A X Y B:List Bs} (h:∀ x∈X,∀ y∈Y,dpB x≠dpB y):St (A++(X++(Y++B))) (A++(Y++(X++B))):=by
 refine ⟨by simp only [List.length_append];omega,fun k=>?_⟩
 simp only [List.filter_append]
 congr 1
 by_cases hx:(X.filter fun s=>decide (dpB s=k))=[]
 ·rw [hx];simp
 ·obtain ⟨x,hx⟩:=List.exists_mem_of_ne_nil _ hx
  obtain ⟨hx,e⟩:=List.mem_filter.1 hx
  have hy:(Y.filter fun s=>decide (dpB s=k))=[]:=by
   rw [List.filter_eq_nil_iff]
   intro y hy
   have:=h x hx y hy
   simp only [decide_eq_true_eq] at e ⊢
   omega
  rw [hy];simp
theorem RtR.st {l m:List Bs} {a k b:Nat} (h:RtR l m a k b) (h1:a≤k) (h2:k≤b) (h3:b≤l.length) (hd:∀ p q,a≤p→p<k→k≤q→q<b→dpB (gtB l p)≠dpB (gtB l q)):St l m:=by
 have e:=h.one (rotB_rt l h1 h2 h3)
 rw [e]
 have hl:l=l.take a++((l.drop a).take (k - a)++((l.drop k).take (b - k)++l.drop b)):=by
  rw [← seg_split l h2,← seg_split l h1,List.take_append_drop]
 have hs:St (l.take a++((l.drop a).take (k - a)++((l.drop k).take (b - k)++l.drop b))) (rotB l a k b):=St.turn fun x hx y hy=>by
  obtain ⟨p,p1,p2,_,rfl⟩:=seg_mem hx
  obtain ⟨q,q1,q2,_,rfl⟩:=seg_mem hy
  exact hd p q p1 p2 q1 q2
 rwa [← hl] at hs
theorem St.part {l m:List Bs} {a b:Nat} (h:St l m) (hb:b≤l.length) (ha:a≤b) (ho:∀ p,p<a∨b≤p→gtB m p=gtB l p) {p:Nat} (h1:a≤p) (h2:p<b):∃ q,a≤q∧q<b∧gtB m p=gtB l q:=by
 have hl:l=l.take a++((l.drop a).take (b - a)++l.drop b):=by rw [← seg_split l ha,List.take_append_drop]
 have hm:m=m.take a++((m.drop a).take (b - a)++m.drop b):=by rw [← seg_split m ha,List.take_append_drop]
 have e1:m.take a=l.take a:=gt_ext2 (by rw [List.length_take,List.length_take,h.1]) fun p=>by
  by_cases e:p<a
  ·rw [gtB_take _ _ _ e,gtB_take _ _ _ e,ho p (.inl e)]
  ·have z:∀ n:List Bs,gtB (n.take a) p=[]:=fun n=>by unfold gtB;rw [List.getD_eq_getElem?_getD,List.getElem?_eq_none (by rw [List.length_take];omega)];rfl
   rw [z,z]
 have e2:m.drop b=l.drop b:=gt_ext2 (by rw [List.length_drop,List.length_drop,h.1]) fun p=>by rw [gtB_drop,gtB_drop,ho _ (.inr (by omega))]
 have hp:gtB m p∈(m.drop a).take (b - a):=seg_in h1 h2 (by rw [h.1];omega)
 generalize gtB m p=x at hp ⊢
 have hf:=h.2 (dpB x)
 rw [hl,hm,e1,e2] at hf
 simp only [List.filter_append] at hf
 have hf2:=List.append_cancel_right (List.append_cancel_left hf)
 have hp2:x∈((m.drop a).take (b - a)).filter fun s=>decide (dpB s=dpB x):=List.mem_filter.2 ⟨hp,by simp⟩
 rw [hf2] at hp2
 obtain ⟨q,q1,q2,_,q3⟩:=seg_mem (List.mem_filter.1 hp2).1
 exact ⟨q,q1,q2,q3.symm⟩
def Cross (l:List Bs) (a m b:Nat):Prop:=∀ p q,a≤p→p<m→m≤q→q<b→dpB (gtB l q)≤dpB (gtB l p)
theorem Fall.join {l:List Bs} {a m b:Nat} (h1:Fall l a m) (h2:Fall l m b) (h3:Cross l a m b):Fall l a b:=fun p q hp hpq hq=>by
 by_cases e1:q<m
 ·exact h1 p q hp hpq e1
 ·by_cases e2:m≤p
  ·exact h2 p q e2 hpq hq
  ·exact h3 p q hp (by omega) (by omega) hq
theorem Fall.part {l:List Bs} {a b c d:Nat} (h:Fall l a b) (h1:a≤c) (h2:d≤b):Fall l c d:=fun p q hp hpq hq=>h p q (by omega) hpq (by omega)
theorem Fall.le {l:List Bs} {a b p q:Nat} (h:Fall l a b) (h1:a≤p) (h2:p≤q) (h3:q<b):dpB (gtB l q)≤dpB (gtB l p):=by
 by_cases e:p=q
 ·rw [e];exact Nat.le_refl _
 ·exact h p q h1 (by omega) h3
theorem Fall.same {l m:List Bs} {a b:Nat} (h:Fall l a b) (he:∀ p,a≤p→p<b→gtB m p=gtB l p):Fall m a b:=fun p q hp hpq hq=>by
 rw [he p hp (by omega),he q (by omega) hq]
 exact h p q hp hpq hq
structure CutAt (l:List Bs) (a k b s e:Nat):Prop where
 lo:a≤s∧s≤k
 hi:k≤e∧e≤b
 gt:s<k→k<e→dpB (gtB l s)<dpB (gtB l (e - 1))
 le:a<s→e<b→dpB (gtB l e)≤dpB (gtB l (s - 1))
theorem CutAt.apart {l:List Bs} {a k b s e:Nat} (h:CutAt l a k b s e) (h1:Fall l a k) (h2:Fall l k b) {p q:Nat} (hp1:s≤p) (hp2:p<k) (hq1:k≤q) (hq2:q<e):dpB (gtB l p)<dpB (gtB l q):=by
 have h3:=h.gt (by omega) (by omega)
 have h4:=h1.le (p:=s) (q:=p) h.lo.1 hp1 hp2
 have h5:=h2.le (p:=q) (q:=e - 1) hq1 (by omega) (by have:=h.hi;omega)
 omega
theorem CutAt.turned {l m:List Bs} {a k b s e:Nat} (h:CutAt l a k b s e) (h1:Fall l a k) (h2:Fall l k b) (hb:b≤l.length) (hr:RtR l m s k e) {mid:Nat} (hm:s+(e - k)=mid) :
  St l m∧(∀ p,p<s∨e≤p→gtB m p=gtB l p)∧Fall m a s∧Fall m s mid∧Fall m mid e∧Fall m e b∧Cross m a mid b:=by
 have hlo:=h.lo
 have hhi:=h.hi
 have hg:=hr.2
 rw [hm] at hg
 have go:∀ p,p<s∨e≤p→gtB m p=gtB l p:=fun p hp=>by rw [hg,if_neg (by omega),if_neg (by omega)]
 have g1:∀ p,s≤p→p<mid→gtB m p=gtB l (p - s+k):=fun p q1 q2=>by rw [hg,if_pos (by omega)]
 have g2:∀ p,mid≤p→p<e→gtB m p=gtB l (p - mid+s):=fun p q1 q2=>by rw [hg,if_neg (by omega),if_pos (by omega)]
 refine ⟨hr.st (by omega) (by omega) (by omega) (fun p q q1 q2 q3 q4=>by have:=h.apart h1 h2 q1 q2 q3 q4;omega),go, ?_, ?_, ?_, ?_, ?_⟩
 ·intro p q q1 q2 q3
  rw [go p (by omega),go q (by omega)]
  exact h1 p q q1 q2 (by omega)
 ·intro p q q1 q2 q3
  rw [g1 p (by omega) (by omega),g1 q (by omega) (by omega)]
  exact h2 _ _ (by omega) (by omega) (by omega)
 ·intro p q q1 q2 q3
  rw [g2 p (by omega) (by omega),g2 q (by omega) (by omega)]
  exact h1 _ _ (by omega) (by omega) (by omega)
 ·intro p q q1 q2 q3
  rw [go p (by omega),go q (by omega)]
  exact h2 p q (by omega) q2 (by omega)
 ·intro p q q1 q2 q3 q4
  by_cases e1:p<s
  ·rw [go p (by omega)]
   by_cases e2:q<e
   ·rw [g2 q q3 e2]
    exact h1 _ _ q1 (by omega) (by omega)
   ·rw [go q (by omega)]
    have h3:=h.le (by omega) (by omega)
    have h4:=h1.le (p:=p) (q:=s - 1) q1 (by omega) (by omega)
    have h5:=h2.le (p:=e) (q:=q) (by omega) (by omega) (by omega)
    omega
  ·rw [g1 p (by omega) q2]
   by_cases e2:q<e
   ·rw [g2 q q3 e2]
    exact Nat.le_of_lt (h.apart h1 h2 (by omega) (by omega) (by omega) (by omega))
   ·rw [go q (by omega)]
    exact h2 _ _ (by omega) (by omega) (by omega)
theorem Cross.sorted {l t u:List Bs} {a m b:Nat} (h:Cross l a m b) (ha:a≤m) (hm:m≤b) (hb:b≤l.length) (h1:St l t) (o1:∀ p,p<a∨m≤p→gtB t p=gtB l p) (f1:Fall t a m) (h2:St t u) (o2:∀ p,p<m∨b≤p→gtB u p=gtB t p) (f2:Fall u m b):Fall u a b:=by
 refine Fall.join (f1.same fun p _ q=>o2 p (.inl q)) f2 fun p q p1 p2 q1 q2=>?_
 rw [o2 p (.inl p2)]
 obtain ⟨p',r1,r2,r3⟩:=h1.part (by omega) ha o1 p1 p2
 obtain ⟨q',s1,s2,s3⟩:=h2.part (by rw [h1.1];omega) hm o2 q1 q2
 rw [r3,s3,o1 q' (.inr s1)]
 exact h p' q' r1 r2 s1 s2
theorem one_up {l m:List Bs} {a i b:Nat} (hf:Fall l (a+1) b) (hb:b≤l.length) (h1:a+1≤i) (h2:i≤b) (g1:i=a+1∨dpB (gtB l a)<dpB (gtB l (i - 1))) (g2:i=b∨dpB (gtB l i)≤dpB (gtB l a)) (hr:RtR l m a (a+1) i) :
  St l m∧(∀ p,p<a∨b≤p→gtB m p=gtB l p)∧Fall m a b:=by
 have hd:∀ q,a+1≤q→q<i→dpB (gtB l a)<dpB (gtB l q):=fun q q1 q2=>by
  rcases g1 with g|g
  ·omega
  ·have:=hf.le (p:=q) (q:=i - 1) q1 (by omega) (by omega)
   omega
 have hc:CutAt l a (a+1) b a i:=⟨⟨Nat.le_refl _,by omega⟩,⟨h1,h2⟩,fun _ q=>hd _ (by omega) (by omega),fun q _=>by omega⟩
 obtain ⟨k1,k2,_,k4,k5,k6,k7⟩:=hc.turned (fun p q q1 q2 q3=>by omega) hf hb hr (mid:=a+(i - (a+1))) rfl
 refine ⟨k1,fun p hp=>k2 p (by omega),Fall.join k4 ?_ k7⟩
 refine Fall.join k5 k6 fun p q p1 p2 q1 q2=>?_
 have hg:=hr.2
 rw [hg q,if_neg (by omega),if_neg (by omega),hg p,if_neg (by omega),if_pos (by omega),show p - (a+(i - (a+1)))+a=a by omega]
 rcases g2 with g|g
 ·omega
 ·have:=hf.le (p:=i) (q:=q) (by omega) (by omega) (by omega)
  omega
theorem one_down {l m:List Bs} {a i k:Nat} (hf:Fall l a k) (hb:k+1≤l.length) (h1:a≤i) (h2:i≤k) (g1:i=a∨dpB (gtB l k)≤dpB (gtB l (i - 1))) (g2:i=k∨dpB (gtB l i)<dpB (gtB l k)) (hr:RtR l m i k (k+1)) :
  St l m∧(∀ p,p<a∨k+1≤p→gtB m p=gtB l p)∧Fall m a (k+1):=by
 have hd:∀ q,i≤q→q<k→dpB (gtB l q)<dpB (gtB l k):=fun q q1 q2=>by
  rcases g2 with g|g
  ·omega
  ·have:=hf.le (p:=i) (q:=q) (by omega) q1 q2
   omega
 have hc:CutAt l a k (k+1) i (k+1):=⟨⟨h1,h2⟩,⟨by omega,Nat.le_refl _⟩,fun q _=>by rw [show k+1 - 1=k by omega];exact hd i (Nat.le_refl _) q,fun _ q=>by omega⟩
 obtain ⟨k1,k2,k3,k4,k5,_,k7⟩:=hc.turned hf (fun p q q1 q2 q3=>by omega) hb hr (mid:=i+(k+1 - k)) rfl
 refine ⟨k1,fun p hp=>k2 p (by omega),Fall.join ?_ k5 k7⟩
 refine Fall.join k3 k4 fun p q p1 p2 q1 q2=>?_
 have hg:=hr.2
 rw [hg p,if_neg (by omega),if_neg (by omega),hg q,if_pos (by omega),show q - i+k=k by omega]
 rcases g1 with g|g
 ·omega
 ·have:=hf.le (p:=p) (q:=i - 1) p1 (by omega) (by omega)
  omega
def Bks (l:List Bs) (n s:Nat):Prop:=∀ t,Fall l (t*s) (min (t*s+s) n)
theorem Bks.all {l:List Bs} {n s:Nat} (h:Bks l n s) (hs:n≤s):Fall l 0 n:=by
 have:=h 0
 rwa [Nat.zero_mul,Nat.zero_add,Nat.min_eq_right hs] at this
def Half (l:List Bs) (n s k:Nat):Prop:=(∀ t,t<k→Fall l (t*(2*s)) (t*(2*s)+2*s))∧∀ t,2*k≤t→Fall l (t*s) (min (t*s+s) n)
theorem Bks.half {l:List Bs} {n s:Nat} (h:Bks l n s):Half l n s 0:=⟨fun _ ht=>absurd ht (Nat.not_lt_zero _),fun t _=>h t⟩
theorem dbl (k s:Nat):2*k*s=k*(2*s):=by rw [Nat.mul_comm 2 k,Nat.mul_assoc]
theorem dbl1 (k s:Nat):(2*k+1)*s=k*(2*s)+s:=by rw [Nat.succ_mul,dbl]
theorem Half.two {l:List Bs} {n s k:Nat} (h:Half l n s k) (hn:k*(2*s)+2*s≤n):Fall l (k*(2*s)) (k*(2*s)+s)∧Fall l (k*(2*s)+s) (k*(2*s)+2*s):=by
 have h1:=h.2 (2*k) (Nat.le_refl _)
 have h2:=h.2 (2*k+1) (by omega)
 rw [dbl,Nat.min_eq_left (by omega)] at h1
 rw [dbl1,Nat.min_eq_left (by omega)] at h2
 exact ⟨h1,by rwa [show k*(2*s)+2*s=k*(2*s)+s+s by omega]⟩
theorem mul_le {t k s:Nat} (h:t≤k):t*s≤k*s:=Nat.mul_le_mul_right s h
theorem Half.step {l m:List Bs} {n s k:Nat} (h:Half l n s k) (hf:Fall m (k*(2*s)) (k*(2*s)+2*s)) (ho:∀ p,p<k*(2*s)∨k*(2*s)+2*s≤p→gtB m p=gtB l p):Half m n s (k+1):=by
 refine ⟨fun t ht=>?_,fun t ht=>?_⟩
 ·by_cases e:t=k
  ·rw [e];exact hf
  ·refine (h.1 t (by omega)).same fun p _ p2=>ho p (.inl ?_)
   have h1:(t+1)*(2*s)≤k*(2*s):=mul_le (by omega)
   rw [Nat.succ_mul] at h1
   omega
 ·refine (h.2 t (by omega)).same fun p p1 _=>ho p (.inr ?_)
  have h1:(2*k+2)*s≤t*s:=mul_le (by omega)
  rw [Nat.add_mul,dbl] at h1
  omega
theorem Half.last {l:List Bs} {n s k:Nat} (h:Half l n s k) (h1:n<k*(2*s)+2*s) (h2:k*(2*s)+s<n):Fall l (k*(2*s)) (k*(2*s)+s)∧Fall l (k*(2*s)+s) n:=by
 have h3:=h.2 (2*k) (Nat.le_refl _)
 have h4:=h.2 (2*k+1) (by omega)
 rw [dbl,Nat.min_eq_left (by omega)] at h3
 rw [dbl1,Nat.min_eq_right (by omega)] at h4
 exact ⟨h3,h4⟩
theorem Half.done {l m:List Bs} {n s k:Nat} (h:Half l n s k) (h1:n<k*(2*s)+2*s) (hf:Fall m (k*(2*s)) n) (ho:∀ p,p<k*(2*s)→gtB m p=gtB l p):Bks m n (2*s):=fun t=>by
 by_cases e:t<k
 ·have h2:(t+1)*(2*s)≤k*(2*s):=mul_le (by omega)
  rw [Nat.succ_mul] at h2
  refine ((h.1 t e).part (Nat.le_refl _) (Nat.min_le_left _ _)).same fun p _ p2=>ho p ?_
  omega
 ·by_cases e2:t=k
  ·rw [e2]
   exact hf.part (Nat.le_refl _) (Nat.min_le_right _ _)
  ·intro p q p1 p2 p3
   have h2:(k+1)*(2*s)≤t*(2*s):=mul_le (by omega)
   rw [Nat.succ_mul] at h2
   omega
theorem Half.rest {l:List Bs} {n s k:Nat} (h:Half l n s k) (h2:n≤k*(2*s)+s):Fall l (k*(2*s)) n:=by
 have h3:=h.2 (2*k) (Nat.le_refl _)
 rwa [dbl,Nat.min_eq_right h2] at h3
def First (l:List Bs) (n s k:Nat):Prop:=∀ t,t<k→Fall l (t*s) (min (t*s+s) n)
theorem First.step {l m:List Bs} {n s k:Nat} (h:First l n s k) (hf:Fall m (k*s) (min (k*s+s) n)) (ho:∀ p,p<k*s→gtB m p=gtB l p):First m n s (k+1):=fun t ht=>by
 by_cases e:t=k
 ·rw [e];exact hf
 ·have h1:(t+1)*s≤k*s:=mul_le (by omega)
  rw [Nat.succ_mul] at h1
  exact (h t (by omega)).same fun p _ p2=>ho p (by omega)
theorem First.bks {l:List Bs} {n s k:Nat} (h:First l n s k) (hk:n≤k*s):Bks l n s:=fun t=>by
 by_cases e:t<k
 ·exact h t e
 ·intro p q p1 p2 p3
  have h1:k*s≤t*s:=mul_le (by omega)
  omega
end Go.Proofs.YtnlefnhdhigecaaGreatDoor

