/- Texts put together: AvStabD, AvStabE, AvStabG. -/
import Derived.Test.YtnlefnhdhigecaaGreatDoorAvG32
import Derived.BigRegion
namespace Go.Proofs.YtnlefnhdhigecaaGreatDoor
set_option maxRecDepth 100000
open Go.RowKit Av
theorem row_ex {w:World} {r c:Nat} {m:List Bs} (h:RowB w r strT 1 c (m.map encStr)) (x y:Nat) :
  RowB ((w.setCell ⟨r,x,none⟩ (.string ⟨(gtB m y).toArray⟩)).setCell ⟨r,y,none⟩ (.string ⟨(gtB m x).toArray⟩)).drew r strT 1 c ((exB m x y).map encStr)∧Kp (fun j=>j=r) w ((w.setCell ⟨r,x,none⟩ (.string ⟨(gtB m y).toArray⟩)).setCell ⟨r,y,none⟩ (.string ⟨(gtB m x).toArray⟩)).drew:=by
 have h1:=(h.set x (.string ⟨(gtB m y).toArray⟩)).set y (.string ⟨(gtB m x).toArray⟩)
 have e:((m.map encStr).set x (.string ⟨(gtB m y).toArray⟩)).set y (.string ⟨(gtB m x).toArray⟩)=(exB m x y).map encStr:=by
  unfold exB
  rw [List.map_set,List.map_set]
 rw [e] at h1
 have k1:Kp (fun j=>j=r) w ((w.setCell ⟨r,x,none⟩ (.string ⟨(gtB m y).toArray⟩)).setCell ⟨r,y,none⟩ (.string ⟨(gtB m x).toArray⟩)):=Kp.set1 (S:=fun j=>j=r) (Kp.set1 (S:=fun j=>j=r) (Kp.refl _ _) _ x _ rfl) _ y _ rfl
 exact ⟨h1.kp (Kp.refl (fun _=>False) _).drew (fun f=>f),k1.drew⟩
def SwRel (w:World) (r c a b k:Nat) (l:List Bs) (s10:Value) (wr:World):Prop:=∃ (i:Nat) (m:List Bs),i≤k∧s10=.int .i64 i∧SwR l m a b i∧RowB wr r strT 1 c (m.map encStr)∧Kp (fun j=>j=r) w wr
def SwPost (w:World) (r c a b k:Nat) (l:List Bs) (w':World):Prop:=∃ m,SwR l m a b k∧RowB w' r strT 1 c (m.map encStr)∧Kp (fun j=>j=r) w w'
set_option maxHeartbeats 3200000 in
theorem swapRange_any (r c a b k n cap:Nat) (l:List Bs) (fv:Value) (w:World) (h1:a+k≤b) (h2:b+k≤n) (hn:l.length=n) (hn1:n≤1000000) (h:RowB w r strT 1 c (l.map encStr)) :
  Calls Tryz.prog 315 #[.slice (some ⟨r,0,none⟩) n cap, .int .i64 a, .int .i64 b, .int .i64 k,fv] w fun e w'=>(∃ u,e=.returned u)∧SwPost w r c a b k l w':=by
 have HN:=Lib.hid hn
 have HR:=Lib.hid h
 clear hn h
 go_enter Tryz.func315,Tryz.ntmps315
 go_wp2_with (fail)
 go_loopw [10] (fun s10 wr=>SwRel w r c a b k l s10 wr) (fun s10 _=>k - (intOf s10).toNat)
 case atStart=>exact ⟨0,l,Nat.zero_le _,rfl,SwR.refl _ _ _,HR.out,Kp.refl _ _⟩
 case round=>
  clear HR
  obtain ⟨i,m,hi,rfl,hsw,hrow,hk⟩:=hrel
  have HSW:=Lib.hid hsw
  have HK:=Lib.hid hk
  have hml:m.length=n:=by rw [hsw.1];exact HN.out
  by_cases hlt:i<k
  ·have c1:=row_at hrow (j:=a+i) (by omega)
   have c0:=row_at hrow (j:=b+i) (by omega)
   have f1:=hrow.free (a+i)
   have f0:=hrow.free (b+i)
   have hWa:wrap64 ((a:Int)+(i:Int))=((a+i:Nat):Int):=by unfold wrap64;omega
   have hWb:wrap64 ((b:Int)+(i:Int))=((b+i:Nat):Int):=by unfold wrap64;omega
   have hVa:IntKind.i64.wrap ((a:Int)+(i:Int))=((a+i:Nat):Int):=by rw [IntWalk.i64_in _ (by omega)];omega
   have hVb:IntKind.i64.wrap ((b:Int)+(i:Int))=((b+i:Nat):Int):=by rw [IntWalk.i64_in _ (by omega)];omega
   have HROW:=Lib.hid hrow
   clear hrow hsw hk hml
   go_upto_region 3 with (fail)
   go_region
   have hsw2:=row_ex HROW.out (a+i) (b+i)
   generalize ((wr.setCell ⟨r,a+i,none⟩ (.string ⟨(gtB m (b+i)).toArray⟩)).setCell ⟨r,b+i,none⟩ (.string ⟨(gtB m (a+i)).toArray⟩)).drew=w2 at hsw2 ⊢
   have HS2:=Lib.hid hsw2
   clear hsw2 c1 c0 f1 f0
   go_wp2_with (fail)
   go_light
   refine ⟨⟨i+1,_, ?_, ?_,HSW.out.step ?_ ?_,HS2.out.1,HK.out.next HS2.out.2 (fun _ _ e=>e)⟩, ?_⟩
   ·omega
   ·go_num
   ·omega
   ·have:=HN.out;omega
   ·simp [intOf];omega
  ·have hik:i=k:=by omega
   have HR2:=Lib.hid hrow
   clear hrow hsw hk hml
   go_wp2_with (fail)
   go_end0
   exact ⟨⟨_,rfl⟩,m,by rw [← hik];exact HSW.out,HR2.out,HK.out⟩
def RtRel (w:World) (r c a k b:Nat) (l:List Bs) (s10 s11:Value) (wr:World):Prop:=∃ (i j:Nat) (m:List Bs),0<i∧0<j∧i≤k∧k+j≤l.length∧s10=.int .i64 i∧s11=.int .i64 j∧m.length=l.length∧(∀ t,RtR m t (k - i) k (k+j)→RtR l t a k b)∧RowB wr r strT 1 c (m.map encStr)∧Kp (fun j=>j=r) w wr
def RtPost (w:World) (r c a k b:Nat) (l:List Bs) (w':World):Prop:=∃ m,RtR l m a k b∧RowB w' r strT 1 c (m.map encStr)∧Kp (fun j=>j=r) w w'
set_option maxHeartbeats 3200000 in
theorem rotate_any (r c a k b n cap:Nat) (l:List Bs) (fv:Value) (w:World) (h1:a<k) (h2:k<b) (h3:b≤n) (hn:l.length=n) (hn1:n≤1000000) (h:RowB w r strT 1 c (l.map encStr)) :
  Calls Tryz.prog 292 #[.slice (some ⟨r,0,none⟩) n cap, .int .i64 a, .int .i64 k, .int .i64 b,fv] w fun e w'=>(∃ u,e=.returned u)∧RtPost w r c a k b l w':=by
 have HN:=Lib.hid hn
 have HR:=Lib.hid h
 clear hn h
 have hW1:wrap64 ((k:Int) - (a:Int))=((k - a:Nat):Int):=by unfold wrap64;omega
 have hW2:wrap64 ((b:Int) - (k:Int))=((b - k:Nat):Int):=by unfold wrap64;omega
 have hV1:IntKind.i64.wrap ((k:Int) - (a:Int))=((k - a:Nat):Int):=by rw [IntWalk.i64_in _ (by omega)];omega
 have hV2:IntKind.i64.wrap ((b:Int) - (k:Int))=((b - k:Nat):Int):=by rw [IntWalk.i64_in _ (by omega)];omega
 go_enter Tryz.func292,Tryz.ntmps292
 go_wp2_with (fail)
 go_loopw [10,11] (fun s10 s11 wr=>RtRel w r c a k b l s10 s11 wr) (fun s10 s11 _=>(intOf s10).toNat+(intOf s11).toNat)
 case atStart=>exact ⟨k - a,b - k,l,by omega,by omega,by omega,by have:=HN.out;omega,by go_num,by go_num,rfl,fun t ht=>by rwa [show k - (k - a)=a by omega,show k+(b - k)=b by omega] at ht,HR.out,Kp.refl _ _⟩
 case round=>
  clear HR hW1 hW2 hV1 hV2
  obtain ⟨i,j,m,hi0,hj0,hik,hjn,rfl,rfl,hml,hco,hrow,hk⟩:=hrel
  have HML:=Lib.hid hml
  have HCO:=Lib.hid hco
  have HROW:=Lib.hid hrow
  have HK:=Lib.hid hk
  have hjn2:k+j≤n:=by have:=HN.out;omega
  clear hml hco hrow hk hjn
  have hW1:wrap64 ((k:Int) - (i:Int))=((k - i:Nat):Int):=by unfold wrap64;omega
  have hV1:IntKind.i64.wrap ((k:Int) - (i:Int))=((k - i:Nat):Int):=by rw [IntWalk.i64_in _ (by omega)];omega
  by_cases he:i=j
  ·subst he
   have HC:=Lib.hid (swapRange_any r c (k - i) k i n cap m fv wr (by omega) (by omega) (by rw [HML.out];exact HN.out) hn1 HROW.out)
   go_wp2_with (fail)
   refine HC.out.mono ?_
   rintro e w1 ⟨⟨u,rfl⟩,m1,q1,q2,q3⟩
   have hq:=HCO.out _ (RtR.same q1 hik)
   have HP:Hid (RtPost w r c a k b l w1):=⟨m1,hq,q2,HK.out.next q3 (fun _ _ e=>e)⟩
   clear q1 q2 q3 hq HC
   go_wp2_with (fail)
   go_end0
   exact ⟨⟨_,rfl⟩,HP.out⟩
  ·by_cases hgt:j<i
   ·have hne:¬ (i:Int)=(j:Int):=by omega
    have HC:=Lib.hid (swapRange_any r c (k - i) k j n cap m fv wr (by omega) (by omega) (by rw [HML.out];exact HN.out) hn1 HROW.out)
    have hW2:wrap64 ((i:Int) - (j:Int))=((i - j:Nat):Int):=by unfold wrap64;omega
    have hV2:IntKind.i64.wrap ((i:Int) - (j:Int))=((i - j:Nat):Int):=by rw [IntWalk.i64_in _ (by omega)];omega
    go_wp2_with (fail)
    refine HC.out.mono ?_
    rintro e w1 ⟨⟨u,rfl⟩,m1,q1,q2,q3⟩
    have Q1:=Lib.hid q1
    have Q2:=Lib.hid q2
    have Q3:=Lib.hid (HK.out.next q3 (fun _ _ e=>e))
    clear q1 q2 q3 HC
    go_wp2_with (fail)
    go_light
    refine ⟨⟨i - j,j,m1, ?_, ?_, ?_, ?_, ?_, ?_, ?_, ?_,Q2.out,Q3.out⟩, ?_⟩
    ·omega
    ·omega
    ·omega
    ·have:=HN.out;omega
    ·go_num
    ·rfl
    ·rw [Q1.out.1];exact HML.out
    ·intro t ht
     rw [show k - (i - j)=k - i+j by omega] at ht
     exact HCO.out t (RtR.big Q1.out hik hgt ht)
    ·simp [intOf];omega
   ·have hne:¬ (i:Int)=(j:Int):=by omega
    have hng:¬ (j:Int)<(i:Int):=by omega
    have hcon:=swapRange_any r c (k - i) (k+j - i) i n cap m fv wr (by omega) (by omega) (by rw [HML.out];exact HN.out) hn1 HROW.out
    rw [show ((k+j - i:Nat):Int)=(k:Int)+(j:Int) - (i:Int) by omega] at hcon
    have HC:=Lib.hid hcon
    clear hcon
    have hW2:wrap64 ((j:Int) - (i:Int))=((j - i:Nat):Int):=by unfold wrap64;omega
    have hV2:IntKind.i64.wrap ((j:Int) - (i:Int))=((j - i:Nat):Int):=by rw [IntWalk.i64_in _ (by omega)];omega
    go_wp2_with (fail)
    refine HC.out.mono ?_
    rintro e w1 ⟨⟨u,rfl⟩,m1,q1,q2,q3⟩
    have Q1:=Lib.hid q1
    have Q2:=Lib.hid q2
    have Q3:=Lib.hid (HK.out.next q3 (fun _ _ e=>e))
    clear q1 q2 q3 HC
    go_wp2_with (fail)
    go_light
    refine ⟨⟨i,j - i,m1, ?_, ?_, ?_, ?_, ?_, ?_, ?_, ?_,Q2.out,Q3.out⟩, ?_⟩
    ·omega
    ·omega
    ·omega
    ·have:=HN.out;omega
    ·rfl
    ·go_num
    ·rw [Q1.out.1];exact HML.out
    ·intro t ht
     rw [show k+(j - i)=k+j - i by omega] at ht
     exact HCO.out t (RtR.small Q1.out hik (by omega) ht)
    ·simp [intOf];omega
end Go.Proofs.YtnlefnhdhigecaaGreatDoor

namespace Go.Proofs.YtnlefnhdhigecaaGreatDoor
set_option maxRecDepth 100000
open Go.RowKit Av
def Bs1Rel (w:World) (a b:Nat) (l:List Bs) (s10 s11:Value) (wr:World):Prop:=∃ i j:Nat,a+1≤i∧i≤j∧j≤b∧s10=.int .i64 i∧s11=.int .i64 j∧(i=a+1∨dpB (gtB l a)<dpB (gtB l (i - 1)))∧(j=b∨dpB (gtB l j)≤dpB (gtB l a))∧Ext w wr
def Up1Rel (w:World) (r c a i:Nat) (l:List Bs) (s13:Value) (wr:World):Prop:=∃ (k:Nat) (m:List Bs),a≤k∧k+1≤i∧s13=.int .i64 k∧RtR l m a (a+1) (k+1)∧RowB wr r strT 1 c (m.map encStr)∧Kp (fun j=>j=r) w wr
set_option maxHeartbeats 12800000 in
theorem symMerge_one (r c a b n cap:Nat) (l:List Bs) (w:World) (hG:GL w) (hl:∀ s∈l,s.length≤1000000) (hn:l.length=n) (hn1:n≤1000000) (h1:a+1<b) (h2:b≤n) (hf:Fall l (a+1) b) (h:RowB w r strT 1 c (l.map encStr)) :
  Calls Tryz.prog 248 #[.slice (some ⟨r,0,none⟩) n cap, .int .i64 a, .int .i64 ((a+1:Nat):Int), .int .i64 b, .func (.func 174) #[] #[]] w fun e w'=>(∃ u,e=.returned u)∧InsPost w r c a b l w':=by
 have HG:=Lib.hid hG
 have HN:=Lib.hid hn
 have HR:=Lib.hid h
 have HF:=Lib.hid hf
 have HSZ:Hid (∀ p,p<n→(gtB l p).length≤1000000):=fun p hp=>by
  have hp2:p<l.length:=by omega
  rw [gtB_eq hp2]
  exact hl _ (List.getElem_mem _)
 have hW0:wrap64 (((a+1:Nat):Int) - (a:Int))=1:=by unfold wrap64;omega
 have hV0:IntKind.i64.wrap (((a+1:Nat):Int) - (a:Int))=1:=by rw [IntWalk.i64_in _ (by omega)];omega
 clear hG hn h hf hl
 go_enter Tryz.func248,Tryz.ntmps248
 go_wp2_with (fail)
 go_loopw [10,11] (fun s10 s11 wr=>Bs1Rel w a b l s10 s11 wr) (fun s10 s11 _=>(intOf s11).toNat - (intOf s10).toNat)
 case atStart=>exact ⟨a+1,b,Nat.le_refl _,by omega,Nat.le_refl _,by go_num,rfl, .inl rfl, .inl rfl,Kp.refl _ _⟩
 case round=>
  clear hW0 hV0
  obtain ⟨i,j,hi,hij,hj,rfl,rfl,g1,g2,hk⟩:=hrel
  have G1:=Lib.hid g1
  have G2:=Lib.hid g2
  have HK:=Lib.hid hk
  have HROW:=Lib.hid (HR.out.kp hk (fun f=>f))
  clear g1 g2 hk
  by_cases hlt:i<j
  ·obtain ⟨hh,hhe⟩:∃ hh:Nat,(i+j) / 2=hh:=⟨_,rfl⟩
   have hh1:i≤hh∧hh<j:=by omega
   have hd2:((i:Int)+(j:Int)) / 2=(hh:Int):=by omega
   clear hhe
   have hcx:=row_at HROW.out (j:=hh) (by have:=HN.out;omega)
   have hcy:=row_at HROW.out (j:=a) (by have:=HN.out;omega)
   have HCX:=Lib.hid hcx
   have HCY:=Lib.hid hcy
   have HGW:=Lib.hid (HG.out.ext HK.out)
   have HCMP:Hid (∀ W,Ext wr W→Calls Tryz.prog 174 #[.string ⟨(gtB l (hh)).toArray⟩, .string ⟨(gtB l (a)).toArray⟩] W fun e w'=>e=.returned (.int .i64 (cmpD ⟨(gtB l (hh)).toArray⟩ ⟨(gtB l (a)).toArray⟩))∧Ext W w'):=fun W hW=>deepCmp_any _ _ W (HGW.out.ext hW) (by rw [Lib.size_eq];simpa using HSZ.out (hh) (by omega)) (by rw [Lib.size_eq];simpa using HSZ.out (a) (by omega))
   have hcl:=cmpD_lt ⟨(gtB l (hh)).toArray⟩ ⟨(gtB l (a)).toArray⟩
   obtain ⟨z,hz⟩:∃ z,cmpD ⟨(gtB l (hh)).toArray⟩ ⟨(gtB l (a)).toArray⟩=z:=⟨_,rfl⟩
   rw [hz] at HCMP hcl
   have HCL:=Lib.hid (show z<0↔dpB (gtB l (a))<dpB (gtB l (hh)) by simpa using hcl)
   have hbx:(0:Int)≤((hh:Nat):Int)∧((hh:Nat):Int)<(n:Int):=by omega
   have hby:(0:Int)≤((a:Nat):Int)∧((a:Nat):Int)<(n:Int):=by omega
   clear hcx hcy hcl hz
   have eg:∀ args w,(callFunc 174 args).run Tryz.prog w=.ok (.enter 174 args) w:=enters_of Tryz.func174 (by kernel_rfl) rfl
   go_upto_region 5 with (fail)
   clear hd2
   refine' wp_region_dag0 ((40, .val _)::(41, .val _)::(42, .val _)::(43, .val _)::(44, .val _)::(45, .val _)::(46, .val _)::(47, .val _)::(48, .val _)::(49, .val _)::(50, .val _)::[]) (by exact ⟨fun _ _ _ _ _=>trivial,⟨fun _ _ _ _ _=>trivial,⟨fun _ _ _ _ _=>trivial,⟨fun _ _ _ _ _=>trivial,⟨fun _ _ _ _ _=>trivial,⟨fun _ _ _ _ _=>trivial,⟨fun _ _ _ _ _=>trivial,⟨fun _ _ _ _ _=>trivial,⟨fun _ _ _ _ _=>trivial,⟨fun _ _ _ _ _=>trivial,⟨fun _ _ _ _ _=>trivial,trivial⟩⟩⟩⟩⟩⟩⟩⟩⟩⟩⟩) (by kernel_rfl) (by kernel_rfl) (by kernel_rfl) ?_
   rotate_left 11
   repeat (first
    | (refine wpD_skipv ?_ ?_ ?_
       focus rfl
       focus rfl
       simp only [Act.put,List.setIfInBounds_toArray,List.set_cons_succ,List.set_cons_zero])
    | (refine' wpD_val (c:=_) ?_ (fun w=>Kp.refl _ w) ?_ (fun wq hwq hfq=>?_) ?_
       rotate_left
       focus rfl
       focus rfl
       focus ((have c1:=hwq.cell HCX.out (fun f=>f);have c0:=hwq.cell HCY.out (fun f=>f));go_simp;first|done|rfl)
       simp only [Act.put,List.setIfInBounds_toArray,List.set_cons_succ,List.set_cons_zero])
    | (refine' wpD_con (c:=_) ?_ ?_ (fun wq hwq hfq=>?_) ?_
       rotate_left
       focus rfl
       focus rfl
       focus ((have c1:=hwq.cell HCX.out (fun f=>f);have c0:=hwq.cell HCY.out (fun f=>f));go_simp;(try (rw [dUpon_enter]));((with_reducible refine (HCMP.out _ hwq).mono ?_);rintro e w' ⟨rfl,hx⟩;exact DEnd.con hx))
       simp only [Act.put,List.setIfInBounds_toArray,List.set_cons_succ,List.set_cons_zero])
    | fail)
   refine wpD_nil ?_
   intro w1 hx1 hend
   clear hend
   have HK1:=Lib.hid (HK.out.trans hx1)
   clear hx1
   by_cases hz0:z<0
   ·have hd:=HCL.out.1 hz0
    have HD:=Lib.hid hd
    clear hd
    go_wp2_with (fail)
    go_light
    refine ⟨⟨hh+1,j, ?_, ?_,hj, ?_,rfl, .inr ?_,G2.out,HK1.out⟩, ?_⟩
    ·omega
    ·omega
    ·go_num
    ·rw [Nat.add_sub_cancel];exact HD.out
    ·simp [intOf];omega
   ·have hd:dpB (gtB l hh)≤dpB (gtB l a):=by
     have h1:=HCL.out
     have h2:¬ dpB (gtB l a)<dpB (gtB l hh):=fun h=>hz0 (h1.2 h)
     omega
    have HD:=Lib.hid hd
    clear hd
    go_wp2_with (fail)
    go_light
    refine ⟨⟨i,hh,hi, ?_, ?_,rfl,rfl,G1.out, .inr HD.out,HK1.out⟩, ?_⟩
    ·omega
    ·omega
    ·simp [intOf];omega
  ·have hji:j=i:=by omega
   subst hji
   obtain ⟨i0,rfl⟩:∃ i0,j=i0+1:=⟨j - 1,by omega⟩
   go_wp2_with (fail)
   go_loopw [13] (fun s13 wr=>Up1Rel w r c a (i0+1) l s13 wr) (fun s13 _=>i0 - (intOf s13).toNat)
   case atStart=>exact ⟨a,l,Nat.le_refl _,by omega,rfl,RtR.none l (by omega) (by omega) (.inr rfl),HROW.out,Ext.kp HK.out⟩
   case round=>
    clear HROW HK
    obtain ⟨k,m,hk1,hk2,rfl,hrt,hrow,hk⟩:=hrel
    have HRT:=Lib.hid hrt
    have HROWM:=Lib.hid hrow
    have HK:=Lib.hid hk
    have HML:Hid (m.length=n):=by show m.length=n;rw [hrt.1];exact HN.out
    clear hrt hrow hk
    by_cases hlt2:k<i0
    ·have hrow:=HROWM.out
     have c1:=row_at hrow (j:=k) (by have:=HML.out;omega)
     have c0:=row_at hrow (j:=k+1) (by have:=HML.out;omega)
     have f1:=hrow.free (k)
     have f0:=hrow.free (k+1)
     clear hrow
     go_upto_region 11 with (fail)
     go_region
     have hsw:=row_ex HROWM.out (k) (k+1)
     generalize ((wr.setCell ⟨r,k,none⟩ (.string ⟨(gtB m (k+1)).toArray⟩)).setCell ⟨r,k+1,none⟩ (.string ⟨(gtB m (k)).toArray⟩)).drew=w2 at hsw ⊢
     have HSW:=Lib.hid hsw
     clear hsw c1 c0 f1 f0
     go_wp2_with (fail)
     go_light
     refine ⟨⟨k+1,_, ?_, ?_, ?_,HRT.out.up ?_ ?_,HSW.out.1,HK.out.next HSW.out.2 (fun _ _ e=>e)⟩, ?_⟩
     ·omega
     ·omega
     ·go_num
     ·omega
     ·have:=HN.out;omega
     ·simp [intOf];omega
    ·have hki:k=i0:=by omega
     subst hki
     have hup:=one_up HF.out (by have:=HN.out;omega) (by omega) hj G1.out G2.out HRT.out
     have HUP:=Lib.hid hup
     clear hup
     go_wp2_with (fail)
     refine bodyPost_ret (results_none rfl _ _ _) rfl ?_
     exact ⟨⟨_,rfl⟩,m,HUP.out.1,HUP.out.2.1,HUP.out.2.2,HROWM.out,HK.out⟩
end Go.Proofs.YtnlefnhdhigecaaGreatDoor

namespace Go.Proofs.YtnlefnhdhigecaaGreatDoor
set_option maxRecDepth 100000
open Go.RowKit Av
def Bs2Rel (w:World) (a k:Nat) (l:List Bs) (s14 s15:Value) (wr:World):Prop:=∃ i j:Nat,a≤i∧i≤j∧j≤k∧s14=.int .i64 i∧s15=.int .i64 j∧(i=a∨dpB (gtB l k)≤dpB (gtB l (i - 1)))∧(j=k∨dpB (gtB l j)<dpB (gtB l k))∧Ext w wr
def Dn1Rel (w:World) (r c i k:Nat) (l:List Bs) (s17:Value) (wr:World):Prop:=∃ (q:Nat) (m:List Bs),i≤q∧q≤k∧s17=.int .i64 q∧RtR l m q k (k+1)∧RowB wr r strT 1 c (m.map encStr)∧Kp (fun j=>j=r) w wr
set_option maxHeartbeats 12800000 in
theorem symMerge_last (r c a k n cap:Nat) (l:List Bs) (w:World) (hG:GL w) (hl:∀ s∈l,s.length≤1000000) (hn:l.length=n) (hn1:n≤1000000) (h1:a+1<k) (h2:k+1≤n) (hf:Fall l a k) (h:RowB w r strT 1 c (l.map encStr)) :
  Calls Tryz.prog 248 #[.slice (some ⟨r,0,none⟩) n cap, .int .i64 a, .int .i64 k, .int .i64 ((k+1:Nat):Int), .func (.func 174) #[] #[]] w fun e w'=>(∃ u,e=.returned u)∧InsPost w r c a (k+1) l w':=by
 have HG:=Lib.hid hG
 have HN:=Lib.hid hn
 have HR:=Lib.hid h
 have HF:=Lib.hid hf
 have HSZ:Hid (∀ p,p<n→(gtB l p).length≤1000000):=fun p hp=>by
  have hp2:p<l.length:=by omega
  rw [gtB_eq hp2]
  exact hl _ (List.getElem_mem _)
 have ht0:((k:Int) - (a:Int) == 1)=false:=by rw [beq_eq_false_iff_ne];omega
 clear hG hn h hf hl
 go_enter Tryz.func248,Tryz.ntmps248
 go_wp2_with (fail)
 go_loopw [14,15] (fun s14 s15 wr=>Bs2Rel w a k l s14 s15 wr) (fun s14 s15 _=>(intOf s15).toNat - (intOf s14).toNat)
 case atStart=>exact ⟨a,k,Nat.le_refl _,by omega,Nat.le_refl _,rfl,rfl, .inl rfl, .inl rfl,Kp.refl _ _⟩
 case round=>
  clear ht0
  obtain ⟨i,j,hi,hij,hj,rfl,rfl,g1,g2,hk⟩:=hrel
  have G1:=Lib.hid g1
  have G2:=Lib.hid g2
  have HK:=Lib.hid hk
  have HROW:=Lib.hid (HR.out.kp hk (fun f=>f))
  clear g1 g2 hk
  by_cases hlt:i<j
  ·obtain ⟨hh,hhe⟩:∃ hh:Nat,(i+j) / 2=hh:=⟨_,rfl⟩
   have hh1:i≤hh∧hh<j:=by omega
   have hd2:((i:Int)+(j:Int)) / 2=(hh:Int):=by omega
   clear hhe
   have hcx:=row_at HROW.out (j:=k) (by have:=HN.out;omega)
   have hcy:=row_at HROW.out (j:=hh) (by have:=HN.out;omega)
   have HCX:=Lib.hid hcx
   have HCY:=Lib.hid hcy
   have HGW:=Lib.hid (HG.out.ext HK.out)
   have HCMP:Hid (∀ W,Ext wr W→Calls Tryz.prog 174 #[.string ⟨(gtB l (k)).toArray⟩, .string ⟨(gtB l (hh)).toArray⟩] W fun e w'=>e=.returned (.int .i64 (cmpD ⟨(gtB l (k)).toArray⟩ ⟨(gtB l (hh)).toArray⟩))∧Ext W w'):=fun W hW=>deepCmp_any _ _ W (HGW.out.ext hW) (by rw [Lib.size_eq];simpa using HSZ.out (k) (by omega)) (by rw [Lib.size_eq];simpa using HSZ.out (hh) (by omega))
   have hcl:=cmpD_lt ⟨(gtB l (k)).toArray⟩ ⟨(gtB l (hh)).toArray⟩
   obtain ⟨z,hz⟩:∃ z,cmpD ⟨(gtB l (k)).toArray⟩ ⟨(gtB l (hh)).toArray⟩=z:=⟨_,rfl⟩
   rw [hz] at HCMP hcl
   have HCL:=Lib.hid (show z<0↔dpB (gtB l (hh))<dpB (gtB l (k)) by simpa using hcl)
   have hbx:(0:Int)≤((k:Nat):Int)∧((k:Nat):Int)<(n:Int):=by omega
   have hby:(0:Int)≤((hh:Nat):Int)∧((hh:Nat):Int)<(n:Int):=by omega
   clear hcx hcy hcl hz
   have eg:∀ args w,(callFunc 174 args).run Tryz.prog w=.ok (.enter 174 args) w:=enters_of Tryz.func174 (by kernel_rfl) rfl
   go_upto_region 17 with (fail)
   clear hd2
   refine' wp_region_dag0 ((92, .val _)::(93, .val _)::(94, .val _)::(95, .val _)::(96, .val _)::(97, .val _)::(98, .val _)::(99, .val _)::(100, .val _)::(101, .val _)::(102, .val _)::(103, .val _)::[]) (by exact ⟨fun _ _ _ _ _=>trivial,⟨fun _ _ _ _ _=>trivial,⟨fun _ _ _ _ _=>trivial,⟨fun _ _ _ _ _=>trivial,⟨fun _ _ _ _ _=>trivial,⟨fun _ _ _ _ _=>trivial,⟨fun _ _ _ _ _=>trivial,⟨fun _ _ _ _ _=>trivial,⟨fun _ _ _ _ _=>trivial,⟨fun _ _ _ _ _=>trivial,⟨fun _ _ _ _ _=>trivial,⟨fun _ _ _ _ _=>trivial,trivial⟩⟩⟩⟩⟩⟩⟩⟩⟩⟩⟩⟩) (by kernel_rfl) (by kernel_rfl) (by kernel_rfl) ?_
   rotate_left 12
   repeat (first
    | (refine wpD_skipv ?_ ?_ ?_
       focus rfl
       focus rfl
       simp only [Act.put,List.setIfInBounds_toArray,List.set_cons_succ,List.set_cons_zero])
    | (refine' wpD_val (c:=_) ?_ (fun w=>Kp.refl _ w) ?_ (fun wq hwq hfq=>?_) ?_
       rotate_left
       focus rfl
       focus rfl
       focus ((have c1:=hwq.cell HCX.out (fun f=>f);have c0:=hwq.cell HCY.out (fun f=>f));go_simp;first|done|rfl)
       simp only [Act.put,List.setIfInBounds_toArray,List.set_cons_succ,List.set_cons_zero])
    | (refine' wpD_con (c:=_) ?_ ?_ (fun wq hwq hfq=>?_) ?_
       rotate_left
       focus rfl
       focus rfl
       focus ((have c1:=hwq.cell HCX.out (fun f=>f);have c0:=hwq.cell HCY.out (fun f=>f));go_simp;(try (rw [dUpon_enter]));((with_reducible refine (HCMP.out _ hwq).mono ?_);rintro e w' ⟨rfl,hx⟩;exact DEnd.con hx))
       simp only [Act.put,List.setIfInBounds_toArray,List.set_cons_succ,List.set_cons_zero])
    | fail)
   refine wpD_nil ?_
   intro w1 hx1 hend
   clear hend
   have HK1:=Lib.hid (HK.out.trans hx1)
   clear hx1
   generalize hbz:decide (z<0)=bz
   have HBZ:=Lib.hid hbz
   clear hbz
   cases bz with
   | true=>
     have hz0:z<0:=of_decide_eq_true HBZ.out
     have hd:=HCL.out.1 hz0
     have HD:=Lib.hid hd
     clear hd
     go_wp2_with (fail)
     go_light
     refine ⟨⟨i,hh,hi, ?_, ?_,rfl,rfl,G1.out, .inr HD.out,HK1.out⟩, ?_⟩
     ·omega
     ·omega
     ·simp [intOf];omega
   | false=>
     have hz0:¬ z<0:=of_decide_eq_false HBZ.out
     have hd:dpB (gtB l k)≤dpB (gtB l hh):=by
      have h1:=HCL.out
      have h2:¬ dpB (gtB l hh)<dpB (gtB l k):=fun h=>hz0 (h1.2 h)
      omega
     have HD:=Lib.hid hd
     clear hd
     go_wp2_with (fail)
     go_light
     refine ⟨⟨hh+1,j, ?_, ?_,hj, ?_,rfl, .inr ?_,G2.out,HK1.out⟩, ?_⟩
     ·omega
     ·omega
     ·go_num
     ·rw [Nat.add_sub_cancel];exact HD.out
     ·simp [intOf];omega
  ·have hji:j=i:=by omega
   subst hji
   go_wp2_with (fail)
   go_loopw [17] (fun s17 wr=>Dn1Rel w r c j k l s17 wr) (fun s17 _=>(intOf s17).toNat)
   case atStart=>exact ⟨k,l,by omega,Nat.le_refl _,rfl,RtR.none l (Nat.le_refl _) (by omega) (.inl rfl),HROW.out,Ext.kp HK.out⟩
   case round=>
    clear HROW HK
    obtain ⟨q,m,hk1,hk2,rfl,hrt,hrow,hk⟩:=hrel
    have HRT:=Lib.hid hrt
    have HROWM:=Lib.hid hrow
    have HK:=Lib.hid hk
    have HML:Hid (m.length=n):=by show m.length=n;rw [hrt.1];exact HN.out
    clear hrt hrow hk
    by_cases hlt2:j<q
    ·obtain ⟨q0,rfl⟩:∃ q0,q=q0+1:=⟨q - 1,by omega⟩
     have hrow:=HROWM.out
     have c1:=row_at hrow (j:=q0+1) (by have:=HML.out;omega)
     have c0:=row_at hrow (j:=q0) (by have:=HML.out;omega)
     have f1:=hrow.free (q0+1)
     have f0:=hrow.free (q0)
     clear hrow
     go_upto_region 23 with (fail)
     go_region
     have hsw:=row_ex HROWM.out (q0+1) (q0)
     generalize ((wr.setCell ⟨r,q0+1,none⟩ (.string ⟨(gtB m (q0)).toArray⟩)).setCell ⟨r,q0,none⟩ (.string ⟨(gtB m (q0+1)).toArray⟩)).drew=w2 at hsw ⊢
     have HSW:=Lib.hid hsw
     clear hsw c1 c0 f1 f0
     go_wp2_with (fail)
     go_light
     refine ⟨⟨q0,_, ?_, ?_, ?_,HRT.out.down ?_ ?_,HSW.out.1,HK.out.next HSW.out.2 (fun _ _ e=>e)⟩, ?_⟩
     ·omega
     ·omega
     ·go_num
     ·omega
     ·have:=HN.out;omega
     ·simp [intOf]
    ·have hki:q=j:=by omega
     subst hki
     have hdn:=one_down HF.out (by have:=HN.out;omega) hi hk2 G1.out G2.out HRT.out
     have HDN:=Lib.hid hdn
     clear hdn
     go_wp2_with (fail)
     refine bodyPost_ret (results_none rfl _ _ _) rfl ?_
     exact ⟨⟨_,rfl⟩,m,HDN.out.1,HDN.out.2.1,HDN.out.2.2,HROWM.out,HK.out⟩
end Go.Proofs.YtnlefnhdhigecaaGreatDoor

