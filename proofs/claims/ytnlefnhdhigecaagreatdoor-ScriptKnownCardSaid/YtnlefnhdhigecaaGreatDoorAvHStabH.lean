
/- Walks: slices.symMergeCmpFunc at strings. -/
import Derived.Test.YtnlefnhdhigecaaGreatDoorAvG33
namespace Go.Proofs.YtnlefnhdhigecaaGreatDoor
set_option maxRecDepth 100000
open Go.RowKit Av
def SyRel (w:World) (l:List Bs) (mid k s0 r0:Nat) (s20 s21:Value) (wr:World):Prop:=∃ s j:Nat,s0≤s∧s≤j∧j≤r0∧s20=.int .i64 s∧s21=.int .i64 j∧(s=s0∨dpB (gtB l (mid+k - s))≤dpB (gtB l (s - 1)))∧(j=r0∨dpB (gtB l j)<dpB (gtB l (mid+k - 1 - j)))∧Ext w wr
def OutB (a b:Nat) (l m:List Bs):Prop:=∀ p,p<a∨b≤p→gtB m p=gtB l p
def SymAt (r c n cap d:Nat):Prop:=∀ (a k b:Nat) (l:List Bs) (w:World),b - a≤d→GL w→(∀ s∈l,s.length≤1000000)→l.length=n→a<k→k<b→b≤n→Fall l a k→Fall l k b→RowB w r strT 1 c (l.map encStr)→
 Calls Tryz.prog 248 #[.slice (some ⟨r,0,none⟩) n cap, .int .i64 a, .int .i64 k, .int .i64 b, .func (.func 174) #[] #[]] w fun e w'=>(∃ u,e=.returned u)∧InsPost w r c a b l w'
set_option maxHeartbeats 25600000 in
theorem symMerge_far (r c n cap d:Nat) (hg:0≠r) (hn1:n≤1000000) (ih:SymAt r c n cap d) (a k b:Nat) (l:List Bs) (w:World) (hd:b - a≤d+1) (hG:GL w) (hl:∀ s∈l,s.length≤1000000) (hn:l.length=n) (hak:a+1<k) (hkb:k+1<b) (hbn:b≤n) (hf1:Fall l a k) (hf2:Fall l k b) (h:RowB w r strT 1 c (l.map encStr)) (hkm:(a+b) / 2<k) :
  Calls Tryz.prog 248 #[.slice (some ⟨r,0,none⟩) n cap, .int .i64 a, .int .i64 k, .int .i64 b, .func (.func 174) #[] #[]] w fun e w'=>(∃ u,e=.returned u)∧InsPost w r c a b l w':=by
 have HG:=Lib.hid hG
 have HN:=Lib.hid hn
 have HR:=Lib.hid h
 have HF1:=Lib.hid hf1
 have HF2:=Lib.hid hf2
 have HL:=Lib.hid hl
 have HIH:=Lib.hid ih
 have HGR:=Lib.hid hg
 have HSZ:Hid (∀ p,p<n→(gtB l p).length≤1000000):=fun p hp=>by
  have hp2:p<l.length:=by omega
  rw [gtB_eq hp2]
  exact hl _ (List.getElem_mem _)
 obtain ⟨mid,hmm⟩:∃ mid:Nat,(a+b) / 2=mid:=⟨_,rfl⟩
 rw [hmm] at hkm
 have hm1:2*mid≤a+b∧a+b≤2*mid+1:=by omega
 have hmv:((a:Int)+(b:Int)) / 2=(mid:Int):=by omega
 have ht0:((k:Int) - (a:Int) == 1)=false:=by rw [beq_eq_false_iff_ne];omega
 have ht1:((b:Int) - (k:Int) == 1)=false:=by rw [beq_eq_false_iff_ne];omega
 have HT:Hid True:=trivial
 clear hG hn h hf1 hf2 hl hmm ih hg
 go_enter Tryz.func248,Tryz.ntmps248
 go_wp2_with (fail)
 clear ht0 ht1 hmv
 go_loopw [20,21] (fun s20 s21 wr=>SyRel w l mid k (mid+k - b) (mid) s20 s21 wr) (fun s20 s21 _=>(intOf s21).toNat - (intOf s20).toNat)
 case atStart=>exact ⟨mid+k - b,mid,Nat.le_refl _,by omega,Nat.le_refl _,by go_num,by go_num, .inl rfl, .inl rfl,Kp.refl _ _⟩
 case round=>
  clear HT
  obtain ⟨s,j,hs,hsj,hj,rfl,rfl,g1,g2,hk⟩:=hrel
  have G1:=Lib.hid g1
  have G2:=Lib.hid g2
  have HK:=Lib.hid hk
  have HROW:=Lib.hid (HR.out.kp hk (fun f=>f))
  clear g1 g2 hk
  by_cases hlt:s<j
  ·as_aux_lemma=>
    obtain ⟨hh,hhe⟩:∃ hh:Nat,(s+j) / 2=hh:=⟨_,rfl⟩
    have hh1:s≤hh∧hh<j:=by omega
    have hd2:((s:Int)+(j:Int)) / 2=(hh:Int):=by omega
    obtain ⟨pc,hpc⟩:∃ pc:Nat,mid+k - 1 - hh=pc:=⟨_,rfl⟩
    have hpb:pc<n:=by omega
    have hpv:(mid:Int)+(k:Int) - 1 - (hh:Int)=(pc:Int):=by omega
    have hpw:IntKind.i64.wrap (pc:Int)=(pc:Int):=IntWalk.i64_in _ (by omega)
    have HPC:=Lib.hid hpc
    clear hhe hpc
    have hcx:=row_at HROW.out (j:=pc) (by have:=HN.out;omega)
    have hcy:=row_at HROW.out (j:=hh) (by have:=HN.out;omega)
    have HCX:=Lib.hid hcx
    have HCY:=Lib.hid hcy
    have HGW:=Lib.hid (HG.out.ext HK.out)
    have HCMP:Hid (∀ W,Ext wr W→Calls Tryz.prog 174 #[.string ⟨(gtB l (pc)).toArray⟩, .string ⟨(gtB l (hh)).toArray⟩] W fun e w'=>e=.returned (.int .i64 (cmpD ⟨(gtB l (pc)).toArray⟩ ⟨(gtB l (hh)).toArray⟩))∧Ext W w'):=fun W hW=>deepCmp_any _ _ W (HGW.out.ext hW) (by rw [Lib.size_eq];simpa using HSZ.out (pc) (by omega)) (by rw [Lib.size_eq];simpa using HSZ.out (hh) (by omega))
    have hcl:=cmpD_lt ⟨(gtB l (pc)).toArray⟩ ⟨(gtB l (hh)).toArray⟩
    obtain ⟨z,hz⟩:∃ z,cmpD ⟨(gtB l (pc)).toArray⟩ ⟨(gtB l (hh)).toArray⟩=z:=⟨_,rfl⟩
    rw [hz] at HCMP hcl
    have HCL:=Lib.hid (show z<0↔dpB (gtB l (hh))<dpB (gtB l (pc)) by simpa using hcl)
    have hbx:(0:Int)≤((pc:Nat):Int)∧((pc:Nat):Int)<(n:Int):=by omega
    have hby:(0:Int)≤((hh:Nat):Int)∧((hh:Nat):Int)<(n:Int):=by omega
    clear hcx hcy hcl hz
    have eg:∀ args w,(callFunc 174 args).run Tryz.prog w=.ok (.enter 174 args) w:=enters_of Tryz.func174 (by kernel_rfl) rfl
    go_upto_region 35 with (fail)
    clear hd2
    refine' wp_region_dag0 ((158, .val _)::(159, .val _)::(160, .val _)::(161, .val _)::(162, .val _)::(163, .val _)::(164, .val _)::(165, .val _)::(166, .val _)::(167, .val _)::(168, .val _)::(169, .val _)::(170, .val _)::(171, .val _)::[]) (by exact ⟨fun _ _ _ _ _=>trivial,⟨fun _ _ _ _ _=>trivial,⟨fun _ _ _ _ _=>trivial,⟨fun _ _ _ _ _=>trivial,⟨fun _ _ _ _ _=>trivial,⟨fun _ _ _ _ _=>trivial,⟨fun _ _ _ _ _=>trivial,⟨fun _ _ _ _ _=>trivial,⟨fun _ _ _ _ _=>trivial,⟨fun _ _ _ _ _=>trivial,⟨fun _ _ _ _ _=>trivial,⟨fun _ _ _ _ _=>trivial,⟨fun _ _ _ _ _=>trivial,⟨fun _ _ _ _ _=>trivial,trivial⟩⟩⟩⟩⟩⟩⟩⟩⟩⟩⟩⟩⟩⟩) (by kernel_rfl) (by kernel_rfl) (by kernel_rfl) ?_
    rotate_left 14
    repeat (first
     | (refine wpD_skipv ?_ ?_ ?_
        focus rfl
        focus rfl
        simp only [Act.put,List.setIfInBounds_toArray,List.set_cons_succ,List.set_cons_zero])
     | (refine' wpD_val (c:=_) ?_ (fun w=>Kp.refl _ w) ?_ (fun wq hwq hfq=>?_) ?_
        rotate_left
        focus rfl
        focus rfl
        focus ((have c1:=hwq.cell HCX.out (fun f=>f);have c0:=hwq.cell HCY.out (fun f=>f));go_simp;first|done|rfl)
        simp only [Act.put,List.setIfInBounds_toArray,List.set_cons_succ,List.set_cons_zero])
     | (refine' wpD_con (c:=_) ?_ ?_ (fun wq hwq hfq=>?_) ?_
        rotate_left
        focus rfl
        focus rfl
        focus ((have c1:=hwq.cell HCX.out (fun f=>f);have c0:=hwq.cell HCY.out (fun f=>f));go_simp;(try (rw [dUpon_enter]));((with_reducible refine (HCMP.out _ hwq).mono ?_);rintro e w' ⟨rfl,hx⟩;exact DEnd.con hx))
        simp only [Act.put,List.setIfInBounds_toArray,List.set_cons_succ,List.set_cons_zero])
     | fail)
    refine wpD_nil ?_
    intro w1 hx1 hend
    clear hend
    have HK1:=Lib.hid (HK.out.trans hx1)
    clear hx1
    generalize hbz:decide (z<0)=bz
    have HBZ:=Lib.hid hbz
    clear hbz
    cases bz with
    | true=>
      as_aux_lemma=>
       have hz0:z<0:=of_decide_eq_true HBZ.out
       have hd:=HCL.out.1 hz0
       rw [← HPC.out] at hd
       have HD:=Lib.hid hd
       clear hd
       go_wp2_with (fail)
       go_light
       refine ⟨⟨s,hh,hs, ?_, ?_,rfl,rfl,G1.out, .inr HD.out,HK1.out⟩, ?_⟩
       ·omega
       ·omega
       ·simp [intOf];omega
    | false=>
      as_aux_lemma=>
       have hz0:¬ z<0:=of_decide_eq_false HBZ.out
       have hd:dpB (gtB l (mid+k - (hh+1)))≤dpB (gtB l hh):=by
        have h1:=HCL.out
        have h2:¬ dpB (gtB l hh)<dpB (gtB l pc):=fun h=>hz0 (h1.2 h)
        rw [← HPC.out,show mid+k - 1 - hh=mid+k - (hh+1) by omega] at h2
        omega
       have HD:=Lib.hid hd
       clear hd
       go_wp2_with (fail)
       go_light
       refine ⟨⟨hh+1,j, ?_, ?_,hj, ?_,rfl, .inr ?_,G2.out,HK1.out⟩, ?_⟩
       ·omega
       ·omega
       ·go_num
       ·rw [Nat.add_sub_cancel];exact HD.out
       ·simp [intOf];omega
  ·as_aux_lemma=>
    have hji:j=s:=by omega
    subst hji
    obtain ⟨e,he⟩:∃ e,mid+k - j=e:=⟨_,rfl⟩
    have hev:(mid:Int)+(k:Int) - (j:Int)=(e:Int):=by omega
    have hcut:CutAt l a k b j e:=by
     have g1:=G1.out
     have g2:=G2.out
     refine ⟨⟨by omega,by omega⟩,⟨by omega,by omega⟩,fun q1 q2=>?_,fun q1 q2=>?_⟩
     ·rcases g2 with g|g
      ·omega
      ·rw [show e - 1=mid+k - 1 - j by omega];exact g
     ·rcases g1 with g|g
      ·omega
      ·rw [← he];exact g
    have hmid:j+(e - k)=mid:=by omega
    have hsm:j≤mid∧mid≤e:=by omega
    have HCUT:=Lib.hid hcut
    have hjk:=hcut.lo
    have hke:=hcut.hi
    have HTURN:Hid (∀ m,RtR l m j k e→St l m∧OutB j e l m∧Fall m a j∧Fall m j mid∧Fall m mid e∧Fall m e b∧Cross m a mid b):=fun m hrt=>hcut.turned HF1.out HF2.out (by have:=HN.out;omega) hrt hmid
    clear he hcut G1 G2
    go_upto_region 39 with (fail)
    go_cut [185] (fun s wx=>s=.bool (decide (j<k)&&decide (k<e))∧wr=wx)
    case first=>
     go_wp2_with (fail)
     all_goals
      go_meet
      go_light
      refine ⟨congrArg Value.bool ?_,rfl⟩
      rw [Bool.eq_iff_iff]
      simp only [Bool.and_eq_true,decide_eq_true_eq]
      first|omega|(constructor<;>simp<;>omega)
    case rest=>
     obtain ⟨rfl,rfl⟩:=hcut
     generalize hbz:(decide (j<k)&&decide (k<e))=bz
     have HBZ:=Lib.hid hbz
     clear hbz hev
     cases bz with
     | true=>
       as_aux_lemma=>
        have hbb:j<k∧k<e:=by have:=HBZ.out;simpa using this
        have HC:=Lib.hid (rotate_any r c j k e n cap l (.func (.func 174) #[] #[]) wr hbb.1 hbb.2 (by omega) HN.out hn1 HROW.out)
        go_wp2_with (fail)
        refine HC.out.mono ?_
        rintro e1 w1 ⟨⟨u,rfl⟩,m,q1,q2,q3⟩
        have HTD:=Lib.hid (HTURN.out m q1)
        have HROWM:=Lib.hid q2
        have HKM:=Lib.hid ((Ext.kp HK.out).trans q3)
        have HMN:Hid (m.length=n):=by show m.length=n;rw [q1.1];exact HN.out
        clear q1 q2 q3 HC HROW HK HTURN HCUT
        go_upto_region 41 with (fail)
        go_cut [199] (fun s wx=>s=.bool (decide (a<j)&&decide (j<mid))∧w1=wx)
        case first=>
         go_wp2_with (fail)
         all_goals
          go_meet
          go_light
          refine ⟨congrArg Value.bool ?_,rfl⟩
          rw [Bool.eq_iff_iff]
          simp only [Bool.and_eq_true,decide_eq_true_eq]
          first|omega|(constructor<;>simp<;>omega)
        case rest=>
         obtain ⟨rfl,rfl⟩:=hcut
         generalize hbz:(decide (a<j)&&decide (j<mid))=bz
         have HBZ:=Lib.hid hbz
         clear hbz hbb
         cases bz with
         | true=>
           as_aux_lemma=>
            have hbb:a<j∧j<mid:=by have:=HBZ.out;simpa using this
            have HC:=Lib.hid (HIH.out a j mid m w1 (by omega) (HG.out.kp HKM.out (fun e=>HGR.out e)) (fun s hs=>HL.out s ((HTD.out.1.mem s).1 hs)) HMN.out hbb.1 hbb.2 (by omega) HTD.out.2.2.1 HTD.out.2.2.2.1 HROWM.out)
            go_wp2_with (fail)
            refine HC.out.mono ?_
            rintro e1 w2 ⟨⟨u,rfl⟩,t,ht1,ht2,ht3,ht4,ht5⟩
            have HT1:=Lib.hid ht1
            have HT2:Hid (OutB a mid m t):=ht2
            have HT3:=Lib.hid ht3
            have HT4:=Lib.hid ht4
            have HT5:=Lib.hid (HKM.out.next ht5 (fun _ _ e=>e))
            have HTN:Hid (t.length=n):=by show t.length=n;rw [ht1.1];exact HMN.out
            clear ht1 ht2 ht3 ht4 ht5 HC HROWM HKM
            have HEND:Hid (∀ W,InsPost w2 r c mid b t W→InsPost w r c a b l W):=by
             rintro W ⟨u,q1,q2,q3,q4,q5⟩
             obtain ⟨d1,d2,d3,d4,d5,d6,d7⟩:=HTD.out
             refine ⟨u,(d1.trans HT1.out).trans q1,fun p hp=>?_,d7.sorted (by omega) (by omega) (by have:=HMN.out;omega) HT1.out HT2.out HT3.out q1 q2 q3,q4,HT5.out.next q5 (fun _ _ e=>e)⟩
             exact ((q2 p (by omega)).trans (HT2.out p (by omega))).trans (d2 p (by omega))
            have HF1':Hid (Fall t mid e):=HTD.out.2.2.2.2.1.same fun p p1 p2=>HT2.out p (.inr p1)
            have HF2':Hid (Fall t e b):=HTD.out.2.2.2.2.2.1.same fun p p1 p2=>HT2.out p (.inr (by omega))
            go_upto_region 43 with (fail)
            go_cut [213] (fun s wx=>s=.bool (decide (mid<e)&&decide (e<b))∧w2=wx)
            case first=>
             go_wp2_with (fail)
             all_goals
              go_meet
              go_light
              refine ⟨congrArg Value.bool ?_,rfl⟩
              rw [Bool.eq_iff_iff]
              simp only [Bool.and_eq_true,decide_eq_true_eq]
              first|omega|(constructor<;>simp<;>omega)
            case rest=>
             obtain ⟨rfl,rfl⟩:=hcut
             generalize hbz:(decide (mid<e)&&decide (e<b))=bz
             have HBZ:=Lib.hid hbz
             clear hbz hbb
             cases bz with
             | true=>
               as_aux_lemma=>
                have hbb:mid<e∧e<b:=by have:=HBZ.out;simpa using this
                have HC:=Lib.hid (HIH.out mid e b t w2 (by omega) (HG.out.kp HT5.out (fun e=>HGR.out e)) (fun s hs=>HL.out s (((HTD.out.1.trans HT1.out).mem s).1 hs)) HTN.out hbb.1 hbb.2 (by omega) HF1'.out HF2'.out HT4.out)
                go_wp2_with (fail)
                refine HC.out.mono ?_
                rintro e1 w3 ⟨⟨u,rfl⟩,q1⟩
                have HM:=Lib.hid (HEND.out _ q1)
                clear q1 HC
                go_wp2_with (fail)
                go_end0
                exact ⟨⟨_,rfl⟩,HM.out⟩
             | false=>
               as_aux_lemma=>
                have hbb:mid=e∨e=b:=by have:=HBZ.out;simp only [Bool.and_eq_false_iff,decide_eq_false_iff_not] at this;omega
                have HM:=Lib.hid (HEND.out w2 ⟨t,St.refl _,fun _ _=>rfl,(by
                 rcases hbb with q|q
                 ·rw [q];exact HF2'.out
                 ·rw [← q];exact HF1'.out),HT4.out,Kp.refl _ _⟩)
                go_wp2_with (fail)
                go_end0
                exact ⟨⟨_,rfl⟩,HM.out⟩
         | false=>
           as_aux_lemma=>
            have hbb:a=j∨j=mid:=by have:=HBZ.out;simp only [Bool.and_eq_false_iff,decide_eq_false_iff_not] at this;omega
            have HT1:=Lib.hid (St.refl m)
            have HT2:Hid (OutB a mid m m):=fun _ _=>rfl
            have HT3:Hid (Fall m a mid):=by
             show Fall m a mid
             rcases hbb with q|q
             ·rw [q];exact HTD.out.2.2.2.1
             ·rw [← q];exact HTD.out.2.2.1
            have HT4:=HROWM
            have HT5:=HKM
            have HTN:=HMN
            clear HROWM HKM
            have HEND:Hid (∀ W,InsPost w1 r c mid b m W→InsPost w r c a b l W):=by
             rintro W ⟨u,q1,q2,q3,q4,q5⟩
             obtain ⟨d1,d2,d3,d4,d5,d6,d7⟩:=HTD.out
             refine ⟨u,(d1.trans HT1.out).trans q1,fun p hp=>?_,d7.sorted (by omega) (by omega) (by have:=HMN.out;omega) HT1.out HT2.out HT3.out q1 q2 q3,q4,HT5.out.next q5 (fun _ _ e=>e)⟩
             exact ((q2 p (by omega)).trans (HT2.out p (by omega))).trans (d2 p (by omega))
            have HF1':Hid (Fall m mid e):=HTD.out.2.2.2.2.1.same fun p p1 p2=>HT2.out p (.inr p1)
            have HF2':Hid (Fall m e b):=HTD.out.2.2.2.2.2.1.same fun p p1 p2=>HT2.out p (.inr (by omega))
            go_upto_region 43 with (fail)
            go_cut [213] (fun s wx=>s=.bool (decide (mid<e)&&decide (e<b))∧w1=wx)
            case first=>
             go_wp2_with (fail)
             all_goals
              go_meet
              go_light
              refine ⟨congrArg Value.bool ?_,rfl⟩
              rw [Bool.eq_iff_iff]
              simp only [Bool.and_eq_true,decide_eq_true_eq]
              first|omega|(constructor<;>simp<;>omega)
            case rest=>
             obtain ⟨rfl,rfl⟩:=hcut
             generalize hbz:(decide (mid<e)&&decide (e<b))=bz
             have HBZ:=Lib.hid hbz
             clear hbz hbb
             cases bz with
             | true=>
               as_aux_lemma=>
                have hbb:mid<e∧e<b:=by have:=HBZ.out;simpa using this
                have HC:=Lib.hid (HIH.out mid e b m w1 (by omega) (HG.out.kp HT5.out (fun e=>HGR.out e)) (fun s hs=>HL.out s (((HTD.out.1.trans HT1.out).mem s).1 hs)) HTN.out hbb.1 hbb.2 (by omega) HF1'.out HF2'.out HT4.out)
                go_wp2_with (fail)
                refine HC.out.mono ?_
                rintro e1 w3 ⟨⟨u,rfl⟩,q1⟩
                have HM:=Lib.hid (HEND.out _ q1)
                clear q1 HC
                go_wp2_with (fail)
                go_end0
                exact ⟨⟨_,rfl⟩,HM.out⟩
             | false=>
               as_aux_lemma=>
                have hbb:mid=e∨e=b:=by have:=HBZ.out;simp only [Bool.and_eq_false_iff,decide_eq_false_iff_not] at this;omega
                have HM:=Lib.hid (HEND.out w1 ⟨m,St.refl _,fun _ _=>rfl,(by
                 rcases hbb with q|q
                 ·rw [q];exact HF2'.out
                 ·rw [← q];exact HF1'.out),HT4.out,Kp.refl _ _⟩)
                go_wp2_with (fail)
                go_end0
                exact ⟨⟨_,rfl⟩,HM.out⟩
     | false=>
       as_aux_lemma=>
        have hbb:j=k∨k=e:=by have:=HBZ.out;simp only [Bool.and_eq_false_iff,decide_eq_false_iff_not] at this;omega
        have hrt:=RtR.none l hjk.2 hke.1 hbb
        have HTD:=Lib.hid (HTURN.out l hrt)
        have HROWM:=HROW
        have HKM:Hid (Kp (fun j=>j=r) w wr):=Ext.kp HK.out
        have HMN:=HN
        clear hrt HROW HK HTURN HCUT
        go_upto_region 41 with (fail)
        go_cut [199] (fun s wx=>s=.bool (decide (a<j)&&decide (j<mid))∧wr=wx)
        case first=>
         go_wp2_with (fail)
         all_goals
          go_meet
          go_light
          refine ⟨congrArg Value.bool ?_,rfl⟩
          rw [Bool.eq_iff_iff]
          simp only [Bool.and_eq_true,decide_eq_true_eq]
          first|omega|(constructor<;>simp<;>omega)
        case rest=>
         obtain ⟨rfl,rfl⟩:=hcut
         generalize hbz:(decide (a<j)&&decide (j<mid))=bz
         have HBZ:=Lib.hid hbz
         clear hbz hbb
         cases bz with
         | true=>
           as_aux_lemma=>
            have hbb:a<j∧j<mid:=by have:=HBZ.out;simpa using this
            have HC:=Lib.hid (HIH.out a j mid l wr (by omega) (HG.out.kp HKM.out (fun e=>HGR.out e)) (fun s hs=>HL.out s ((HTD.out.1.mem s).1 hs)) HMN.out hbb.1 hbb.2 (by omega) HTD.out.2.2.1 HTD.out.2.2.2.1 HROWM.out)
            go_wp2_with (fail)
            refine HC.out.mono ?_
            rintro e1 w2 ⟨⟨u,rfl⟩,t,ht1,ht2,ht3,ht4,ht5⟩
            have HT1:=Lib.hid ht1
            have HT2:Hid (OutB a mid l t):=ht2
            have HT3:=Lib.hid ht3
            have HT4:=Lib.hid ht4
            have HT5:=Lib.hid (HKM.out.next ht5 (fun _ _ e=>e))
            have HTN:Hid (t.length=n):=by show t.length=n;rw [ht1.1];exact HMN.out
            clear ht1 ht2 ht3 ht4 ht5 HC HROWM HKM
            have HEND:Hid (∀ W,InsPost w2 r c mid b t W→InsPost w r c a b l W):=by
             rintro W ⟨u,q1,q2,q3,q4,q5⟩
             obtain ⟨d1,d2,d3,d4,d5,d6,d7⟩:=HTD.out
             refine ⟨u,(d1.trans HT1.out).trans q1,fun p hp=>?_,d7.sorted (by omega) (by omega) (by have:=HMN.out;omega) HT1.out HT2.out HT3.out q1 q2 q3,q4,HT5.out.next q5 (fun _ _ e=>e)⟩
             exact ((q2 p (by omega)).trans (HT2.out p (by omega))).trans (d2 p (by omega))
            have HF1':Hid (Fall t mid e):=HTD.out.2.2.2.2.1.same fun p p1 p2=>HT2.out p (.inr p1)
            have HF2':Hid (Fall t e b):=HTD.out.2.2.2.2.2.1.same fun p p1 p2=>HT2.out p (.inr (by omega))
            go_upto_region 43 with (fail)
            go_cut [213] (fun s wx=>s=.bool (decide (mid<e)&&decide (e<b))∧w2=wx)
            case first=>
             go_wp2_with (fail)
             all_goals
              go_meet
              go_light
              refine ⟨congrArg Value.bool ?_,rfl⟩
              rw [Bool.eq_iff_iff]
              simp only [Bool.and_eq_true,decide_eq_true_eq]
              first|omega|(constructor<;>simp<;>omega)
            case rest=>
             obtain ⟨rfl,rfl⟩:=hcut
             generalize hbz:(decide (mid<e)&&decide (e<b))=bz
             have HBZ:=Lib.hid hbz
             clear hbz hbb
             cases bz with
             | true=>
               as_aux_lemma=>
                have hbb:mid<e∧e<b:=by have:=HBZ.out;simpa using this
                have HC:=Lib.hid (HIH.out mid e b t w2 (by omega) (HG.out.kp HT5.out (fun e=>HGR.out e)) (fun s hs=>HL.out s (((HTD.out.1.trans HT1.out).mem s).1 hs)) HTN.out hbb.1 hbb.2 (by omega) HF1'.out HF2'.out HT4.out)
                go_wp2_with (fail)
                refine HC.out.mono ?_
                rintro e1 w3 ⟨⟨u,rfl⟩,q1⟩
                have HM:=Lib.hid (HEND.out _ q1)
                clear q1 HC
                go_wp2_with (fail)
                go_end0
                exact ⟨⟨_,rfl⟩,HM.out⟩
             | false=>
               as_aux_lemma=>
                have hbb:mid=e∨e=b:=by have:=HBZ.out;simp only [Bool.and_eq_false_iff,decide_eq_false_iff_not] at this;omega
                have HM:=Lib.hid (HEND.out w2 ⟨t,St.refl _,fun _ _=>rfl,(by
                 rcases hbb with q|q
                 ·rw [q];exact HF2'.out
                 ·rw [← q];exact HF1'.out),HT4.out,Kp.refl _ _⟩)
                go_wp2_with (fail)
                go_end0
                exact ⟨⟨_,rfl⟩,HM.out⟩
         | false=>
           as_aux_lemma=>
            have hbb:a=j∨j=mid:=by have:=HBZ.out;simp only [Bool.and_eq_false_iff,decide_eq_false_iff_not] at this;omega
            have HT1:=Lib.hid (St.refl l)
            have HT2:Hid (OutB a mid l l):=fun _ _=>rfl
            have HT3:Hid (Fall l a mid):=by
             show Fall l a mid
             rcases hbb with q|q
             ·rw [q];exact HTD.out.2.2.2.1
             ·rw [← q];exact HTD.out.2.2.1
            have HT4:=HROWM
            have HT5:=HKM
            have HTN:=HMN
            clear HROWM HKM
            have HEND:Hid (∀ W,InsPost wr r c mid b l W→InsPost w r c a b l W):=by
             rintro W ⟨u,q1,q2,q3,q4,q5⟩
             obtain ⟨d1,d2,d3,d4,d5,d6,d7⟩:=HTD.out
             refine ⟨u,(d1.trans HT1.out).trans q1,fun p hp=>?_,d7.sorted (by omega) (by omega) (by have:=HMN.out;omega) HT1.out HT2.out HT3.out q1 q2 q3,q4,HT5.out.next q5 (fun _ _ e=>e)⟩
             exact ((q2 p (by omega)).trans (HT2.out p (by omega))).trans (d2 p (by omega))
            have HF1':Hid (Fall l mid e):=HTD.out.2.2.2.2.1.same fun p p1 p2=>HT2.out p (.inr p1)
            have HF2':Hid (Fall l e b):=HTD.out.2.2.2.2.2.1.same fun p p1 p2=>HT2.out p (.inr (by omega))
            go_upto_region 43 with (fail)
            go_cut [213] (fun s wx=>s=.bool (decide (mid<e)&&decide (e<b))∧wr=wx)
            case first=>
             go_wp2_with (fail)
             all_goals
              go_meet
              go_light
              refine ⟨congrArg Value.bool ?_,rfl⟩
              rw [Bool.eq_iff_iff]
              simp only [Bool.and_eq_true,decide_eq_true_eq]
              first|omega|(constructor<;>simp<;>omega)
            case rest=>
             obtain ⟨rfl,rfl⟩:=hcut
             generalize hbz:(decide (mid<e)&&decide (e<b))=bz
             have HBZ:=Lib.hid hbz
             clear hbz hbb
             cases bz with
             | true=>
               as_aux_lemma=>
                have hbb:mid<e∧e<b:=by have:=HBZ.out;simpa using this
                have HC:=Lib.hid (HIH.out mid e b l wr (by omega) (HG.out.kp HT5.out (fun e=>HGR.out e)) (fun s hs=>HL.out s (((HTD.out.1.trans HT1.out).mem s).1 hs)) HTN.out hbb.1 hbb.2 (by omega) HF1'.out HF2'.out HT4.out)
                go_wp2_with (fail)
                refine HC.out.mono ?_
                rintro e1 w3 ⟨⟨u,rfl⟩,q1⟩
                have HM:=Lib.hid (HEND.out _ q1)
                clear q1 HC
                go_wp2_with (fail)
                go_end0
                exact ⟨⟨_,rfl⟩,HM.out⟩
             | false=>
               as_aux_lemma=>
                have hbb:mid=e∨e=b:=by have:=HBZ.out;simp only [Bool.and_eq_false_iff,decide_eq_false_iff_not] at this;omega
                have HM:=Lib.hid (HEND.out wr ⟨l,St.refl _,fun _ _=>rfl,(by
                 rcases hbb with q|q
                 ·rw [q];exact HF2'.out
                 ·rw [← q];exact HF1'.out),HT4.out,Kp.refl _ _⟩)
                go_wp2_with (fail)
                go_end0
                exact ⟨⟨_,rfl⟩,HM.out⟩
set_option maxHeartbeats 25600000 in
theorem symMerge_near (r c n cap d:Nat) (hg:0≠r) (hn1:n≤1000000) (ih:SymAt r c n cap d) (a k b:Nat) (l:List Bs) (w:World) (hd:b - a≤d+1) (hG:GL w) (hl:∀ s∈l,s.length≤1000000) (hn:l.length=n) (hak:a+1<k) (hkb:k+1<b) (hbn:b≤n) (hf1:Fall l a k) (hf2:Fall l k b) (h:RowB w r strT 1 c (l.map encStr)) (hkm:¬ (a+b) / 2<k) :
  Calls Tryz.prog 248 #[.slice (some ⟨r,0,none⟩) n cap, .int .i64 a, .int .i64 k, .int .i64 b, .func (.func 174) #[] #[]] w fun e w'=>(∃ u,e=.returned u)∧InsPost w r c a b l w':=by
 have HG:=Lib.hid hG
 have HN:=Lib.hid hn
 have HR:=Lib.hid h
 have HF1:=Lib.hid hf1
 have HF2:=Lib.hid hf2
 have HL:=Lib.hid hl
 have HIH:=Lib.hid ih
 have HGR:=Lib.hid hg
 have HSZ:Hid (∀ p,p<n→(gtB l p).length≤1000000):=fun p hp=>by
  have hp2:p<l.length:=by omega
  rw [gtB_eq hp2]
  exact hl _ (List.getElem_mem _)
 obtain ⟨mid,hmm⟩:∃ mid:Nat,(a+b) / 2=mid:=⟨_,rfl⟩
 rw [hmm] at hkm
 have hm1:2*mid≤a+b∧a+b≤2*mid+1:=by omega
 have hmv:((a:Int)+(b:Int)) / 2=(mid:Int):=by omega
 have ht0:((k:Int) - (a:Int) == 1)=false:=by rw [beq_eq_false_iff_ne];omega
 have ht1:((b:Int) - (k:Int) == 1)=false:=by rw [beq_eq_false_iff_ne];omega
 have HT:Hid True:=trivial
 clear hG hn h hf1 hf2 hl hmm ih hg
 go_enter Tryz.func248,Tryz.ntmps248
 go_wp2_with (fail)
 clear ht0 ht1 hmv
 go_loopw [20,21] (fun s20 s21 wr=>SyRel w l mid k (a) (k) s20 s21 wr) (fun s20 s21 _=>(intOf s21).toNat - (intOf s20).toNat)
 case atStart=>exact ⟨a,k,Nat.le_refl _,by omega,Nat.le_refl _,by go_num,by go_num, .inl rfl, .inl rfl,Kp.refl _ _⟩
 case round=>
  clear HT
  obtain ⟨s,j,hs,hsj,hj,rfl,rfl,g1,g2,hk⟩:=hrel
  have G1:=Lib.hid g1
  have G2:=Lib.hid g2
  have HK:=Lib.hid hk
  have HROW:=Lib.hid (HR.out.kp hk (fun f=>f))
  clear g1 g2 hk
  by_cases hlt:s<j
  ·as_aux_lemma=>
    obtain ⟨hh,hhe⟩:∃ hh:Nat,(s+j) / 2=hh:=⟨_,rfl⟩
    have hh1:s≤hh∧hh<j:=by omega
    have hd2:((s:Int)+(j:Int)) / 2=(hh:Int):=by omega
    obtain ⟨pc,hpc⟩:∃ pc:Nat,mid+k - 1 - hh=pc:=⟨_,rfl⟩
    have hpb:pc<n:=by omega
    have hpv:(mid:Int)+(k:Int) - 1 - (hh:Int)=(pc:Int):=by omega
    have hpw:IntKind.i64.wrap (pc:Int)=(pc:Int):=IntWalk.i64_in _ (by omega)
    have HPC:=Lib.hid hpc
    clear hhe hpc
    have hcx:=row_at HROW.out (j:=pc) (by have:=HN.out;omega)
    have hcy:=row_at HROW.out (j:=hh) (by have:=HN.out;omega)
    have HCX:=Lib.hid hcx
    have HCY:=Lib.hid hcy
    have HGW:=Lib.hid (HG.out.ext HK.out)
    have HCMP:Hid (∀ W,Ext wr W→Calls Tryz.prog 174 #[.string ⟨(gtB l (pc)).toArray⟩, .string ⟨(gtB l (hh)).toArray⟩] W fun e w'=>e=.returned (.int .i64 (cmpD ⟨(gtB l (pc)).toArray⟩ ⟨(gtB l (hh)).toArray⟩))∧Ext W w'):=fun W hW=>deepCmp_any _ _ W (HGW.out.ext hW) (by rw [Lib.size_eq];simpa using HSZ.out (pc) (by omega)) (by rw [Lib.size_eq];simpa using HSZ.out (hh) (by omega))
    have hcl:=cmpD_lt ⟨(gtB l (pc)).toArray⟩ ⟨(gtB l (hh)).toArray⟩
    obtain ⟨z,hz⟩:∃ z,cmpD ⟨(gtB l (pc)).toArray⟩ ⟨(gtB l (hh)).toArray⟩=z:=⟨_,rfl⟩
    rw [hz] at HCMP hcl
    have HCL:=Lib.hid (show z<0↔dpB (gtB l (hh))<dpB (gtB l (pc)) by simpa using hcl)
    have hbx:(0:Int)≤((pc:Nat):Int)∧((pc:Nat):Int)<(n:Int):=by omega
    have hby:(0:Int)≤((hh:Nat):Int)∧((hh:Nat):Int)<(n:Int):=by omega
    clear hcx hcy hcl hz
    have eg:∀ args w,(callFunc 174 args).run Tryz.prog w=.ok (.enter 174 args) w:=enters_of Tryz.func174 (by kernel_rfl) rfl
    go_upto_region 35 with (fail)
    clear hd2
    refine' wp_region_dag0 ((158, .val _)::(159, .val _)::(160, .val _)::(161, .val _)::(162, .val _)::(163, .val _)::(164, .val _)::(165, .val _)::(166, .val _)::(167, .val _)::(168, .val _)::(169, .val _)::(170, .val _)::(171, .val _)::[]) (by exact ⟨fun _ _ _ _ _=>trivial,⟨fun _ _ _ _ _=>trivial,⟨fun _ _ _ _ _=>trivial,⟨fun _ _ _ _ _=>trivial,⟨fun _ _ _ _ _=>trivial,⟨fun _ _ _ _ _=>trivial,⟨fun _ _ _ _ _=>trivial,⟨fun _ _ _ _ _=>trivial,⟨fun _ _ _ _ _=>trivial,⟨fun _ _ _ _ _=>trivial,⟨fun _ _ _ _ _=>trivial,⟨fun _ _ _ _ _=>trivial,⟨fun _ _ _ _ _=>trivial,⟨fun _ _ _ _ _=>trivial,trivial⟩⟩⟩⟩⟩⟩⟩⟩⟩⟩⟩⟩⟩⟩) (by kernel_rfl) (by kernel_rfl) (by kernel_rfl) ?_
    rotate_left 14
    repeat (first
     | (refine wpD_skipv ?_ ?_ ?_
        focus rfl
        focus rfl
        simp only [Act.put,List.setIfInBounds_toArray,List.set_cons_succ,List.set_cons_zero])
     | (refine' wpD_val (c:=_) ?_ (fun w=>Kp.refl _ w) ?_ (fun wq hwq hfq=>?_) ?_
        rotate_left
        focus rfl
        focus rfl
        focus ((have c1:=hwq.cell HCX.out (fun f=>f);have c0:=hwq.cell HCY.out (fun f=>f));go_simp;first|done|rfl)
        simp only [Act.put,List.setIfInBounds_toArray,List.set_cons_succ,List.set_cons_zero])
     | (refine' wpD_con (c:=_) ?_ ?_ (fun wq hwq hfq=>?_) ?_
        rotate_left
        focus rfl
        focus rfl
        focus ((have c1:=hwq.cell HCX.out (fun f=>f);have c0:=hwq.cell HCY.out (fun f=>f));go_simp;(try (rw [dUpon_enter]));((with_reducible refine (HCMP.out _ hwq).mono ?_);rintro e w' ⟨rfl,hx⟩;exact DEnd.con hx))
        simp only [Act.put,List.setIfInBounds_toArray,List.set_cons_succ,List.set_cons_zero])
     | fail)
    refine wpD_nil ?_
    intro w1 hx1 hend
    clear hend
    have HK1:=Lib.hid (HK.out.trans hx1)
    clear hx1
    generalize hbz:decide (z<0)=bz
    have HBZ:=Lib.hid hbz
    clear hbz
    cases bz with
    | true=>
      as_aux_lemma=>
       have hz0:z<0:=of_decide_eq_true HBZ.out
       have hd:=HCL.out.1 hz0
       rw [← HPC.out] at hd
       have HD:=Lib.hid hd
       clear hd
       go_wp2_with (fail)
       go_light
       refine ⟨⟨s,hh,hs, ?_, ?_,rfl,rfl,G1.out, .inr HD.out,HK1.out⟩, ?_⟩
       ·omega
       ·omega
       ·simp [intOf];omega
    | false=>
      as_aux_lemma=>
       have hz0:¬ z<0:=of_decide_eq_false HBZ.out
       have hd:dpB (gtB l (mid+k - (hh+1)))≤dpB (gtB l hh):=by
        have h1:=HCL.out
        have h2:¬ dpB (gtB l hh)<dpB (gtB l pc):=fun h=>hz0 (h1.2 h)
        rw [← HPC.out,show mid+k - 1 - hh=mid+k - (hh+1) by omega] at h2
        omega
       have HD:=Lib.hid hd
       clear hd
       go_wp2_with (fail)
       go_light
       refine ⟨⟨hh+1,j, ?_, ?_,hj, ?_,rfl, .inr ?_,G2.out,HK1.out⟩, ?_⟩
       ·omega
       ·omega
       ·go_num
       ·rw [Nat.add_sub_cancel];exact HD.out
       ·simp [intOf];omega
  ·as_aux_lemma=>
    have hji:j=s:=by omega
    subst hji
    obtain ⟨e,he⟩:∃ e,mid+k - j=e:=⟨_,rfl⟩
    have hev:(mid:Int)+(k:Int) - (j:Int)=(e:Int):=by omega
    have hcut:CutAt l a k b j e:=by
     have g1:=G1.out
     have g2:=G2.out
     refine ⟨⟨by omega,by omega⟩,⟨by omega,by omega⟩,fun q1 q2=>?_,fun q1 q2=>?_⟩
     ·rcases g2 with g|g
      ·omega
      ·rw [show e - 1=mid+k - 1 - j by omega];exact g
     ·rcases g1 with g|g
      ·omega
      ·rw [← he];exact g
    have hmid:j+(e - k)=mid:=by omega
    have hsm:j≤mid∧mid≤e:=by omega
    have HCUT:=Lib.hid hcut
    have hjk:=hcut.lo
    have hke:=hcut.hi
    have HTURN:Hid (∀ m,RtR l m j k e→St l m∧OutB j e l m∧Fall m a j∧Fall m j mid∧Fall m mid e∧Fall m e b∧Cross m a mid b):=fun m hrt=>hcut.turned HF1.out HF2.out (by have:=HN.out;omega) hrt hmid
    clear he hcut G1 G2
    go_upto_region 39 with (fail)
    go_cut [185] (fun s wx=>s=.bool (decide (j<k)&&decide (k<e))∧wr=wx)
    case first=>
     go_wp2_with (fail)
     all_goals
      go_meet
      go_light
      refine ⟨congrArg Value.bool ?_,rfl⟩
      rw [Bool.eq_iff_iff]
      simp only [Bool.and_eq_true,decide_eq_true_eq]
      first|omega|(constructor<;>simp<;>omega)
    case rest=>
     obtain ⟨rfl,rfl⟩:=hcut
     generalize hbz:(decide (j<k)&&decide (k<e))=bz
     have HBZ:=Lib.hid hbz
     clear hbz hev
     cases bz with
     | true=>
       as_aux_lemma=>
        have hbb:j<k∧k<e:=by have:=HBZ.out;simpa using this
        have HC:=Lib.hid (rotate_any r c j k e n cap l (.func (.func 174) #[] #[]) wr hbb.1 hbb.2 (by omega) HN.out hn1 HROW.out)
        go_wp2_with (fail)
        refine HC.out.mono ?_
        rintro e1 w1 ⟨⟨u,rfl⟩,m,q1,q2,q3⟩
        have HTD:=Lib.hid (HTURN.out m q1)
        have HROWM:=Lib.hid q2
        have HKM:=Lib.hid ((Ext.kp HK.out).trans q3)
        have HMN:Hid (m.length=n):=by show m.length=n;rw [q1.1];exact HN.out
        clear q1 q2 q3 HC HROW HK HTURN HCUT
        go_upto_region 41 with (fail)
        go_cut [199] (fun s wx=>s=.bool (decide (a<j)&&decide (j<mid))∧w1=wx)
        case first=>
         go_wp2_with (fail)
         all_goals
          go_meet
          go_light
          refine ⟨congrArg Value.bool ?_,rfl⟩
          rw [Bool.eq_iff_iff]
          simp only [Bool.and_eq_true,decide_eq_true_eq]
          first|omega|(constructor<;>simp<;>omega)
        case rest=>
         obtain ⟨rfl,rfl⟩:=hcut
         generalize hbz:(decide (a<j)&&decide (j<mid))=bz
         have HBZ:=Lib.hid hbz
         clear hbz hbb
         cases bz with
         | true=>
           as_aux_lemma=>
            have hbb:a<j∧j<mid:=by have:=HBZ.out;simpa using this
            have HC:=Lib.hid (HIH.out a j mid m w1 (by omega) (HG.out.kp HKM.out (fun e=>HGR.out e)) (fun s hs=>HL.out s ((HTD.out.1.mem s).1 hs)) HMN.out hbb.1 hbb.2 (by omega) HTD.out.2.2.1 HTD.out.2.2.2.1 HROWM.out)
            go_wp2_with (fail)
            refine HC.out.mono ?_
            rintro e1 w2 ⟨⟨u,rfl⟩,t,ht1,ht2,ht3,ht4,ht5⟩
            have HT1:=Lib.hid ht1
            have HT2:Hid (OutB a mid m t):=ht2
            have HT3:=Lib.hid ht3
            have HT4:=Lib.hid ht4
            have HT5:=Lib.hid (HKM.out.next ht5 (fun _ _ e=>e))
            have HTN:Hid (t.length=n):=by show t.length=n;rw [ht1.1];exact HMN.out
            clear ht1 ht2 ht3 ht4 ht5 HC HROWM HKM
            have HEND:Hid (∀ W,InsPost w2 r c mid b t W→InsPost w r c a b l W):=by
             rintro W ⟨u,q1,q2,q3,q4,q5⟩
             obtain ⟨d1,d2,d3,d4,d5,d6,d7⟩:=HTD.out
             refine ⟨u,(d1.trans HT1.out).trans q1,fun p hp=>?_,d7.sorted (by omega) (by omega) (by have:=HMN.out;omega) HT1.out HT2.out HT3.out q1 q2 q3,q4,HT5.out.next q5 (fun _ _ e=>e)⟩
             exact ((q2 p (by omega)).trans (HT2.out p (by omega))).trans (d2 p (by omega))
            have HF1':Hid (Fall t mid e):=HTD.out.2.2.2.2.1.same fun p p1 p2=>HT2.out p (.inr p1)
            have HF2':Hid (Fall t e b):=HTD.out.2.2.2.2.2.1.same fun p p1 p2=>HT2.out p (.inr (by omega))
            go_upto_region 43 with (fail)
            go_cut [213] (fun s wx=>s=.bool (decide (mid<e)&&decide (e<b))∧w2=wx)
            case first=>
             go_wp2_with (fail)
             all_goals
              go_meet
              go_light
              refine ⟨congrArg Value.bool ?_,rfl⟩
              rw [Bool.eq_iff_iff]
              simp only [Bool.and_eq_true,decide_eq_true_eq]
              first|omega|(constructor<;>simp<;>omega)
            case rest=>
             obtain ⟨rfl,rfl⟩:=hcut
             generalize hbz:(decide (mid<e)&&decide (e<b))=bz
             have HBZ:=Lib.hid hbz
             clear hbz hbb
             cases bz with
             | true=>
               as_aux_lemma=>
                have hbb:mid<e∧e<b:=by have:=HBZ.out;simpa using this
                have HC:=Lib.hid (HIH.out mid e b t w2 (by omega) (HG.out.kp HT5.out (fun e=>HGR.out e)) (fun s hs=>HL.out s (((HTD.out.1.trans HT1.out).mem s).1 hs)) HTN.out hbb.1 hbb.2 (by omega) HF1'.out HF2'.out HT4.out)
                go_wp2_with (fail)
                refine HC.out.mono ?_
                rintro e1 w3 ⟨⟨u,rfl⟩,q1⟩
                have HM:=Lib.hid (HEND.out _ q1)
                clear q1 HC
                go_wp2_with (fail)
                go_end0
                exact ⟨⟨_,rfl⟩,HM.out⟩
             | false=>
               as_aux_lemma=>
                have hbb:mid=e∨e=b:=by have:=HBZ.out;simp only [Bool.and_eq_false_iff,decide_eq_false_iff_not] at this;omega
                have HM:=Lib.hid (HEND.out w2 ⟨t,St.refl _,fun _ _=>rfl,(by
                 rcases hbb with q|q
                 ·rw [q];exact HF2'.out
                 ·rw [← q];exact HF1'.out),HT4.out,Kp.refl _ _⟩)
                go_wp2_with (fail)
                go_end0
                exact ⟨⟨_,rfl⟩,HM.out⟩
         | false=>
           as_aux_lemma=>
            have hbb:a=j∨j=mid:=by have:=HBZ.out;simp only [Bool.and_eq_false_iff,decide_eq_false_iff_not] at this;omega
            have HT1:=Lib.hid (St.refl m)
            have HT2:Hid (OutB a mid m m):=fun _ _=>rfl
            have HT3:Hid (Fall m a mid):=by
             show Fall m a mid
             rcases hbb with q|q
             ·rw [q];exact HTD.out.2.2.2.1
             ·rw [← q];exact HTD.out.2.2.1
            have HT4:=HROWM
            have HT5:=HKM
            have HTN:=HMN
            clear HROWM HKM
            have HEND:Hid (∀ W,InsPost w1 r c mid b m W→InsPost w r c a b l W):=by
             rintro W ⟨u,q1,q2,q3,q4,q5⟩
             obtain ⟨d1,d2,d3,d4,d5,d6,d7⟩:=HTD.out
             refine ⟨u,(d1.trans HT1.out).trans q1,fun p hp=>?_,d7.sorted (by omega) (by omega) (by have:=HMN.out;omega) HT1.out HT2.out HT3.out q1 q2 q3,q4,HT5.out.next q5 (fun _ _ e=>e)⟩
             exact ((q2 p (by omega)).trans (HT2.out p (by omega))).trans (d2 p (by omega))
            have HF1':Hid (Fall m mid e):=HTD.out.2.2.2.2.1.same fun p p1 p2=>HT2.out p (.inr p1)
            have HF2':Hid (Fall m e b):=HTD.out.2.2.2.2.2.1.same fun p p1 p2=>HT2.out p (.inr (by omega))
            go_upto_region 43 with (fail)
            go_cut [213] (fun s wx=>s=.bool (decide (mid<e)&&decide (e<b))∧w1=wx)
            case first=>
             go_wp2_with (fail)
             all_goals
              go_meet
              go_light
              refine ⟨congrArg Value.bool ?_,rfl⟩
              rw [Bool.eq_iff_iff]
              simp only [Bool.and_eq_true,decide_eq_true_eq]
              first|omega|(constructor<;>simp<;>omega)
            case rest=>
             obtain ⟨rfl,rfl⟩:=hcut
             generalize hbz:(decide (mid<e)&&decide (e<b))=bz
             have HBZ:=Lib.hid hbz
             clear hbz hbb
             cases bz with
             | true=>
               as_aux_lemma=>
                have hbb:mid<e∧e<b:=by have:=HBZ.out;simpa using this
                have HC:=Lib.hid (HIH.out mid e b m w1 (by omega) (HG.out.kp HT5.out (fun e=>HGR.out e)) (fun s hs=>HL.out s (((HTD.out.1.trans HT1.out).mem s).1 hs)) HTN.out hbb.1 hbb.2 (by omega) HF1'.out HF2'.out HT4.out)
                go_wp2_with (fail)
                refine HC.out.mono ?_
                rintro e1 w3 ⟨⟨u,rfl⟩,q1⟩
                have HM:=Lib.hid (HEND.out _ q1)
                clear q1 HC
                go_wp2_with (fail)
                go_end0
                exact ⟨⟨_,rfl⟩,HM.out⟩
             | false=>
               as_aux_lemma=>
                have hbb:mid=e∨e=b:=by have:=HBZ.out;simp only [Bool.and_eq_false_iff,decide_eq_false_iff_not] at this;omega
                have HM:=Lib.hid (HEND.out w1 ⟨m,St.refl _,fun _ _=>rfl,(by
                 rcases hbb with q|q
                 ·rw [q];exact HF2'.out
                 ·rw [← q];exact HF1'.out),HT4.out,Kp.refl _ _⟩)
                go_wp2_with (fail)
                go_end0
                exact ⟨⟨_,rfl⟩,HM.out⟩
     | false=>
       as_aux_lemma=>
        have hbb:j=k∨k=e:=by have:=HBZ.out;simp only [Bool.and_eq_false_iff,decide_eq_false_iff_not] at this;omega
        have hrt:=RtR.none l hjk.2 hke.1 hbb
        have HTD:=Lib.hid (HTURN.out l hrt)
        have HROWM:=HROW
        have HKM:Hid (Kp (fun j=>j=r) w wr):=Ext.kp HK.out
        have HMN:=HN
        clear hrt HROW HK HTURN HCUT
        go_upto_region 41 with (fail)
        go_cut [199] (fun s wx=>s=.bool (decide (a<j)&&decide (j<mid))∧wr=wx)
        case first=>
         go_wp2_with (fail)
         all_goals
          go_meet
          go_light
          refine ⟨congrArg Value.bool ?_,rfl⟩
          rw [Bool.eq_iff_iff]
          simp only [Bool.and_eq_true,decide_eq_true_eq]
          first|omega|(constructor<;>simp<;>omega)
        case rest=>
         obtain ⟨rfl,rfl⟩:=hcut
         generalize hbz:(decide (a<j)&&decide (j<mid))=bz
         have HBZ:=Lib.hid hbz
         clear hbz hbb
         cases bz with
         | true=>
           as_aux_lemma=>
            have hbb:a<j∧j<mid:=by have:=HBZ.out;simpa using this
            have HC:=Lib.hid (HIH.out a j mid l wr (by omega) (HG.out.kp HKM.out (fun e=>HGR.out e)) (fun s hs=>HL.out s ((HTD.out.1.mem s).1 hs)) HMN.out hbb.1 hbb.2 (by omega) HTD.out.2.2.1 HTD.out.2.2.2.1 HROWM.out)
            go_wp2_with (fail)
            refine HC.out.mono ?_
            rintro e1 w2 ⟨⟨u,rfl⟩,t,ht1,ht2,ht3,ht4,ht5⟩
            have HT1:=Lib.hid ht1
            have HT2:Hid (OutB a mid l t):=ht2
            have HT3:=Lib.hid ht3
            have HT4:=Lib.hid ht4
            have HT5:=Lib.hid (HKM.out.next ht5 (fun _ _ e=>e))
            have HTN:Hid (t.length=n):=by show t.length=n;rw [ht1.1];exact HMN.out
            clear ht1 ht2 ht3 ht4 ht5 HC HROWM HKM
            have HEND:Hid (∀ W,InsPost w2 r c mid b t W→InsPost w r c a b l W):=by
             rintro W ⟨u,q1,q2,q3,q4,q5⟩
             obtain ⟨d1,d2,d3,d4,d5,d6,d7⟩:=HTD.out
             refine ⟨u,(d1.trans HT1.out).trans q1,fun p hp=>?_,d7.sorted (by omega) (by omega) (by have:=HMN.out;omega) HT1.out HT2.out HT3.out q1 q2 q3,q4,HT5.out.next q5 (fun _ _ e=>e)⟩
             exact ((q2 p (by omega)).trans (HT2.out p (by omega))).trans (d2 p (by omega))
            have HF1':Hid (Fall t mid e):=HTD.out.2.2.2.2.1.same fun p p1 p2=>HT2.out p (.inr p1)
            have HF2':Hid (Fall t e b):=HTD.out.2.2.2.2.2.1.same fun p p1 p2=>HT2.out p (.inr (by omega))
            go_upto_region 43 with (fail)
            go_cut [213] (fun s wx=>s=.bool (decide (mid<e)&&decide (e<b))∧w2=wx)
            case first=>
             go_wp2_with (fail)
             all_goals
              go_meet
              go_light
              refine ⟨congrArg Value.bool ?_,rfl⟩
              rw [Bool.eq_iff_iff]
              simp only [Bool.and_eq_true,decide_eq_true_eq]
              first|omega|(constructor<;>simp<;>omega)
            case rest=>
             obtain ⟨rfl,rfl⟩:=hcut
             generalize hbz:(decide (mid<e)&&decide (e<b))=bz
             have HBZ:=Lib.hid hbz
             clear hbz hbb
             cases bz with
             | true=>
               as_aux_lemma=>
                have hbb:mid<e∧e<b:=by have:=HBZ.out;simpa using this
                have HC:=Lib.hid (HIH.out mid e b t w2 (by omega) (HG.out.kp HT5.out (fun e=>HGR.out e)) (fun s hs=>HL.out s (((HTD.out.1.trans HT1.out).mem s).1 hs)) HTN.out hbb.1 hbb.2 (by omega) HF1'.out HF2'.out HT4.out)
                go_wp2_with (fail)
                refine HC.out.mono ?_
                rintro e1 w3 ⟨⟨u,rfl⟩,q1⟩
                have HM:=Lib.hid (HEND.out _ q1)
                clear q1 HC
                go_wp2_with (fail)
                go_end0
                exact ⟨⟨_,rfl⟩,HM.out⟩
             | false=>
               as_aux_lemma=>
                have hbb:mid=e∨e=b:=by have:=HBZ.out;simp only [Bool.and_eq_false_iff,decide_eq_false_iff_not] at this;omega
                have HM:=Lib.hid (HEND.out w2 ⟨t,St.refl _,fun _ _=>rfl,(by
                 rcases hbb with q|q
                 ·rw [q];exact HF2'.out
                 ·rw [← q];exact HF1'.out),HT4.out,Kp.refl _ _⟩)
                go_wp2_with (fail)
                go_end0
                exact ⟨⟨_,rfl⟩,HM.out⟩
         | false=>
           as_aux_lemma=>
            have hbb:a=j∨j=mid:=by have:=HBZ.out;simp only [Bool.and_eq_false_iff,decide_eq_false_iff_not] at this;omega
            have HT1:=Lib.hid (St.refl l)
            have HT2:Hid (OutB a mid l l):=fun _ _=>rfl
            have HT3:Hid (Fall l a mid):=by
             show Fall l a mid
             rcases hbb with q|q
             ·rw [q];exact HTD.out.2.2.2.1
             ·rw [← q];exact HTD.out.2.2.1
            have HT4:=HROWM
            have HT5:=HKM
            have HTN:=HMN
            clear HROWM HKM
            have HEND:Hid (∀ W,InsPost wr r c mid b l W→InsPost w r c a b l W):=by
             rintro W ⟨u,q1,q2,q3,q4,q5⟩
             obtain ⟨d1,d2,d3,d4,d5,d6,d7⟩:=HTD.out
             refine ⟨u,(d1.trans HT1.out).trans q1,fun p hp=>?_,d7.sorted (by omega) (by omega) (by have:=HMN.out;omega) HT1.out HT2.out HT3.out q1 q2 q3,q4,HT5.out.next q5 (fun _ _ e=>e)⟩
             exact ((q2 p (by omega)).trans (HT2.out p (by omega))).trans (d2 p (by omega))
            have HF1':Hid (Fall l mid e):=HTD.out.2.2.2.2.1.same fun p p1 p2=>HT2.out p (.inr p1)
            have HF2':Hid (Fall l e b):=HTD.out.2.2.2.2.2.1.same fun p p1 p2=>HT2.out p (.inr (by omega))
            go_upto_region 43 with (fail)
            go_cut [213] (fun s wx=>s=.bool (decide (mid<e)&&decide (e<b))∧wr=wx)
            case first=>
             go_wp2_with (fail)
             all_goals
              go_meet
              go_light
              refine ⟨congrArg Value.bool ?_,rfl⟩
              rw [Bool.eq_iff_iff]
              simp only [Bool.and_eq_true,decide_eq_true_eq]
              first|omega|(constructor<;>simp<;>omega)
            case rest=>
             obtain ⟨rfl,rfl⟩:=hcut
             generalize hbz:(decide (mid<e)&&decide (e<b))=bz
             have HBZ:=Lib.hid hbz
             clear hbz hbb
             cases bz with
             | true=>
               as_aux_lemma=>
                have hbb:mid<e∧e<b:=by have:=HBZ.out;simpa using this
                have HC:=Lib.hid (HIH.out mid e b l wr (by omega) (HG.out.kp HT5.out (fun e=>HGR.out e)) (fun s hs=>HL.out s (((HTD.out.1.trans HT1.out).mem s).1 hs)) HTN.out hbb.1 hbb.2 (by omega) HF1'.out HF2'.out HT4.out)
                go_wp2_with (fail)
                refine HC.out.mono ?_
                rintro e1 w3 ⟨⟨u,rfl⟩,q1⟩
                have HM:=Lib.hid (HEND.out _ q1)
                clear q1 HC
                go_wp2_with (fail)
                go_end0
                exact ⟨⟨_,rfl⟩,HM.out⟩
             | false=>
               as_aux_lemma=>
                have hbb:mid=e∨e=b:=by have:=HBZ.out;simp only [Bool.and_eq_false_iff,decide_eq_false_iff_not] at this;omega
                have HM:=Lib.hid (HEND.out wr ⟨l,St.refl _,fun _ _=>rfl,(by
                 rcases hbb with q|q
                 ·rw [q];exact HF2'.out
                 ·rw [← q];exact HF1'.out),HT4.out,Kp.refl _ _⟩)
                go_wp2_with (fail)
                go_end0
                exact ⟨⟨_,rfl⟩,HM.out⟩
theorem symMerge_step (r c n cap d:Nat) (hg:0≠r) (hn1:n≤1000000) (ih:SymAt r c n cap d):SymAt r c n cap (d+1):=by
 intro a k b l w hd hG hl hn hak hkb hbn hf1 hf2 h
 by_cases hk1:k=a+1
 ·subst hk1
  exact symMerge_one r c a b n cap l w hG hl hn hn1 hkb hbn hf2 h
 by_cases hb1:b=k+1
 ·subst hb1
  exact symMerge_last r c a k n cap l w hG hl hn hn1 (by omega) hbn hf1 h
 by_cases hkm:(a+b) / 2<k
 ·exact symMerge_far r c n cap d hg hn1 ih a k b l w hd hG hl hn (by omega) (by omega) hbn hf1 hf2 h hkm
 ·exact symMerge_near r c n cap d hg hn1 ih a k b l w hd hG hl hn (by omega) (by omega) hbn hf1 hf2 h hkm
theorem symMerge_any (r c n cap:Nat) (hg:0≠r) (hn1:n≤1000000):∀ d,SymAt r c n cap d
 | 0=>fun a k b l w hd _ _ _ hak hkb _ _ _ _=>by omega
 | d+1=>symMerge_step r c n cap d hg hn1 (symMerge_any r c n cap hg hn1 d)
end Go.Proofs.YtnlefnhdhigecaaGreatDoor
