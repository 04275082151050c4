/- Texts put together: AvStabF, AvPurC, AvSoN, AvSoO, AvOrdLaw, AvReadLaw, AvSoT, AvSoV. -/
import Derived.Test.YtnlefnhdhigecaaGreatDoorAvHStabH
import Derived.Test.YtnlefnhdhigecaaGreatDoorAvG32
import Derived.Test.YtnlefnhdhigecaaGreatDoorAvG27
import Derived.Test.YtnlefnhdhigecaaGreatDoorAvG12
namespace Go.Proofs.YtnlefnhdhigecaaGreatDoor
set_option maxRecDepth 100000
open Go.RowKit Av
def StAt (w:World) (r c:Nat) (l:List Bs) (Q:List Bs→Prop) (wr:World):Prop:=∃ m,St l m∧Q m∧RowB wr r strT 1 c (m.map encStr)∧Kp (fun j=>j=r) w wr
def St1Rel (w:World) (r c n:Nat) (l:List Bs) (s7 s8:Value) (wr:World):Prop:=∃ t:Nat,20*t≤n∧s7=.int .i64 ((20*t:Nat):Int)∧s8=.int .i64 ((20*t+20:Nat):Int)∧StAt w r c l (fun m=>First m n 20 t) wr
def St2Rel (w:World) (r c n:Nat) (l:List Bs) (s6:Value) (wr:World):Prop:=∃ bs:Nat,0<bs∧bs≤4000000∧s6=.int .i64 bs∧StAt w r c l (fun m=>Bks m n bs) wr
def St3Rel (w:World) (r c n bs:Nat) (l:List Bs) (s7 s8:Value) (wr:World):Prop:=∃ q A:Nat,q*(2*bs)=A∧A≤n∧s7=.int .i64 A∧s8=.int .i64 ((A+2*bs:Nat):Int)∧StAt w r c l (fun m=>Half m n bs q) wr
set_option maxHeartbeats 12800000 in
theorem stableCmp_any (r c n cap:Nat) (l:List Bs) (w:World) (hG:GL w) (hg:0≠r) (hl:∀ s∈l,s.length≤1000000) (hn:l.length=n) (hn1:n≤1000000) (h:RowB w r strT 1 c (l.map encStr)) :
  Calls Tryz.prog 214 #[.slice (some ⟨r,0,none⟩) n cap, .int .i64 n, .func (.func 174) #[] #[]] w fun e w'=>(∃ u,e=.returned u)∧SrtPost w r c l w':=by
 have HN:=Lib.hid hn
 have HINS:Hid (∀ (a b:Nat) (ai bi:Int) (m:List Bs) (wr:World),(a:Int)=ai→(b:Int)=bi→a≤b→b≤n→St l m→RowB wr r strT 1 c (m.map encStr)→Kp (fun j=>j=r) w wr→Calls Tryz.prog 247 #[.slice (some ⟨r,0,none⟩) n cap, .int .i64 ai, .int .i64 bi, .func (.func 174) #[] #[]] wr fun e w'=>(∃ u,e=.returned u)∧InsPost wr r c a b m w'):=by
  rintro a b _ _ m wr rfl rfl ha hb hst hrow hk
  exact insSort_any r c a b n cap m wr (hG.kp hk (fun e=>hg e)) hg (fun s hs=>hl s ((hst.mem s).1 hs)) (by rw [hst.1];exact hn) hb ha (by omega) hrow
 have HSYM:Hid (∀ (a k b:Nat) (ai ki bi:Int) (m:List Bs) (wr:World),(a:Int)=ai→(k:Int)=ki→(b:Int)=bi→a<k→k<b→b≤n→St l m→Fall m a k→Fall m k b→RowB wr r strT 1 c (m.map encStr)→Kp (fun j=>j=r) w wr→Calls Tryz.prog 248 #[.slice (some ⟨r,0,none⟩) n cap, .int .i64 ai, .int .i64 ki, .int .i64 bi, .func (.func 174) #[] #[]] wr fun e w'=>(∃ u,e=.returned u)∧InsPost wr r c a b m w'):=by
  rintro a k b _ _ _ m wr rfl rfl rfl ha hb hbn hst hf1 hf2 hrow hk
  exact symMerge_any r c n cap hg hn1 (b - a) a k b m wr (Nat.le_refl _) (hG.kp hk (fun e=>hg e)) (fun s hs=>hl s ((hst.mem s).1 hs)) (by rw [hst.1];exact hn) ha hb hbn hf1 hf2 hrow
 have HR:=Lib.hid h
 clear hG hl hn h hg
 go_enter Tryz.func214,Tryz.ntmps214
 go_wp2_with (fail)
 go_loopw [7,8] (fun s7 s8 wr=>St1Rel w r c n l s7 s8 wr) (fun s7 _ _=>n - (intOf s7).toNat)
 case atStart=>exact ⟨0,Nat.zero_le _,rfl,rfl,l,St.refl _,fun t ht=>absurd ht (Nat.not_lt_zero _),HR.out,Kp.refl _ _⟩
 case round=>
  clear HR
  obtain ⟨t,ht,rfl,rfl,m,hst,hfi,hrow,hk⟩:=hrel
  have HST:=Lib.hid hst
  have HFI:=Lib.hid hfi
  have HK:=Lib.hid hk
  by_cases hb:20*t+20≤n
  ·have HC:=Lib.hid (HINS.out (20*t) (20*t+20) _ _ m wr rfl rfl (by omega) hb hst hrow hk)
   have hb':((20*t+20:Nat):Int)≤(n:Int):=by omega
   clear hst hfi hrow hk
   go_wp2_with (fail)
   refine HC.out.mono ?_
   rintro e w1 ⟨⟨u,rfl⟩,m1,q1,q2,q3,q4,q5⟩
   have HM:Hid (StAt w r c l (fun m=>First m n 20 (t+1)) w1):=⟨m1,HST.out.trans q1,HFI.out.step (by rw [show t*20=20*t by omega,Nat.min_eq_left (by omega)];exact q3) (fun p hp=>q2 p (by omega)),q4,HK.out.next q5 (fun _ _ e=>e)⟩
   clear q1 q2 q3 q4 q5 HC
   go_wp2_with (fail)
   go_light
   refine ⟨⟨t+1, ?_, ?_, ?_,HM.out⟩, ?_⟩
   ·omega
   ·go_num
   ·go_num
   ·simp [intOf];omega
  ·have HC:=Lib.hid (HINS.out (20*t) n _ _ m wr rfl rfl (by omega) (Nat.le_refl _) hst hrow hk)
   have hb':¬ ((20*t+20:Nat):Int)≤(n:Int):=by omega
   clear hst hfi hrow hk
   go_wp2_with (fail)
   refine HC.out.mono ?_
   rintro e w1 ⟨⟨u,rfl⟩,m1,q1,q2,q3,q4,q5⟩
   have hfs:First m1 n 20 (t+1):=HFI.out.step (by rw [show t*20=20*t by omega,Nat.min_eq_right (by omega)];exact q3) (fun p hp=>q2 p (by omega))
   have HM:Hid (StAt w r c l (fun m=>Bks m n 20) w1):=⟨m1,HST.out.trans q1,hfs.bks (by omega),q4,HK.out.next q5 (fun _ _ e=>e)⟩
   clear q1 q2 q3 q4 q5 HC hfs HST HFI HK HINS
   go_wp2_with (fail)
   go_loopw [6] (fun s6 wr=>St2Rel w r c n l s6 wr) (fun s6 _=>n - (intOf s6).toNat)
   case atStart=>exact ⟨20,by decide,by decide,rfl,HM.out⟩
   case round=>
    clear HM
    obtain ⟨bs,hbs,hbb,rfl,m2,hst,hbk,hrow,hk⟩:=hrel
    by_cases hlt:bs<n
    ·have hlt':(bs:Int)<(n:Int):=by omega
     have HM:Hid (StAt w r c l (fun m=>Half m n bs 0) wr):=⟨m2,hst,hbk.half,hrow,hk⟩
     clear hst hbk hrow hk
     go_wp2_with (fail)
     go_loopw [7,8] (fun s7 s8 wr=>St3Rel w r c n bs l s7 s8 wr) (fun s7 _ _=>n - (intOf s7).toNat)
     case atStart=>exact ⟨0,0,Nat.zero_mul _,Nat.zero_le _,rfl,by go_num,HM.out⟩
     case round=>
      clear HM
      obtain ⟨q,A,hA,hAn,rfl,rfl,m3,hst,hhf,hrow,hk⟩:=hrel
      have HST:=Lib.hid hst
      have HHF:=Lib.hid hhf
      have HK:=Lib.hid hk
      have HA:=Lib.hid hA
      have HROW:=Lib.hid hrow
      clear hst hhf hrow hk hA
      by_cases hb2:A+2*bs≤n
      ·have h2:=HHF.out.two (by rw [HA.out];exact hb2)
       rw [HA.out] at h2
       have HC:=Lib.hid (HSYM.out A (A+bs) (A+2*bs) A ((A:Int)+(bs:Int)) _ m3 wr rfl (by omega) rfl (by omega) (by omega) hb2 HST.out h2.1 h2.2 HROW.out HK.out)
       have hb2':((A+2*bs:Nat):Int)≤(n:Int):=by omega
       clear h2
       go_wp2_with (fail)
       refine HC.out.mono ?_
       rintro e w2 ⟨⟨u,rfl⟩,m4,q1,q2,q3,q4,q5⟩
       have HM:Hid (StAt w r c l (fun m=>Half m n bs (q+1)) w2):=⟨m4,HST.out.trans q1,HHF.out.step (by rw [HA.out];exact q3) (fun p hp=>q2 p (by rw [HA.out] at hp;exact hp)),q4,HK.out.next q5 (fun _ _ e=>e)⟩
       clear q1 q2 q3 q4 q5 HC
       go_wp2_with (fail)
       go_light
       refine ⟨⟨q+1,A+2*bs, ?_,hb2, ?_, ?_,HM.out⟩, ?_⟩
       ·rw [Nat.succ_mul,HA.out]
       ·rfl
       ·go_num
       ·simp [intOf];omega
      ·have hb2':¬ ((A+2*bs:Nat):Int)≤(n:Int):=by omega
       by_cases hm:A+bs<n
       ·have h2:=HHF.out.last (by rw [HA.out];omega) (by rw [HA.out];exact hm)
        rw [HA.out] at h2
        have HC:=Lib.hid (HSYM.out A (A+bs) n A ((A:Int)+(bs:Int)) _ m3 wr rfl (by omega) rfl (by omega) hm (Nat.le_refl _) HST.out h2.1 h2.2 HROW.out HK.out)
        clear h2
        go_wp2_with (fail)
        refine HC.out.mono ?_
        rintro e w2 ⟨⟨u,rfl⟩,m4,q1,q2,q3,q4,q5⟩
        have HM:Hid (StAt w r c l (fun m=>Bks m n (2*bs)) w2):=⟨m4,HST.out.trans q1,HHF.out.done (by rw [HA.out];omega) (by rw [HA.out];exact q3) (fun p hp=>q2 p (by rw [HA.out] at hp;exact .inl hp)),q4,HK.out.next q5 (fun _ _ e=>e)⟩
        clear q1 q2 q3 q4 q5 HC
        go_wp2_with (fail)
        go_light
        refine ⟨⟨2*bs, ?_, ?_, ?_,HM.out⟩, ?_⟩
        ·omega
        ·omega
        ·go_num
        ·simp [intOf];omega
       ·have hf:=HHF.out.rest (by rw [HA.out];omega)
        have HM:Hid (StAt w r c l (fun m=>Bks m n (2*bs)) wr):=⟨m3,HST.out,HHF.out.done (by rw [HA.out];omega) hf (fun _ _=>rfl),HROW.out,HK.out⟩
        clear hf
        go_wp2_with (fail)
        go_light
        refine ⟨⟨2*bs, ?_, ?_, ?_,HM.out⟩, ?_⟩
        ·omega
        ·omega
        ·go_num
        ·simp [intOf];omega
    ·have hlt':¬ (bs:Int)<(n:Int):=by omega
     have HM:Hid (SrtPost w r c l wr):=⟨m2,hst,fall_pair (by rw [show m2.length=n by rw [hst.1];exact HN.out];exact hbk.all (by omega)),hrow,hk⟩
     clear hst hbk hrow hk
     go_wp2_with (fail)
     go_end0
     exact ⟨⟨_,rfl⟩,HM.out⟩
theorem sortStable_any (r c n cap:Nat) (l:List Bs) (w:World) (hG:GL w) (hg:0≠r) (hl:∀ s∈l,s.length≤1000000) (hn:l.length=n) (hn1:n≤1000000) (h:RowB w r strT 1 c (l.map encStr)) :
  Calls Tryz.prog 173 #[.slice (some ⟨r,0,none⟩) n cap, .func (.func 174) #[] #[]] w fun e w'=>(∃ u,e=.returned u)∧SrtPost w r c l w':=by
 have HC:=Lib.hid (stableCmp_any r c n cap l w hG hg hl hn hn1 h)
 clear hG hg hl hn h
 go_enter Tryz.func173,Tryz.ntmps173
 go_wp2_with (fail)
 refine HC.out.mono ?_
 rintro e w1 ⟨⟨u,rfl⟩,h1⟩
 have H1:=Lib.hid h1
 clear h1 HC
 go_wp2_with (fail)
 go_end0
 exact ⟨⟨_,rfl⟩,H1.out⟩
end Go.Proofs.YtnlefnhdhigecaaGreatDoor

namespace Go.Proofs.YtnlefnhdhigecaaGreatDoor
set_option maxRecDepth 100000
open Go.RowKit Av
theorem sortDeep_gen {base n c:Nat} {a:Option Addr} {l:List Bs} {w:World} (ho:w.ownsRow base strT 1 (.slice a n c) n (l.map encStr)) (hG:GL w) (hb:0<base) (hl:∀ s∈l,s.length≤1000000) (hn:l.length=n) (hn1:n≤1000000) :
  Calls Tryz.prog 173 #[.slice a n c, .func (.func 174) #[] #[]] w fun e w'=>(∃ u,e=.returned u)∧∃ m:List Bs,m.map toB=sortD (l.map toB)∧m.length=n∧w'.ownsRow base strT 1 (.slice a n c) n (m.map encStr)∧Kp (fun j=>base≤j) w w':=by
 by_cases h0:n=0
 ·subst h0
  have hl0:l=[]:=List.length_eq_zero_iff.1 hn
  subst hl0
  refine (sort_nil a c w).mono ?_
  rintro e w' ⟨hu,rfl⟩
  exact ⟨hu,[],by unfold sortD;simp,rfl,ho,Kp.refl _ _⟩
 ·obtain ⟨ad,rfl⟩:∃ ad,a=some ad:=by
   cases a with
   | none=>
     rcases ho.2 with ⟨h1,h2⟩|⟨g,cc,cur,h1,_⟩
     ·simp only [Value.slice.injEq] at h1;exact absurd h1.2.1 h0
     ·simp at h1
   | some ad=>exact ⟨ad,rfl⟩
  obtain ⟨r,rfl,hrow,hlen,hnc,hcm,hbr⟩:=RowB.of_owns ho
  refine (sortStable_any r c n c l w hG (by omega) hl hn hn1 hrow).mono ?_
  rintro e w' ⟨hu,m,h1,h2,h3,h4⟩
  have hml:m.length=n:=by rw [h1.1];exact hn
  refine ⟨hu,m,st_sortD h1 h2,hml, ?_,h4.mono (fun i _ e=>by have e2:i=r:=e;omega)⟩
  have:=h3.owns (m:=n) (base:=base) (by simp [hml]) hnc hcm hbr
  rwa [List.take_of_length_le (by simp [hml])] at this
theorem atR_lt {L:RL} {p:ByteArray} {n:NodeV} (hr:Rising (keysR L)) (h:mget L p=some n):atR L p<L.length:=by
 have h1:=isAt_some hr h
 unfold isAt at h1
 have h2:=of_decide_eq_true h1
 obtain ⟨h3,_⟩:=List.getElem?_eq_some_iff.1 h2
 unfold keysR at h3
 rwa [List.length_map] at h3
theorem remL_len1 {L:RL} {p:ByteArray} {n:NodeV} (hr:Rising (keysR L)) (h:mget L p=some n):(remL L p).length+1≤L.length:=by
 have h1:∀ (M:RL),(tellL ndRem M p).length=M.length:=fun M=>by
  unfold tellL
  split
  ·rfl
  ·split
   ·rfl
   ·rw [List.length_set]
 have h2:=atR_lt hr h
 unfold remL
 rw [h1,h]
 simp only
 unfold delR
 rw [List.length_append,List.length_take,List.length_drop]
 omega
def PurRelG (w0 w2:World) (b m:Nat) (room:Int) (K:Nat) (t:Tr) (L:RL) (l:List ByteArray) (s15:Value) (wr:World):Prop:=∃ (k:Nat) (t':Tr),k≤l.length∧s15=.int .i64 k∧TrA w0 wr b m room (K+k) t' ((l.take k).foldl remL L)∧Kp (nodeFr m t) w2 wr∧Fresh w2 t t'∧((l.take k).foldl remL L).length+k≤L.length∧∀ p∈l.drop k,∃ n,mget ((l.take k).foldl remL L) p=some n∧n.own≠0
def PurPostG (w0 w:World) (b m:Nat) (room:Int) (K:Nat) (t:Tr) (L0:RL) (X:RL×List ByteArray) (e:Ending) (w':World):Prop:=
 ∃ (v:Value) (ls:List Bs) (t':Tr),e=.returned v∧ls.map toB=X.2∧w'.ownsRow w.heap.size strT 1 v ls.length (ls.map encStr)∧TrA w0 w' b m room (K+ls.length) t' X.1∧Kp (nodeFr m t) w w'∧Fresh w t t'∧X.1.length+ls.length≤L0.length
set_option maxHeartbeats 6400000 in
theorem purge_gen {w0 w:World} {b m:Nat} {room:Int} {K:Nat} {t:Tr} {L:RL} (h:TrA w0 w b m room K t L) (hG:GT w0) (hK:K≤90000) (hr:room≤5000) (sess:Int) :
  Calls Tryz.prog 139 #[.pointer (some ⟨b,0,none⟩), .int .i64 sess] w fun e w'=>PurPostG w0 w b m room K t L (purgeL L sess) e w':=by
 have HOF:=Lib.hid (tsOf h.ts h.good.snd (by omega) sess)
 have hof:=ofBL_of h.srt h.ts.pk.1 sess
 have hle:∀ s∈ofS (pl t) (pathsP (pl t)) sess,s.length≤1000000:=fun s hs=>by
  have h1:=(List.mem_filter.1 hs).1
  obtain ⟨n,hn⟩:=Option.ne_none_iff_exists'.1 (paths_mem.1 h1)
  have:=path_small _ (h.good.snd.good _ _ hn)
  rw [Lib.size_eq] at this
  simp only at this
  omega
 have hgb:0<w.heap.size:=by
  obtain ⟨mm,hmm⟩:=(hG.ext h.ts.ex).gl
  exact World.block_lt_of_cell? _ _ hmm
 have HGL:=Lib.hid (hG.ext h.ts.ex).gl
 have hnd:=ofBL_nodup h.srt.rise sess
 have how:=fun p=>ofBL_own (p:=p) h.srt.rise (sess:=sess)
 have hpu:purgeL L sess=((sortD (ofBL L sess)).foldl remL L,sortD (ofBL L sess)):=rfl
 have hpm:=sortD_perm (ofBL L sess)
 rw [hpu]
 have hLr:L.length≤5000:=by have h1:=h.good.snd.size;have h2:=h.len;omega
 have hn2:(ofS (pl t) (pathsP (pl t)) sess).length≤5000:=by
  have:=congrArg List.length hof
  rw [List.length_map] at this
  have h3:(ofBL L sess).length≤L.length:=by unfold ofBL;rw [List.length_map];exact List.length_filter_le _ _
  omega
 rw [hof] at hnd how hpm ⊢
 have HH:=Lib.hid h
 have HND:=Lib.hid hnd
 have HOW:=Lib.hid how
 have HPM:=Lib.hid hpm
 have HLE:=Lib.hid hle
 have HGB:=Lib.hid hgb
 have HG:=Lib.hid hG
 generalize ofS (pl t) (pathsP (pl t)) sess=l at *
 have HN2:=Lib.hid hn2
 clear hof hle hgb hnd how hpm hpu h hG hn2
 go_enter Tryz.func139,Tryz.ntmps139
 go_wp2_with (fail)
 refine HOF.out.mono ?_
 rintro e w1 ⟨v,rfl,ho,hx1⟩
 obtain ⟨a,c,rfl⟩:=owns_slice ho
 have HX1:=Lib.hid hx1
 have HSRT:=Lib.hid (sortDeep_gen ho (HGL.out.ext hx1) HGB.out HLE.out rfl (Nat.le_trans HN2.out (by decide)))
 clear ho hx1 HOF
 go_wp2_with (fail)
 refine HSRT.out.mono ?_
 rintro e w2 ⟨⟨u,rfl⟩,ms,h1,h2,h3,h4⟩
 have hx2:Ext w w2:=HX1.out.next h4 (fun i hi e=>by omega)
 have HX2:=Lib.hid hx2
 have HM:=Lib.hid h1
 have HML:=Lib.hid h2
 have HRW:=Lib.hid h3
 clear h1 h2 h3 h4 hx2 HSRT HX1
 have hml:=HML.out
 rw [← hml] at HRW ⊢
 obtain ⟨aS,cS,hsl,hopS⟩:=strs_open HRW.out
 simp only [Value.slice.injEq,true_and] at hsl
 obtain ⟨rfl,rfl⟩:=hsl
 have HOP:=Lib.hid hopS
 have hm20:ms.length≤5000:=by have:=HN2.out;omega
 have hperm:=HPM.out
 rw [← HM.out] at hperm
 have HPMM:=Lib.hid hperm
 have HNDM:Hid ((ms.map toB).Nodup):=hperm.nodup_iff.2 HND.out
 have H0:=Lib.hid (HH.out.ext HX2.out)
 clear hml hopS hperm HML HPM HND
 go_wp2_with (fail)
 go_loopw [15] (fun s15 wr=>PurRelG w0 w2 b m room K t L (ms.map toB) s15 wr) (fun s15 _=>ms.length - (intOf s15).toNat)
 case atStart=>exact ⟨0,t,Nat.zero_le _,rfl,H0.out,Kp.refl _ _,Fresh.refl _ _,Nat.le_refl _,fun p hp=>HOW.out p (HPMM.out.mem_iff.1 hp)⟩
 case round=>
  obtain ⟨k,t',hk,rfl,ht,hkp,hfr,hlen,how⟩:=hrel
  rw [List.length_map] at hk
  have HT:=Lib.hid ht
  have HKP:=Lib.hid hkp
  have HFR:=Lib.hid hfr
  have HOWK:=Lib.hid how
  have HLEN:=Lib.hid hlen
  clear ht hkp hfr how hlen
  by_cases hlt:k<ms.length
  ·obtain ⟨g,off,rfl,hc⟩:=HOP.out (by omega)
   have hcell:=H0.out.ts.tr.own' HKP.out HRW.out
   obtain ⟨_,_,hsl2,hop2⟩:=strs_open hcell
   simp only [Value.slice.injEq,true_and] at hsl2
   obtain ⟨rfl,rfl⟩:=hsl2
   obtain ⟨g2,off2,he2,hc2⟩:=hop2 (by omega)
   simp only [Option.some.injEq,Addr.mk.injEq,and_true] at he2
   obtain ⟨rfl,rfl⟩:=he2
   have c0:=hc2 k hlt
   have hk2:k<(ms.map toB).length:=by rw [List.length_map];exact hlt
   have hpk:(ms.map toB)[k]=toB ms[k]:=List.getElem_map _
   have hdrop:(ms.map toB).drop k=toB ms[k]::(ms.map toB).drop (k+1):=by rw [List.drop_eq_getElem_cons hk2,hpk]
   have htake:(ms.map toB).take (k+1)=(ms.map toB).take k++[toB ms[k]]:=by rw [List.take_succ_eq_append_getElem hk2,hpk]
   have hfold:((ms.map toB).take (k+1)).foldl remL L=remL (((ms.map toB).take k).foldl remL L) (toB ms[k]):=by rw [htake,List.foldl_append];rfl
   have hndd:toB ms[k]∉(ms.map toB).drop (k+1):=by
    have h1:=HNDM.out
    rw [← List.take_append_drop k (ms.map toB),hdrop] at h1
    exact (List.nodup_cons.1 (List.nodup_append.1 h1).2.1).1
   obtain ⟨n,hn,hno⟩:=HOWK.out (toB ms[k]) (by rw [hdrop];simp)
   have hnm:n.names=[]:=HT.out.good.snd.eph _ n (by rw [← HT.out.srt.get];exact hn) hno
   have hgd:=HT.out.good.snd.good _ n (by rw [← HT.out.srt.get];exact hn)
   have HREM:=Lib.hid (trRemove HT.out HG.out (by omega) (toB ms[k]) n hn hnm)
   have HNX:Hid (∀ p∈(ms.map toB).drop (k+1),∃ n,mget (remL (((ms.map toB).take k).foldl remL L) (toB ms[k])) p=some n∧n.own≠0):=fun p hp=>by
    obtain ⟨n',h1,h2⟩:=HOWK.out p (by rw [hdrop];simp [hp])
    obtain ⟨n'',h3,h4⟩:=remL_own HT.out.srt.rise hgd hn hnm (fun e=>hndd (by rw [← e];exact hp)) h1
    exact ⟨n'',h3,by rw [h4];exact h2⟩
   have HLN:Hid ((remL (((ms.map toB).take k).foldl remL L) (toB ms[k])).length+(k+1)≤L.length):=by
    have h1:=remL_len1 HT.out.srt.rise hn
    have h2:=HLEN.out
    show _≤_
    omega
   have HFOLD:=Lib.hid hfold
   unfold encStr at c0
   clear hc hcell hop2 hc2 hk2 hpk hdrop htake hfold hndd hn hno hnm hgd
   rw [show (⟨ms[k].toArray⟩:ByteArray)=toB ms[k] from rfl] at c0
   generalize toB ms[k]=p at *
   go_wp2_with (fail)
   refine HREM.out.mono ?_
   rintro e w3 ⟨⟨u,rfl⟩,t2,h1,h2,h3⟩
   have H1:=Lib.hid h1
   have H2:=Lib.hid (HKP.out.next h2 (fun i hi hs=>by
    rcases hs with hs|⟨e,he,rfl⟩
    ·exact .inl hs
    ·rcases HFR.out e he with ⟨e0,he0,h0⟩|h0
     ·exact .inr ⟨e0,he0,h0⟩
     ·omega))
   have H3:=Lib.hid (HFR.out.trans h3 HKP.out.size)
   clear h1 h2 h3 HREM
   go_wp2_with (fail)
   go_light
   refine ⟨⟨k+1,t2, ?_, ?_, ?_,H2.out,H3.out, ?_, ?_⟩, ?_⟩
   ·rw [List.length_map];omega
   ·go_num
   ·rw [HFOLD.out];exact H1.out
   ·rw [HFOLD.out];exact HLN.out
   ·rw [HFOLD.out];exact HNX.out
   ·simp [intOf];omega
  ·have hke:k=ms.length:=by omega
   have ht2:=HT.out
   have hl2:=HLEN.out
   rw [List.take_of_length_le (by rw [List.length_map];omega),hke] at ht2 hl2
   have HL2:=Lib.hid hl2
   have HT2:=Lib.hid ht2
   have HRW2:=Lib.hid (H0.out.ts.tr.own' HKP.out HRW.out)
   have HK2:=Lib.hid ((Ext.kp HX2.out).trans HKP.out)
   have HF2:=Lib.hid (HFR.out.mono HX2.out.size)
   clear ht2 hl2 hke
   go_wp2_with (fail)
   go_ret
   rw [← HM.out]
   exact ⟨_,ms,t',rfl,rfl,HRW2.out,HT2.out,HK2.out,HF2.out,HL2.out⟩
end Go.Proofs.YtnlefnhdhigecaaGreatDoor

namespace Go.Proofs.YtnlefnhdhigecaaGreatDoor
set_option maxRecDepth 100000
open Go.RowKit Av
variable {w0 w w':World} {g K N:Nat} {B:SoB} {s:SoV}
theorem SoR.evdel (h:SoR w0 w g K B s) (id:Int) (hm:MapK mI w' B.em (mdel B.E id)) (k:Kp (fun i=>i=B.em) w w'):SoPost w0 w g K B { s with ev:=fun q=>if q=id then [] else s.ev q } w':=by
 have hS:=h.safeE
 have hi:=h.ids
 have hex:Ext w0 w':=h.ex.next k (fun i hi hs=>by have:=hS.low i hs;omega)
 have hE:=h.ev.del id hm k (fun q i hq=>h.ev.off q i hq)
 have hsub:∀ i,SoFr g { B with E:=mdel B.E id } i→SoFr g B i:=fun i hs=>by
  rcases hs with hs|hs|hs|hs|hs|hs|⟨q,hs⟩
  ·exact .inl hs
  ·exact .inr (.inl hs)
  ·exact .inr (.inr (.inl hs))
  ·exact .inr (.inr (.inr (.inl hs)))
  ·exact .inr (.inr (.inr (.inr (.inl hs))))
  ·exact .inr (.inr (.inr (.inr (.inr (.inl hs)))))
  ·refine .inr (.inr (.inr (.inr (.inr (.inr ⟨q, ?_⟩)))))
   have hs:(Av.rowAt (mdel B.E id) q).ownBlock=some i:=hs
   rw [rowAt_del] at hs
   split at hs
   ·simp [Value.ownBlock] at hs
   ·exact hs
 exact ⟨{ B with E:=mdel B.E id },⟨h.blk.kp k (hS.blk h.blk (by simp)),h.tr.safe k hS (by simp) (by simp) (by simp) hi.2.1,h.ss.safe k hS (by simp) (by simp),h.wl.safe k hS (by simp) (by simp),h.lm.safe k hS (by simp) (by simp) hi.2.2.2.1,hE,h.ne,fun i hs=>h.low i (hsub i hs),hex⟩,k.mono (fun i _ hs=>.inr (.inr (.inr (.inr (.inr (.inl hs)))))),fun i hs=>.inl (hsub i hs)⟩
theorem SoR.lastdel (h:SoR w0 w g K B s) (id:Int) (hm:MapK mI w' B.lm (mdel B.M id)) (k:Kp (fun i=>i=B.lm) w w'):SoPost w0 w g K B { s with last:=mdel s.last id } w':=by
 refine h.lasts k ⟨hm,fun q=>?_⟩
 have hg:=h.lm.get q
 rw [mget_mdel,mget_mdel]
 by_cases e:q=id
 ·rw [if_pos e,if_pos e]
 ·rw [if_neg e,if_neg e]
  cases hq:mget s.last q with
  | none=>rw [hq] at hg;exact hg
  | some r=>
    rw [hq] at hg
    obtain ⟨u,h1,h2⟩:=hg
    exact ⟨u,h1,h2.kpT k (h.safeL.noT (by simp)) (h.safeL.noT (by simp))⟩
theorem SoR.purged (h:SoR w0 w g K B s) {n:Nat} {t':Tr} {tr':RL} (ht:TrA w0 w' B.b B.m s.room n t' tr') (k:Kp (nodeFr B.m B.t) w w') (hf:Fresh w B.t t'):SoPost w0 w g n B { s with tr:=tr' } w':=by
 refine h.tree k h.safeT (fun i hs=>.inr hs) (fun T hT=>.inr (by simpa using hT)) (fun i hi=>by simpa using hi) ht (.inl rfl) (fun i hi=>?_)
 rcases hi with hi|hi|⟨e,he,rfl⟩
 ·exact .inl (.inl hi)
 ·exact .inl (.inr (.inl hi))
 ·rcases hf e he with ⟨e0,h0,h1⟩|h0
  ·exact .inl (.inr (.inr ⟨e0,h0,h1⟩))
  ·exact .inr h0
theorem SoOk.gone:∀ (l:List ByteArray) {s:SoV},SoOk N s→SoOk N (goneS s l)
 | [],_,h=>h
 | p::l,_,h=>SoOk.gone l (h.fire p 2)
theorem SoOk.ended (h:SoOk N s) (id:Int):SoOk (N+1) (endS s id):=by
 have h1:SoOk (N+1) { s with zx:=s.zx+1,tr:=(purgeL s.tr id).1 }:=⟨h.up.ss,⟨by have:=h.zx.1;show 0≤s.zx+1;omega,by have:=h.zx.2;show s.zx+1≤_;omega⟩,h.up.ev,h.last⟩
 have h2:=SoOk.gone (purgeL s.tr id).2 h1
 unfold endS
 simp only
 generalize goneS { s with zx:=s.zx+1,tr:=(purgeL s.tr id).1 } (purgeL s.tr id).2=s1 at h2 ⊢
 refine ⟨h2.ss,h2.zx,fun q=>?_,fun q r hq=>?_⟩
 ·have h3:=h2.ev q
  have h4:(dropW id s1.wl).length≤s1.wl.length:=List.length_filter_le _ _
  show (if q=id then [] else s1.ev q).length+(dropW id s1.wl).length≤N+1
  split
  ·simp only [List.length_nil];omega
  ·omega
 ·have hq:mget (mdel s1.last id) q=some r:=hq
  rw [mget_mdel] at hq
  split at hq
  ·cases hq
  ·exact h2.last q r hq
def EndRel (w0 w2:World) (g K:Nat) (B:SoB) (s:SoV) (l:List ByteArray) (s20:Value) (wr:World):Prop:=∃ k:Nat,k≤l.length∧s20=.int .i64 k∧SoPost w0 w2 g K B (goneS s (l.take k)) wr
end Go.Proofs.YtnlefnhdhigecaaGreatDoor

namespace Go.Proofs.YtnlefnhdhigecaaGreatDoor
set_option maxRecDepth 100000
open Go.RowKit Av
variable {w0 w w':World} {g K N:Nat} {B:SoB} {s:SoV}
theorem closeS_none {ss:SsV} {id:Int} (h:(closeS ss id).2≠0):(closeS ss id).1=ss:=by
 unfold closeS at h ⊢
 split
 ·rfl
 ·rename_i hf;rw [hf] at h;exact absurd rfl h
end Go.Proofs.YtnlefnhdhigecaaGreatDoor

namespace Go.Proofs.YtnlefnhdhigecaaGreatDoor
set_option maxRecDepth 100000
open Go.RowKit Av
structure OrdS (last z:Int) (s:SoV):Prop where
 room:s.room=10
 tr:s.tr=[]
 live:liveS s.ss 1=true
 zx:s.zx=z
 pos:0≤z
 last:(last=0∧mget s.last 1=none)∨(0<last∧∃ r,mget s.last 1=some r∧r.num=last∧r.err=4)
end Go.Proofs.YtnlefnhdhigecaaGreatDoor

namespace Go.Proofs.YtnlefnhdhigecaaGreatDoor
set_option maxRecDepth 100000
open Go.RowKit Av
structure SameS (s t:SoV):Prop where
 room:t.room=s.room
 tr:t.tr=s.tr
 ss:t.ss=s.ss
 zx:t.zx=s.zx
 last:t.last=s.last
theorem chStep_same (s:SoV) (x:OpV×Rp):SameS s (chStep s x):=by
 unfold chStep
 split<;>exact ⟨rfl,rfl,rfl,rfl,rfl⟩
theorem SameS.trans {s t u:SoV} (h:SameS s t) (k:SameS t u):SameS s u:=⟨k.room.trans h.room,k.tr.trans h.tr,k.ss.trans h.ss,k.zx.trans h.zx,k.last.trans h.last⟩
theorem chs_same:∀ (l:List (OpV×Rp)) (s:SoV),SameS s (l.foldl chStep s)
 | [],_=>⟨rfl,rfl,rfl,rfl,rfl⟩
 | x::l,s=>(chStep_same s x).trans (chs_same l _)
theorem changed_same (s:SoV) (ops:List OpV) (r:RpV):SameS s (changedS s ops r):=by
 unfold changedS
 split
 ·exact ⟨rfl,rfl,rfl,rfl,rfl⟩
 ·exact chs_same _ _
theorem done_room (s:SoV) (sess num:Int) (ops:List OpV):(doneS s sess num ops).1.room=s.room:=by
 unfold doneS
 simp only
 rw [(changed_same _ ops _).room]
theorem ask_room (s:SoV) (sess num:Int) (ops:List OpV):(askS s sess num ops).1.room=s.room:=by
 unfold askS
 split
 ·rfl
 ·split
  ·rfl
  ·split
   ·exact done_room _ sess num ops
   ·split
    ·rfl
    ·split
     ·rfl
     ·exact done_room _ sess num ops
theorem done_live (s:SoV) (sess num:Int) (ops:List OpV):(doneS s sess num ops).1.ss=s.ss:=by
 unfold doneS
 simp only
 rw [(changed_same _ ops _).ss]
structure AgS (ops:List OpV) (r:RpV) (s:SoV):Prop where
 live:liveS s.ss 1=true
 last:(mayR 1 3 ops≠0∧r=failRp 3 (mayR 1 3 ops) (-1) 0)∨(mayR 1 3 ops=0∧mget s.last 1=some r∧r.num=3)
end Go.Proofs.YtnlefnhdhigecaaGreatDoor

namespace Go.Proofs.YtnlefnhdhigecaaGreatDoor
set_option maxRecDepth 100000
open Go.RowKit Av
theorem gone_same:∀ (l:List ByteArray) (s:SoV),SameS s (goneS s l)
 | [],_=>⟨rfl,rfl,rfl,rfl,rfl⟩
 | p::l,s=>(show SameS s (fireS s p 2) from ⟨rfl,rfl,rfl,rfl,rfl⟩).trans (gone_same l _)
theorem end_tr (s:SoV) (id:Int):(endS s id).tr=(purgeL s.tr id).1∧(endS s id).room=s.room∧(endS s id).ss=s.ss∧(endS s id).zx=s.zx+1:=by
 have h:=gone_same (purgeL s.tr id).2 { s with zx:=s.zx+1,tr:=(purgeL s.tr id).1 }
 exact ⟨h.tr,h.room,h.ss,h.zx⟩
variable {w0 w w':World} {g K N:Nat} {B:SoB} {s:SoV}
end Go.Proofs.YtnlefnhdhigecaaGreatDoor

namespace Go.Proofs.YtnlefnhdhigecaaGreatDoor
set_option maxRecDepth 100000
open Go.RowKit Av
variable {w0 w w':World} {g K N:Nat} {B:SoB} {s:SoV}
def EndPost (w0 w:World) (g K:Nat) (B:SoB) (s s':SoV) (w':World):Prop:=∃ n,SoPost w0 w g (K+n) B s' w'∧s'.tr.length+n≤s.tr.length
set_option maxHeartbeats 12800000 in
theorem soEnd_gen (h:SoR w0 w g K B s) (hok:SoOk N s) (hN:N≤90000) (hK:K≤80000) (hG:GT w0) (id:Int) (hroom:s.room≤5000) :
  Calls Tryz.prog 97 #[.pointer (some ⟨g,0,none⟩), .int .i64 id] w fun e w'=>(∃ u,e=.returned u)∧EndPost w0 w g K B s (endS s id) w'∧SoOk (N+1) (endS s id):=by
 have HEND:=Lib.hid (hok.ended id)
 have hg3:=h.blk
 have g3:=hg3.cell 3 _ rfl
 have f3:=hg3.free 3
 have hz:=hok.zx
 have hW0:wrap64 (s.zx+1)=s.zx+1:=by unfold wrap64;omega
 have hV0:IntKind.i64.wrap (s.zx+1)=s.zx+1:=IntWalk.i64_in _ (by omega)
 obtain ⟨hr1,hk1⟩:=h.zxid (s.zx+1)
 obtain ⟨w1,hW1⟩:∃ w1,w.setCell ⟨g,3,none⟩ (.int .i64 (s.zx+1))=w1:=⟨_,rfl⟩
 rw [hW1] at hr1 hk1
 have hok1:SoOk (N+1) { s with zx:=s.zx+1 }:=⟨hok.up.ss,⟨by have:=hok.zx.1;show 0≤s.zx+1;omega,by have:=hok.zx.2;show s.zx+1≤_;omega⟩,hok.up.ev,hok.last⟩
 have HPUR:=Lib.hid (purge_gen hr1.tr hG (by omega) hroom id)
 have hps:∀ p∈(purgeL s.tr id).2,p.size≤maxLen:=fun p hp=>by
  have h1:p∈ofBL s.tr id:=(sortD_perm _).mem_iff.1 hp
  obtain ⟨n,h2,_⟩:=ofBL_own h.tr.srt.rise h1
  have:=path_small _ (h.tr.good.snd.good _ n (by rw [← h.tr.srt.get];exact h2))
  unfold maxLen;omega
 have hES:endS s id={ goneS { s with zx:=s.zx+1,tr:=(purgeL s.tr id).1 } (purgeL s.tr id).2 with wl:=dropW id (goneS { s with zx:=s.zx+1,tr:=(purgeL s.tr id).1 } (purgeL s.tr id).2).wl,ev:=fun q=>if q=id then [] else (goneS { s with zx:=s.zx+1,tr:=(purgeL s.tr id).1 } (purgeL s.tr id).2).ev q,last:=mdel (goneS { s with zx:=s.zx+1,tr:=(purgeL s.tr id).1 } (purgeL s.tr id).2).last id }:=rfl
 generalize purgeL s.tr id=P at *
 have HES:=Lib.hid hES
 have HH:=Lib.hid h
 have HR1:=Lib.hid hr1
 have HK1:=Lib.hid hk1
 have HPS:=Lib.hid hps
 have HOK1:=Lib.hid hok1
 have HG:=Lib.hid hG
 have hb0:=hr1.blk.cell 0 _ rfl
 have B0:=Lib.hid hb0
 have HW1:=Lib.hid hW1
 clear h hok hG hES hr1 hk1 hps hok1 hg3 hb0 hW1 hz
 go_enter Tryz.func97,Tryz.ntmps97
 go_upto_region 1 with (fail)
 rw [HW1.out]
 clear g3 f3
 have c0:=B0.out
 go_wp2_with (fail)
 refine HPUR.out.mono ?_
 rintro e w2 ⟨v,ls,t',rfl,h1,h2,h3,h4,h5,h6⟩
 have HLN:=Lib.hid h6
 have hlr:s.tr.length≤5000:=by have q1:=HR1.out.tr.good.snd.size;have q2:=HR1.out.tr.len;simp only at q1 q2;omega
 have hp2:=HR1.out.purged h3 h4 h5
 have hl20:ls.length≤5000:=by omega
 obtain ⟨B2,hS2,hk2,ho2⟩:=hp2
 obtain ⟨a,c,rfl⟩:=owns_slice h2
 have HS2:=Lib.hid hS2
 have HK2:=Lib.hid hk2
 have HO2:=Lib.hid ho2
 have HRW:=Lib.hid h2
 have HLS:=Lib.hid h1
 clear c0 h1 h2 h3 h4 h5 h6 hS2 hk2 ho2 HPUR
 obtain ⟨s2,hs2⟩:∃ s2:SoV,({ s with zx:=s.zx+1,tr:=P.1 }:SoV)=s2:=⟨_,rfl⟩
 have hok2:SoOk (N+1) s2:=by rw [← hs2];exact ⟨HOK1.out.ss,HOK1.out.zx,HOK1.out.ev,HOK1.out.last⟩
 have HS3:Hid (SoR w0 w2 g (K+ls.length) B2 s2):=by rw [← hs2];exact HS2.out
 have HOK2:=Lib.hid hok2
 have HS2E:=Lib.hid hs2
 have hls:=HLS.out
 have hpsz:∀ p∈ls.map toB,p.size≤maxLen:=fun p hp=>HPS.out p (by rw [← hls];exact hp)
 have HPZ:=Lib.hid hpsz
 clear HS2 hs2 hok2 hls hpsz HOK1 HPS
 go_wp2_with (fail)
 go_loopw [20] (fun s20 wr=>EndRel w0 w2 g (K+ls.length) B2 s2 (ls.map toB) s20 wr) (fun s20 _=>ls.length - (intOf s20).toNat)
 case atStart=>exact ⟨0,Nat.zero_le _,rfl,SoPost.refl HS3.out⟩
 case round=>
  obtain ⟨k,hk,rfl,Bk,hSk,hkk,hbk⟩:=hrel
  rw [List.length_map] at hk
  have HSK:=Lib.hid hSk
  have HKK:=Lib.hid hkk
  have HBK:=Lib.hid hbk
  have hokk:=SoOk.gone ((ls.map toB).take k) HOK2.out
  have HOKK:=Lib.hid hokk
  clear hSk hkk hbk hokk
  by_cases hlt:k<ls.length
  ·have hrw:=owns_kpT HRW.out HKK.out (HS3.out.safeA.noT (by decide))
   obtain ⟨_,_,hsl2,hop2⟩:=strs_open hrw
   simp only [Value.slice.injEq,true_and] at hsl2
   obtain ⟨rfl,rfl⟩:=hsl2
   obtain ⟨q,off,rfl,hc2⟩:=hop2 (by omega)
   have cs:=hc2 k hlt
   unfold encStr at cs
   have hk2:k<(ls.map toB).length:=by rw [List.length_map];exact hlt
   have hpk:(ls.map toB)[k]=toB ls[k]:=List.getElem_map _
   have hfold:goneS s2 ((ls.map toB).take (k+1))=fireS (goneS s2 ((ls.map toB).take k)) (toB ls[k]) 2:=by
    rw [List.take_succ_eq_append_getElem hk2,hpk]
    unfold goneS
    rw [List.foldl_append];rfl
   have hpz:=HPZ.out (toB ls[k]) (by rw [← hpk];exact List.getElem_mem _)
   rw [show (⟨ls[k].toArray⟩:ByteArray)=toB ls[k] from rfl] at cs
   have HF:=Lib.hid (soFire_any HSK.out HOKK.out (by omega) (HG.out.ext HSK.out.ex).gl (toB ls[k]) 2 hpz)
   have HFOLD:=Lib.hid hfold
   clear hrw hop2 hc2 hk2 hpk hfold hpz
   generalize toB ls[k]=p at *
   go_wp2_with (fail)
   refine HF.out.mono ?_
   rintro e w3 ⟨⟨u,rfl⟩,h1⟩
   have H1:=Lib.hid (SoPost.trans HKK.out HBK.out h1)
   clear h1 HF
   go_wp2_with (fail)
   go_light
   refine ⟨⟨k+1, ?_, ?_, ?_⟩, ?_⟩
   ·rw [List.length_map];omega
   ·go_num
   ·rw [HFOLD.out];exact H1.out
   ·simp [intOf];omega
  ·have htk:(ls.map toB).take k=P.2:=by rw [List.take_of_length_le (by rw [List.length_map];omega),HLS.out]
   have hS3:=HSK.out
   have hO3:=HOKK.out
   rw [htk] at hS3 hO3
   have hwlen:(goneS s2 P.2).wl.length≤100000:=by have:=hO3.ev 0;omega
   have HDR:=Lib.hid (watDrop_any Bk.wb Bk.wr 1000 (goneS s2 P.2).wl id wr hS3.wl hwlen)
   have c2:=hS3.blk.cell 2 _ rfl
   have H3:=Lib.hid hS3
   clear hS3 hO3 htk hwlen
   go_wp2_with (fail)
   refine HDR.out.mono ?_
   rintro e w4 ⟨rfl,h1,h2⟩
   obtain ⟨B4,h4,hk4,ho4⟩:=H3.out.watch h2 ⟨_,h1,fun i hi=>.inl hi⟩
   have H4:=Lib.hid h4
   have HK4:=Lib.hid hk4
   have HO4:=Lib.hid ho4
   clear h1 h2 h4 hk4 ho4 c2 HDR
   have c5:=H4.out.blk.cell 5 _ rfl
   obtain ⟨w5,u1,u2,u3,u4⟩:=MapK.delete kI64 tEvs H4.out.ev.map id
   obtain ⟨B5,h5,hk5,ho5⟩:=H4.out.evdel id u2 u3
   have H5:=Lib.hid h5
   have HK5:=Lib.hid hk5
   have HO5:=Lib.hid ho5
   clear u2 u3 u4 h5 hk5 ho5
   have c4:=H5.out.blk.cell 4 _ rfl
   obtain ⟨w6,v1,v2,v3,v4⟩:=MapK.delete kI64 tLast H5.out.lm.map id
   have hp6:=H5.out.lastdel id v2 v3
   have hp5:=SoPost.trans HK5.out HO5.out hp6
   have hp4:=SoPost.trans HK4.out HO4.out hp5
   have hp3:=SoPost.trans HKK.out HBK.out hp4
   have hp2:=SoPost.trans HK2.out HO2.out hp3
   have hp1:=SoPost.trans HK1.out (fun i hi=>.inl hi) hp2
   have HP:=Lib.hid hp1
   have u1':∀ ty,(Builtin.delete_ #[139,2] ty #[.map (some B4.em), .int .i64 id]).run Tryz.prog w4=.ok (.tuple #[]) w5:=u1
   have v1':∀ ty,(Builtin.delete_ #[138,2] ty #[.map (some B5.lm), .int .i64 id]).run Tryz.prog w5=.ok (.tuple #[]) w6:=v1
   clear hp1 hp2 hp3 hp4 hp5 hp6 v2 v3 v4 u1 v1
   go_wp2_with (fail)
   go_end0
   have hpp:=HP.out
   have he:=HES.out
   rw [HS2E.out] at he
   refine ⟨⟨_,rfl⟩,⟨ls.length, ?_, ?_⟩,HEND.out⟩
   ·rw [he]
    exact hpp
   ·rw [he]
    have h1:=gone_same P.2 s2
    show (goneS s2 P.2).tr.length+_≤_
    rw [h1.tr,← HS2E.out]
    exact HLN.out
end Go.Proofs.YtnlefnhdhigecaaGreatDoor

