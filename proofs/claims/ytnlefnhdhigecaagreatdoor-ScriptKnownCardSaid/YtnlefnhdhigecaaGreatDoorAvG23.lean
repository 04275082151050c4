/- Texts put together: AvWWatH, AvWWatI, AvWWatJ, AvMapRows. -/
import Derived.Test.YtnlefnhdhigecaaGreatDoorAvG22
import Derived.Test.YtnlefnhdhigecaaGreatDoorAvG15
import Derived.Test.YtnlefnhdhigecaaGreatDoorAvG5
import Derived.Test.YtnlefnhdhigecaaGreatDoorAvG1
namespace Go.Proofs.YtnlefnhdhigecaaGreatDoor
set_option maxRecDepth 100000
open Go.RowKit Av
abbrev evT:TypeId:=166
abbrev evsT:TypeId:=75
theorem ev_facts:ElemOk Tryz.prog evsT evT 3:=⟨by kernel_rfl,by kernel_rfl⟩
theorem wt_one (xs:List Wt):∀ y∈xs.flatMap wcell,y.oneCell'=true:=by
 intro y hy
 obtain ⟨e,_,he⟩:=List.mem_flatMap.1 hy
 exact wcell_one e y he
structure FInv (pb ub cb ob:Nat) (p up:ByteArray) (ch:Int) (rb base:Nat) (seen:List Wt) (cur:Option Nat) (W:World):Prop where
 pc:W.cell? ⟨pb,0,none⟩=some (.string p)
 uc:W.cell? ⟨ub,0,none⟩=some (.string up)
 cc:W.cell? ⟨cb,0,none⟩=some (.int .i64 ch)
 out:∃ v,Blk W ob #[v] evsT∧W.ownsRow base evT 3 v (toldW (evG p up ch) seen).length ((toldW (evG p up ch) seen).flatMap wcell)∧cur=v.ownBlock
 ne:(ob≠pb∧ob≠ub∧ob≠cb)∧(pb<base∧ub<base∧cb<base∧ob<base)∧(pb≠rb∧ub≠rb∧cb≠rb∧ob≠rb)∧rb<base∧base≤W.heap.size
theorem own_at {w:World} {base k n:Nat} {e:TypeId} {v:Value} {xs:List Value} (h:w.ownsRow base e k v n xs) {i:Nat} (hi:v.ownBlock=some i):base≤i∧i<w.heap.size:=by
 obtain ⟨_,⟨rfl,_⟩|⟨g,cap,cur,rfl,hb,hg,_⟩⟩:=h
 ·simp [Value.ownBlock] at hi
 ·simp only [Value.ownBlock,Option.some.injEq] at hi
  subst hi
  exact ⟨hb,(Array.getElem?_eq_some_iff.1 hg).1⟩
theorem FInv.kp {pb ub cb ob:Nat} {p up:ByteArray} {ch:Int} {rb base:Nat} {seen:List Wt} {cur:Option Nat} {W W':World} {S:Nat→Prop} (h:FInv pb ub cb ob p up ch rb base seen cur W) (k:Kp S W W') (hs:∀ i,S i→i=rb∨W.heap.size≤i):FInv pb ub cb ob p up ch rb base seen cur W':=by
 obtain ⟨hp,hu,hc,⟨v,h1,h2,h3⟩,hne⟩:=h
 obtain ⟨⟨n1,n2,n3⟩,⟨m1,m2,m3,m4⟩,⟨k1,k2,k3,k4⟩,hrb,hb⟩:=hne
 have key:∀ i,i<base→i≠rb→¬ S i:=fun i hi hn hS=>(hs i hS).elim (fun h=>hn h) (fun h=>by omega)
 refine ⟨k.cell hp (key pb m1 k1),k.cell hu (key ub m2 k2),k.cell hc (key cb m3 k3),⟨v,h1.kp k (key ob m4 k4),ownsRow.kp h2 k (fun i hi hS=>?_),h3⟩,⟨n1,n2,n3⟩,⟨m1,m2,m3,m4⟩,⟨k1,k2,k3,k4⟩,hrb,Nat.le_trans hb k.size⟩
 have:=own_at h2 hi
 rcases hs i hS with h|h<;>omega
set_option maxHeartbeats 1600000 in
theorem fireAsk (pb ub cb ob:Nat) (p up:ByteArray) (ch:Int) (rb base:Nat):Asked 212 #[.pointer (some ⟨pb,0,none⟩), .pointer (some ⟨ub,0,none⟩), .pointer (some ⟨cb,0,none⟩), .pointer (some ⟨ob,0,none⟩)] (fun x=>decide (evG p up ch x≠0)) (fun i=>i=ob∧ob≠rb∧ob<base) base rb (FInv pb ub cb ob p up ch rb base):=by
 refine ⟨enters_of Tryz.func212 (by kernel_rfl) rfl, ?_, ?_, ?_, ?_⟩
 ·intro seen cur x W hn hI
  have HI:=Lib.hid hI
  have HTS:=Lib.hid (toldW_snoc (evG p up ch) seen x)
  have htl:(toldW (evG p up ch) seen).length≤seen.length:=List.length_filterMap_le _ _
  obtain ⟨r,hr⟩:∃ r,evG p up ch x=r:=⟨_,rfl⟩
  rw [hr] at HTS
  have HEV:=Lib.hid (fun W=>event_any x p up ch W)
  rw [hr] at HEV
  have HR:=Lib.hid hr
  simp only [hr]
  obtain ⟨W1,hW1⟩:∃ W1,W.alloc (.cells (wcell x).toArray 214)=W1:=⟨_,rfl⟩
  have hx1:Ext W W1:=by rw [← hW1];exact (Kp.refl _ _).alloc _
  have hb1:Blk W1 W.heap.size (wcell x).toArray 214:=by rw [← hW1];exact heap_alloc_new W _
  have hi1:=hI.kp (S:=fun _=>False) hx1 (fun _ f=>f.elim)
  have q1:=hi1.pc
  have q2:=hi1.uc
  have q3:=hi1.cc
  have HI1:=Lib.hid hi1
  have HX1:=Lib.hid hx1
  have HB1:=Lib.hid hb1
  obtain ⟨xs,xp,xk⟩:=x
  have b0:=hb1.cell 0 _ rfl
  have b1:=hb1.cell 1 _ rfl
  have b2:=hb1.cell 2 _ rfl
  clear hI hi1 hx1 hb1 hr
  go_enter Tryz.func212,Tryz.ntmps212
  go_wp2_with (fail)
  refine (HEV.out _).mono ?_
  rintro e W2 ⟨rfl,hx2⟩
  have hi2:=HI1.out.kp (S:=fun _=>False) hx2 (fun _ f=>f.elim)
  have hb2:=HB1.out.kp hx2 (fun f=>f)
  have HX2:=Lib.hid (HX1.out.trans hx2)
  have HI2:=Lib.hid hi2
  clear HI1 HX1 HB1 HEV hx2 q1 q2 q3 b0 b1 b2
  by_cases h0:r=0
  ·subst h0
   have HT:Hid (toldW (evG p up ch) (seen++[⟨xs,xp,xk⟩])=toldW (evG p up ch) seen):=by show _=_;rw [HTS.out,if_pos rfl]
   clear hi2 hb2 HTS
   go_wp2_with (fail)
   go_ret
   go_light
   refine ⟨ret_bool (by simp),cur, ?_,Ext.kp HX2.out⟩
   have h:=HI2.out
   obtain ⟨v,h1,h2,h3⟩:=h.out
   exact ⟨h.pc,h.uc,h.cc,⟨v,h1,by rw [HT.out];exact h2,h3⟩,h.ne⟩
  ·have HT:Hid (toldW (evG p up ch) (seen++[⟨xs,xp,xk⟩])=toldW (evG p up ch) seen++[⟨xs,xp,r⟩]):=by show _=_;rw [HTS.out,if_neg h0]
   obtain ⟨v,hob,how,hcu⟩:=hi2.out
   obtain ⟨a3,l3,c3,hv3⟩:∃ a3 l3 c3,v=.slice a3 l3 c3:=by obtain ⟨a3,c3,e,_⟩:=Sl.open (Sl.of_owns how);exact ⟨_,_,_,e⟩
   subst hv3
   have o0:=hob.cell 0 _ rfl
   have b0:=hb2.cell 0 _ rfl
   have b1:=hb2.cell 1 _ rfl
   have HOB:=Lib.hid hob
   have HOW:=Lib.hid how
   have HCU:=Lib.hid hcu
   have hone:=wt_one [(⟨xs,xp,r⟩:Wt)]
   clear hi2 hb2 HTS hob how hcu
   go_wp2_with (at_builtin;refine wpList_appK evsT evT 3 (by decide) ev_facts rfl _ _ rfl base _ _ _ rfl (ownsRow.ext HOW.out ((Kp.refl _ _).alloc _)) _ 1 ([(⟨xs,xp,r⟩:Wt)].flatMap wcell) rfl (Sl.of_block (heap_alloc_new W2 _) rfl (by decide) (Nat.le_refl _)) Shp.some hone ?c1 ?c2 ?_)
   case c1=>omega
   case c2=>have:=HI2.out.ne.2.2.2.2;simp;omega
   intro v' w' h1 k2
   obtain ⟨a4,l4,c4,hv4⟩:∃ a4 l4 c4,v'=.slice a4 l4 c4:=by obtain ⟨a4,c4,e,_⟩:=Sl.open (Sl.of_owns h1);exact ⟨_,_,_,e⟩
   subst hv4
   have hob1:Blk w' ob #[.slice a3 l3 c3] evsT:=(HOB.out.kp (S:=fun _=>False) ((Kp.refl _ _).alloc _) (fun f=>f)).kp k2 (fun e=>by
    have h5:=(own_at HOW.out e).1
    have:=HI2.out.ne.2.1.2.2.2
    omega)
   have o1:=hob1.cell 0 _ rfl
   have f1:=hob1.free 0
   have hin:FInv pb ub cb ob p up ch rb base seen cur (W2.alloc (.cells #[.int .i64 xs, .string xp, .int .i64 r] 166)):=HI2.out.kp (S:=fun _=>False) ((Kp.refl _ _).alloc _) (fun _ f=>f.elim)
   have hkw:Kp (fun i=>(i=ob∧ob≠rb∧ob<base)∨cur=some i) W w':=Kp.next (S:=fun i=>(i=ob∧ob≠rb∧ob<base)∨cur=some i) (Ext.kp (HX2.out.alloc _)) k2 (fun i _ e=>.inr (by rw [HCU.out];exact e))
   have hq:w'.cell? ⟨pb,0,none⟩=some (.string p)∧w'.cell? ⟨ub,0,none⟩=some (.string up)∧w'.cell? ⟨cb,0,none⟩=some (.int .i64 ch)∧base≤w'.heap.size:=by
    have m:=HI2.out.ne.2.1
    have z:∀ i,i<base→(Value.slice a3 l3 c3).ownBlock=some i→False:=fun i hi e=>by have:=(own_at HOW.out e).1;omega
    exact ⟨k2.cell hin.pc (z pb m.1),k2.cell hin.uc (z ub m.2.1),k2.cell hin.cc (z cb m.2.2.1),Nat.le_trans hin.ne.2.2.2.2 k2.size⟩
   have HQ:=Lib.hid hq
   have HKW:=Lib.hid hkw
   have HOB1:=Lib.hid hob1
   have HOW1:=Lib.hid h1
   clear h1 k2 hob1 hin hkw hq o0 b0 b1 hone
   go_wp2_with (fail)
   go_ret
   go_light
   have hne:=HI2.out.ne
   have hst:Kp (fun i=>i=ob) w' (w'.setCell ⟨ob,0,none⟩ (.slice a4 l4 c4)):=Kp.set1 (S:=fun i=>i=ob) (Kp.refl _ _) ob 0 _ rfl
   refine ⟨ret_bool (by simp [h0]),(Value.slice a4 l4 c4).ownBlock,⟨hst.cell HQ.out.1 (fun e=>hne.1.1 e.symm),hst.cell HQ.out.2.1 (fun e=>hne.1.2.1 e.symm),hst.cell HQ.out.2.2.1 (fun e=>hne.1.2.2 e.symm),⟨.slice a4 l4 c4,HOB1.out.set 0 _, ?_,rfl⟩,hne.1,hne.2.1,hne.2.2.1,hne.2.2.2.1,Nat.le_trans HQ.out.2.2.2 hst.size⟩,HKW.out.set1 ob 0 _ (.inl ⟨rfl,hne.2.2.1.2.2.2,hne.2.1.2.2.2⟩)⟩
   rw [HT.out]
   have h6:w'.ownsRow base evT 3 (.slice a4 l4 c4) (toldW (evG p up ch) seen++[(⟨xs,xp,r⟩:Wt)]).length ((toldW (evG p up ch) seen++[(⟨xs,xp,r⟩:Wt)]).flatMap wcell):=by
    rw [flatMap_snoc,List.length_append];simpa using HOW1.out
   exact ownsRow.kp h6 hst (fun i hi e=>by have:=(own_at HOW1.out hi).1;have:=hne.2.1.2.2.2;omega)
 ·intro seen cur W W' hI hk
  exact hI.kp hk (fun i hi=>.inl hi)
 ·intro seen cur W i hI he
  obtain ⟨v,h1,h2,h3⟩:=hI.out
  have hb:=own_at h2 (i:=i) (by rw [← h3,he])
  exact ⟨hb.1,hb.2,by have:=hI.ne.2.2.2.1;omega⟩
 ·rintro i ⟨rfl,h1,h2⟩
  exact ⟨h1,h2⟩
end Go.Proofs.YtnlefnhdhigecaaGreatDoor

namespace Go.Proofs.YtnlefnhdhigecaaGreatDoor
set_option maxRecDepth 100000
open Go.RowKit Av
set_option maxHeartbeats 800000 in
theorem indexFunc_none (a:Option Addr) (c:Nat) (fv:Value) (w:World):Calls Tryz.prog 216 #[.slice a 0 c,fv] w fun e w'=>e=.returned (.int .i64 (-1))∧w=w':=by
 go_enter Tryz.func216,Tryz.ntmps216
 go_wp2_with (fail)
 refine wp_loop_rounds 1 ?_
 rw [rounds_succ]
 go_wp2_with (fail)
 go_ret
 exact ⟨rfl,rfl⟩
set_option maxHeartbeats 800000 in
theorem deleteFunc_none (a:Option Addr) (c:Nat) (fv:Value) (w:World):Calls Tryz.prog 176 #[.slice a 0 c,fv] w fun e w'=>e=.returned (.slice a 0 c)∧w=w':=by
 go_enter Tryz.func176,Tryz.ntmps176
 go_wp2_with (fail)
 refine (indexFunc_none a c fv w).mono ?_
 rintro e w1 ⟨rfl,rfl⟩
 go_wp2_with (fail)
 go_ret
 exact ⟨rfl,rfl⟩
theorem fireDel (b room:Nat) (ro:Option Nat) (a:Option Addr) (c:Nat) (l:List Wt) (pb ub cb ob:Nat) (p up:ByteArray) (ch:Int) (W:World)
  (hb:Blk W b #[.int .i64 room, .slice a l.length c] wlT) (hown:W.ownsRow 0 214 3 (.slice a l.length c) l.length (l.flatMap wcell)) (had:∀ x,a=some x→ro=some x.block) (hro:∀ i,ro=some i→i≠b∧i<W.heap.size∧i≠pb∧i≠ub∧i≠cb∧i≠ob)
  (hn:l.length≤100000) (hpc:W.cell? ⟨pb,0,none⟩=some (.string p)) (huc:W.cell? ⟨ub,0,none⟩=some (.string up)) (hcc:W.cell? ⟨cb,0,none⟩=some (.int .i64 ch)) (hoc:Blk W ob #[.slice none 0 0] evsT) (hne:ob≠pb∧ob≠ub∧ob≠cb) (hob:ob≠b) :
  Calls Tryz.prog 176 #[.slice a l.length c, .func (.func 212) #[] #[.pointer (some ⟨pb,0,none⟩), .pointer (some ⟨ub,0,none⟩), .pointer (some ⟨cb,0,none⟩), .pointer (some ⟨ob,0,none⟩)]] W fun e w'=>
   ∃ a' c' v,e=.returned (.slice a' (restW (evG p up ch) l).length c')∧Blk w' b #[.int .i64 room, .slice a l.length c] wlT∧w'.ownsRow 0 214 3 (.slice a' (restW (evG p up ch) l).length c') (restW (evG p up ch) l).length ((restW (evG p up ch) l).flatMap wcell)∧(Value.slice a' (restW (evG p up ch) l).length c').ownBlock=(Value.slice a l.length c).ownBlock∧
     Blk w' ob #[v] evsT∧w'.ownsRow W.heap.size evT 3 v (toldW (evG p up ch) l).length ((toldW (evG p up ch) l).flatMap wcell)∧Kp (fun i=>i=ob∨ro=some i) W w':=by
 cases l with
 | nil=>
   refine (deleteFunc_none a c _ W).mono ?_
   rintro e w' ⟨rfl,rfl⟩
   exact ⟨a,c, .slice none 0 0,rfl,hb,hown,rfl,hoc,⟨rfl, .inl ⟨rfl,rfl⟩⟩,Kp.refl _ _⟩
 | cons x r=>
   obtain ⟨ad,rfl⟩:∃ ad,a=some ad:=by
    cases a with
    | some ad=>exact ⟨ad,rfl⟩
    | none=>obtain ⟨_,h|⟨g,c,cur,hv,_⟩⟩:=hown
            ·simp at h
            ·simp at hv
   generalize x::r=l at *
   have hr:=had ad rfl
   obtain ⟨k1,k2,k3,k4,k5,k6⟩:=hro _ hr
   have hpl:=World.block_lt_of_cell? W _ hpc
   have hul:=World.block_lt_of_cell? W _ huc
   have hcl:=World.block_lt_of_cell? W _ hcc
   have hol:=hoc.lt
   have hI:FInv pb ub cb ob p up ch ad.block W.heap.size [] none W:=⟨hpc,huc,hcc,⟨.slice none 0 0,hoc,⟨rfl, .inl ⟨rfl,rfl⟩⟩,rfl⟩,hne,⟨hpl,hul,hcl,hol⟩,⟨Ne.symm k3,Ne.symm k4,Ne.symm k5,Ne.symm k6⟩,k2,Nat.le_refl _⟩
   refine (deleteFunc_any (fireAsk pb ub cb ob p up ch ad.block W.heap.size) 0 (some ad) l c W hown (fun y hy=>by cases hy;rfl) (fun _=>k2) (Nat.le_refl _) hn ⟨none,hI⟩).mono ?_
   rintro e w' ⟨⟨rfl,ho,cur,hi⟩,hk⟩
   have hd:(l.filter fun x=>!(decide (evG p up ch x≠0)))=restW (evG p up ch) l:=by unfold restW;congr 1;funext x;by_cases h:evG p up ch x=0<;>simp [h]
   rw [hd] at ho ⊢
   obtain ⟨v,h1,h2,h3⟩:=hi.out
   have hk2:Kp (fun i=>i=ob∨ro=some i) W w':=hk.mono (fun i hi h=>by
    rcases h with (h|h)|h
    ·exact .inl h.1
    ·omega
    ·exact .inr (by rw [hr,h]))
   refine ⟨_,_,v,rfl,hb.kp hk2 (fun h=>?_),ho,rfl,h1,h2,hk2⟩
   rcases h with h|h
   ·exact hob h.symm
   ·exact (hro _ h).1 rfl
theorem fireOk_no {p:ByteArray} {ch:Int} {l:List Wt} (h:fireOk p ch=false):fireT p ch l=[]∧fireG p ch l=l:=by unfold fireT fireG;simp [h]
theorem fireOk_yes {p:ByteArray} {ch:Int} {l:List Wt} (h:fireOk p ch=true):fireT p ch l=toldW (evG p (optS (parentL p.data.toList)) ch) (sortW l)∧fireG p ch l=restW (evG p (optS (parentL p.data.toList)) ch) (sortW l):=by unfold fireT fireG;simp [h]
set_option maxHeartbeats 3200000 in
theorem watFire_any (b:Nat) (ro:Option Nat) (room:Nat) (l:List Wt) (p:ByteArray) (ch:Int) (w:World) (h:WL w b ro room l) (hG:GL w) (hp:p.size≤maxLen) (hn:l.length≤100000) :
  Calls Tryz.prog 170 #[.pointer (some ⟨b,0,none⟩), .string p, .int .i64 ch] w fun e w'=>
   ∃ v,e=.returned v∧w'.ownsRow w.heap.size evT 3 v (fireT p ch l).length ((fireT p ch l).flatMap wcell)∧WL w' b ro room (fireG p ch l)∧Kp (fun i=>i=b∨ro=some i) w w':=by
 obtain ⟨W1,hW1⟩:∃ W1,(w.alloc (.cells #[.string p] 9)).alloc (.cells #[.int .i64 ch] 3)=W1:=⟨_,rfl⟩
 have hx1:Ext w W1:=by rw [← hW1];exact ((Kp.refl _ _).alloc _).alloc _
 have hs1:W1.heap.size=w.heap.size+2:=by rw [← hW1];simp
 have hp1:Blk W1 w.heap.size #[.string p] 9:=by rw [← hW1];exact Blk.kp (S:=fun _=>False) (heap_alloc_new w _) ((Kp.refl _ _).alloc _) (fun f=>f)
 have hc1:Blk W1 (w.heap.size+1) #[.int .i64 ch] 3:=by
  rw [← hW1]
  have:=heap_alloc_new (w.alloc (.cells #[.string p] 9)) (.cells #[.int .i64 ch] 3)
  simpa [Blk] using this
 have HGd:=Lib.hid (Good_any p W1 (hG.ext hx1) hp)
 cases hok:fireOk p ch with
 | false=>
   obtain ⟨e1,e2⟩:=fireOk_no (l:=l) hok
   have HH:=Lib.hid (show ∀ w',Ext w w'→∃ v,Ending.returned (.slice none 0 0)=.returned v∧w'.ownsRow w.heap.size evT 3 v (fireT p ch l).length ((fireT p ch l).flatMap wcell)∧WL w' b ro room (fireG p ch l)∧Kp (fun i=>i=b∨ro=some i) w w' from fun w' hx=>by
    rw [e1,e2];exact ⟨_,rfl,⟨rfl, .inl ⟨rfl,rfl⟩⟩,h.ext hx,hx.kp⟩)
   have p1:=hp1.cell 0 _ rfl
   have q1:=hc1.cell 0 _ rfl
   cases hgd:goodL p.data.toList with
   | false=>
     rw [hgd] at HGd
     have HX1:=Lib.hid hx1
     have HP1:=Lib.hid hp1
     have HC1:=Lib.hid hc1
     clear h hG hok e1 e2 hgd hx1 hp1 hc1 hs1
     go_enter Tryz.func170,Tryz.ntmps170
     go_wp2_with (fail)
     refine HGd.out.mono ?_
     rintro e W2 ⟨rfl,hx2⟩
     have HX2:=Lib.hid (HX1.out.trans hx2)
     clear hx2
     go_wp2_with (fail)
     go_ret
     exact HH.out _ HX2.out
   | true=>
     rw [hgd] at HGd
     have hch:ch<1∨3<ch:=by
      by_cases h1:ch<1
      ·exact .inl h1
      ·by_cases h2:3<ch
       ·exact .inr h2
       ·have:=(fireOk_iff p ch).2 ⟨hgd,by omega,by omega⟩
        rw [hok] at this;cases this
     have HX1:=Lib.hid hx1
     have HP1:=Lib.hid hp1
     have HC1:=Lib.hid hc1
     clear h hG hok e1 e2 hgd hx1 hp1 hc1 hs1
     go_enter Tryz.func170,Tryz.ntmps170
     go_wp2_with (fail)
     refine HGd.out.mono ?_
     rintro e W2 ⟨rfl,hx2⟩
     have p2:=(HP1.out.kp hx2 (fun f=>f)).cell 0 _ rfl
     have q2:=(HC1.out.kp hx2 (fun f=>f)).cell 0 _ rfl
     have HX2:=Lib.hid (HX1.out.trans hx2)
     clear hx2 p1 q1
     by_cases h1:ch<1
     ·clear hch
      go_wp2_with (fail)
      go_ret
      exact HH.out _ HX2.out
     ·have h2:3<ch:=by omega
      clear hch
      go_wp2_with (fail)
      go_ret
      exact HH.out _ HX2.out
 | true=>
   obtain ⟨e1,e2⟩:=fireOk_yes (l:=l) hok
   obtain ⟨hgd,hc1',hc3'⟩:=(fireOk_iff p ch).1 hok
   have a1:¬ ch<1:=by omega
   have a2:¬ 3<ch:=by omega
   have HE1:=Lib.hid e1
   have HE2:=Lib.hid e2
   rw [hgd] at HGd
   have HPar:=Lib.hid (fun W (hW:Ext w W)=>Parent_any p W (hG.ext hW) hp)
   obtain ⟨up,hup⟩:∃ up,optS (parentL p.data.toList)=up:=⟨_,rfl⟩
   obtain ⟨un,hun⟩:∃ un,(parentL p.data.toList).isSome=un:=⟨_,rfl⟩
   rw [hup,hun] at HPar
   rw [hup] at HE1 HE2
   have hlt:=h.lt
   have HLT:=Lib.hid hlt
   have HW:=Lib.hid h
   have HX1:=Lib.hid hx1
   have HP1:=Lib.hid hp1
   have HC1:=Lib.hid hc1
   have HS1:=Lib.hid hs1
   have p1:=hp1.cell 0 _ rfl
   have q1:=hc1.cell 0 _ rfl
   clear h hG hok e1 e2 hgd hx1 hp1 hc1 hs1 hup hun hc1' hc3' hlt
   go_enter Tryz.func170,Tryz.ntmps170
   go_wp2_with (fail)
   refine HGd.out.mono ?_
   rintro e W2 ⟨rfl,hx2⟩
   have p2:=(HP1.out.kp hx2 (fun f=>f)).cell 0 _ rfl
   have q2:=(HC1.out.kp hx2 (fun f=>f)).cell 0 _ rfl
   have HX2:=Lib.hid (HX1.out.trans hx2)
   have HP2:=Lib.hid (HP1.out.kp hx2 (fun f=>f))
   have HC2:=Lib.hid (HC1.out.kp hx2 (fun f=>f))
   have HS2:Hid (w.heap.size+2≤W2.heap.size):=by show _≤_;have:=hx2.size;have:=HS1.out;omega
   clear hx2 p1 q1 HX1 HP1 HC1 HGd HS1
   go_wp2_with (fail)
   refine (HPar.out W2 HX2.out).mono ?_
   rintro e W3 ⟨rfl,hx3⟩
   have HX3:=Lib.hid (HX2.out.trans hx3)
   have HP3:=Lib.hid (HP2.out.kp hx3 (fun f=>f))
   have HC3:=Lib.hid (HC2.out.kp hx3 (fun f=>f))
   have HS3:Hid (w.heap.size+2≤W3.heap.size):=by show _≤_;have:=hx3.size;have:=HS2.out;omega
   clear hx3 p2 q2 HX2 HP2 HC2 HS2 HPar
   obtain ⟨W4,hW4⟩:∃ W4,W3.alloc (.cells #[.string up] 9)=W4:=⟨_,rfl⟩
   have hx4:Ext W3 W4:=by rw [← hW4];exact (Kp.refl _ _).alloc _
   have hu4:Blk W4 W3.heap.size #[.string up] 9:=by rw [← hW4];exact heap_alloc_new W3 _
   have hs4:W4.heap.size=W3.heap.size+1:=by rw [← hW4];simp
   obtain ⟨a,c,hb4,hown4,hro4,hrb4,had4⟩:=(HW.out.ext (HX3.out.trans hx4)).open
   have c1:=hb4.cell 1 _ rfl
   have HSRT:=Lib.hid (sort_any a c l W4 0 hown4 hn)
   have HB4:=Lib.hid hb4
   have HRO:=Lib.hid hro4
   have HRB:=Lib.hid hrb4
   have HAD:=Lib.hid had4
   have HX4:=Lib.hid (HX3.out.trans hx4)
   have HP4:=Lib.hid (HP3.out.kp hx4 (fun f=>f))
   have HC4:=Lib.hid (HC3.out.kp hx4 (fun f=>f))
   have HU4:=Lib.hid hu4
   have HS4:=Lib.hid hs4
   have hsl:=sortW_len l
   clear hx4 hu4 hs4 hb4 hown4 hro4 hrb4 had4 HX3 HP3 HC3
   go_wp2_with (fail)
   refine HSRT.out.mono ?_
   rintro e W5 ⟨rfl,ho5,hk5⟩
   rw [hsl] at ho5
   have hk5':Kp (fun i=>ro=some i) W4 W5:=hk5.mono (fun i _ h=>by obtain ⟨x,hx,rfl⟩:=h;exact HAD.out x hx)
   have hnr:∀ i,w.heap.size≤i→¬ ro=some i:=fun i hi h=>by have:=HLT.out.2 i h;omega
   obtain ⟨W6,hW6⟩:∃ W6,W5.alloc (.cells #[.slice none 0 0] evsT)=W6:=⟨_,rfl⟩
   have hx6:Ext W5 W6:=by rw [← hW6];exact (Kp.refl _ _).alloc _
   have ho6:Blk W6 W5.heap.size #[.slice none 0 0] evsT:=by rw [← hW6];exact heap_alloc_new W5 _
   have hs6:W6.heap.size=W5.heap.size+1:=by rw [← hW6];simp
   have hk6:Kp (fun i=>ro=some i) W4 W6:=hk5'.ext hx6
   have hb6:Blk W6 b #[.int .i64 room, .slice a l.length c] wlT:=HB4.out.kp hk6 (fun h=>HRB.out b h rfl)
   have hp6:=HP4.out.kp hk6 (hnr _ (Nat.le_refl _))
   have hc6:=HC4.out.kp hk6 (hnr _ (by omega))
   have hu6:=HU4.out.kp hk6 (hnr _ (by have:=HS3.out;omega))
   have hs5:W4.heap.size≤W5.heap.size:=hk5.size
   have hs3:=HS3.out
   have hs4:=HS4.out
   have hlt:=HLT.out
   have hdel:=fireDel b room ro a c (sortW l) w.heap.size W3.heap.size (w.heap.size+1) W5.heap.size p up ch W6 (by rw [hsl];exact hb6) (by rw [hsl];exact ownsRow.ext ho5 hx6) HAD.out (fun i hi=>by have:=hlt.2 i hi;exact ⟨HRB.out i hi,by omega,by omega,by omega,by omega,by omega⟩) (by rw [hsl];exact hn) (hp6.cell 0 _ rfl) (hu6.cell 0 _ rfl) (hc6.cell 0 _ rfl) ho6 ⟨by omega,by omega,by omega⟩ (by omega)
   rw [hsl] at hdel
   have HDEL:=Lib.hid hdel
   have HKW:Hid (Kp (fun i=>ro=some i) w W6):=Kp.next (S:=fun i=>ro=some i) (Ext.kp HX4.out) hk6 (fun i _ h=>h)
   have HSZ:Hid (w.heap.size≤W6.heap.size∧w.heap.size≤W5.heap.size):=⟨by omega,by omega⟩
   have c1:=hb6.cell 1 _ rfl
   clear hdel hk5 hk5' hx6 ho6 hs6 hk6 hp6 hc6 hu6 hs5 hs3 hs4 hlt hb6 ho5 HSRT HX4 HP4 HC4 HU4 HB4 HS4 hnr hsl
   go_wp2_with (fail)
   refine HDEL.out.mono ?_
   rintro e W7 ⟨a',c',v,rfl,hb7,ho7,hr7,hob7,hev7,hk7⟩
   have g1:=hb7.cell 1 _ rfl
   have f1:=hb7.free 1
   have hobb:W5.heap.size≠b:=by have:=HLT.out.1;have:=HSZ.out.2;omega
   obtain ⟨av,cv,hv⟩:∃ av cv,v=.slice av (toldW (evG p up ch) (sortW l)).length cv:=by obtain ⟨a4,c4,e,_⟩:=Sl.open (Sl.of_owns hev7);exact ⟨_,_,e⟩
   subst hv
   have g2:=hob7.cell 0 _ rfl
   have hst:∀ u,Kp (fun i=>i=b) W7 (W7.setCell ⟨b,1,none⟩ u):=fun u=>Kp.set1 (S:=fun i=>i=b) (Kp.refl _ _) b 1 _ rfl
   have g3:=fun u=>(hst u).cell g2 hobb
   have HB7:=Lib.hid hb7
   have HO7:=Lib.hid ho7
   have HR7:=Lib.hid hr7
   have HEV7:=Lib.hid hev7
   have HST:=Lib.hid hst
   have HK7:Hid (Kp (fun i=>i=b∨ro=some i) w W7):=Kp.next (S:=fun i=>i=b∨ro=some i) (HKW.out.mono (fun i _ h=>.inr h)) hk7 (fun i hi h=>by
    rcases h with h|h
    ·have:=HSZ.out.2;omega
    ·exact .inr h)
   clear hb7 ho7 hr7 hob7 hev7 hk7 hst HDEL HKW c1
   go_wp2_with (fail)
   go_ret
   refine ⟨_,rfl, ?_,WL.mk (v:=.slice a' (restW (evG p up ch) (sortW l)).length c') (HB7.out.set 1 _) ?_ (HR7.out.trans HRO.out) HRB.out,HK7.out.set1 b 1 _ (.inl rfl)⟩
   ·rw [HE1.out]
    refine ownsRow.base_mono (ownsRow.kp HEV7.out (HST.out _) (fun i hi e=>?_)) HSZ.out.1
    have:=(own_at HEV7.out hi).1
    have:=HLT.out.1
    have:=HSZ.out.1
    omega
   ·rw [HE2.out]
    exact ownsRow.kp HO7.out (HST.out _) (fun i hi e=>HRB.out i (by rw [← HRO.out,← HR7.out];exact hi) e)
end Go.Proofs.YtnlefnhdhigecaaGreatDoor

namespace Go.Proofs.YtnlefnhdhigecaaGreatDoor
set_option maxRecDepth 100000
open Go.RowKit Av
abbrev arT:TypeId:=214
theorem arm_facts:ElemOk Tryz.prog 202 arT 3:=⟨by kernel_rfl,by kernel_rfl⟩
def ArmPost (b:Nat) (ro:Option Nat) (room:Nat) (l:List Wt) (x:Wt) (w:World) (e:Ending) (w':World):Prop:=
 e=.returned (.int .i64 (armE room l x))∧(∃ ro',WL w' b ro' room (armG room l x)∧∀ i,ro'=some i→ro=some i∨w.heap.size≤i)∧Kp (fun i=>i=b∨ro=some i) w w'
theorem ArmPost.no {b:Nat} {ro:Option Nat} {room:Nat} {l:List Wt} {x:Wt} {w w':World} {r:Int} (h:WL w b ro room l) (he:armE room l x=r) (hg:armG room l x=l) (hx:Ext w w'):ArmPost b ro room l x w (.returned (.int .i64 r)) w':=
 ⟨by rw [he],⟨ro,by rw [hg];exact h.ext hx,fun i hi=>.inl hi⟩,hx.kp⟩
theorem arm_bad {room:Nat} {l:List Wt} {x:Wt} (h:wtOk x=false):armE room l x=1∧armG room l x=l:=by unfold armE armG;simp [h]
theorem arm_there {room:Nat} {l:List Wt} {x:Wt} (h:wtOk x=true) (hm:x∈l):armE room l x=0∧armG room l x=l:=by unfold armE armG;simp [h,hm]
theorem arm_full {room:Nat} {l:List Wt} {x:Wt} (h:wtOk x=true) (hm:x∉l) (hf:room≤l.length):armE room l x=9∧armG room l x=l:=by unfold armE armG;simp [h,hm,hf]
theorem arm_yes {room:Nat} {l:List Wt} {x:Wt} (h:wtOk x=true) (hm:x∉l) (hf:l.length<room):armE room l x=0∧armG room l x=l++[x]:=by
 have:¬ room≤l.length:=by omega
 unfold armE armG;simp [h,hm,hf,this]
set_option maxHeartbeats 3200000 in
theorem watArm_any (b:Nat) (ro:Option Nat) (room:Nat) (l:List Wt) (x:Wt) (w:World) (h:WL w b ro room l) (hG:GL w) (hp:x.path.size≤maxLen) (hn:l.length≤100000) :
  Calls Tryz.prog 86 #[.pointer (some ⟨b,0,none⟩), .int .i64 x.sess, .string x.path, .int .i64 x.kind] w fun e w'=>ArmPost b ro room l x w e w':=by
 obtain ⟨xs,p,xk⟩:=x
 simp only at hp ⊢
 obtain ⟨W1,hW1⟩:∃ W1,w.alloc (.cells #[.int .i64 xs, .string p, .int .i64 xk] arT)=W1:=⟨_,rfl⟩
 have hx1:Ext w W1:=by rw [← hW1];exact (Kp.refl _ _).alloc _
 have hb1:Blk W1 w.heap.size #[.int .i64 xs, .string p, .int .i64 xk] arT:=by rw [← hW1];exact heap_alloc_new w _
 have HGd:=Lib.hid (Good_any p W1 (hG.ext hx1) hp)
 have HNO:=Lib.hid (fun (r:Int) (w':World) (he:armE room l ⟨xs,p,xk⟩=r) (hg:armG room l ⟨xs,p,xk⟩=l) (hx:Ext w w')=>ArmPost.no h he hg hx)
 have hok:wtOk ⟨xs,p,xk⟩=true↔1≤xs∧goodL p.data.toList=true∧(xk=1∨xk=2):=wtOk_iff _
 have hbad:=fun hb=>arm_bad (room:=room) (l:=l) (x:=⟨xs,p,xk⟩) hb
 have HX1:=Lib.hid hx1
 have HB1:=Lib.hid hb1
 have HW:=Lib.hid h
 have HOK:=Lib.hid hok
 have HBAD:=Lib.hid hbad
 clear h hG hx1 hb1 hok hbad
 by_cases c1:xs<1
 ·have HF:Hid (wtOk ⟨xs,p,xk⟩=false):=by
   show _=_
   rw [Bool.eq_false_iff,ne_eq,HOK.out];intro f;omega
  go_enter Tryz.func86,Tryz.ntmps86
  go_wp2_with (fail)
  go_ret
  exact HNO.out 1 _ (HBAD.out HF.out).1 (HBAD.out HF.out).2 HX1.out
 ·cases hgd:goodL p.data.toList with
  | false=>
    rw [hgd] at HGd
    have HF:Hid (wtOk ⟨xs,p,xk⟩=false):=by
     show _=_
     rw [Bool.eq_false_iff,ne_eq,HOK.out,hgd];simp
    clear hgd
    go_enter Tryz.func86,Tryz.ntmps86
    go_wp2_with (fail)
    refine HGd.out.mono ?_
    rintro e W2 ⟨rfl,hx2⟩
    have HX2:=Lib.hid (HX1.out.trans hx2)
    clear hx2
    go_wp2_with (fail)
    go_ret
    exact HNO.out 1 _ (HBAD.out HF.out).1 (HBAD.out HF.out).2 HX2.out
  | true=>
    rw [hgd] at HGd
    by_cases hk:¬ xk=1∧¬ xk=2
    ·have HF:Hid (wtOk ⟨xs,p,xk⟩=false):=by
      show _=_
      rw [Bool.eq_false_iff,ne_eq,HOK.out];intro f;omega
     obtain ⟨k1,k2⟩:=hk
     have n1:(xk != 1)=true:=by simp [k1]
     have n2:(xk != 2)=true:=by simp [k2]
     clear hgd
     go_enter Tryz.func86,Tryz.ntmps86
     go_wp2_with (fail)
     refine HGd.out.mono ?_
     rintro e W2 ⟨rfl,hx2⟩
     have HX2:=Lib.hid (HX1.out.trans hx2)
     clear hx2
     go_wp2_with (fail)
     go_ret
     exact HNO.out 1 _ (HBAD.out HF.out).1 (HBAD.out HF.out).2 HX2.out
    ·have hkk:xk=1∨xk=2:=by omega
     have HT:Hid (wtOk ⟨xs,p,xk⟩=true):=by show _=_;exact HOK.out.2 ⟨by omega,hgd,hkk⟩
     have hcn:∀ a c W,Sl W 3 (.slice a l.length c) l.length (l.flatMap wcell)→Calls Tryz.prog 133 #[.slice a l.length c, .agg #[.int .i64 xs, .string p, .int .i64 xk]] W fun e w'=>e=.returned (.bool (decide ((⟨xs,p,xk⟩:Wt)∈l)))∧Ext W w':=fun a c W hs=>contains_any (.slice a l.length c) l ⟨xs,p,xk⟩ W hs
     obtain ⟨X,hX⟩:∃ X:Wt,(⟨xs,p,xk⟩:Wt)=X:=⟨_,rfl⟩
     rw [hX] at HT HNO hcn ⊢
     have HXE:=Lib.hid hX
     have HCN:=Lib.hid hcn
     clear hk hgd hcn hX HBAD HOK
     have hnn:(xk != 1)=false∨((xk != 1)=true∧(xk != 2)=false):=by rcases hkk with rfl|rfl<;>simp
     clear hkk
     rcases hnn with n1|⟨n1,n2⟩
     all_goals
      go_enter Tryz.func86,Tryz.ntmps86
      go_wp2_with (fail)
      refine HGd.out.mono ?_
      rintro e W2 ⟨rfl,hx2⟩
      have HX2:=Lib.hid (HX1.out.trans hx2)
      have hb2:=HB1.out.kp hx2 (fun f=>f)
      obtain ⟨a,c,hbb,hown,hro,hrb,had⟩:=(HW.out.ext HX2.out).open
      have HB2:=Lib.hid hb2
      have HBB:=Lib.hid hbb
      have HOWN:=Lib.hid hown
      have HRO:=Lib.hid hro
      have HRB:=Lib.hid hrb
      clear hx2 HX1 HB1 HGd hb2 hbb hown hro hrb had
      go_upto_region 4 with (fail)
      refine' wp_region_dag0 ((30, .val _)::(31, .val _)::(32, .val _)::(33, .val _)::(34, .val _)::(35, .val _)::(36, .val _)::[]) (by exact ⟨fun _ _ _ _ _=>trivial,⟨fun _ _ _ _ _=>trivial,⟨fun _ _ _ _ _=>trivial,⟨fun _ _ _ _ _=>trivial,⟨fun _ _ _ _ _=>trivial,⟨fun _ _ _ _ _=>trivial,⟨fun _ _ _ _ _=>trivial,trivial⟩⟩⟩⟩⟩⟩⟩) (by kernel_rfl) (by kernel_rfl) (by kernel_rfl) ?_
      rotate_left 7
      repeat (first
       | (refine wpD_skipv ?_ ?_ ?_
          focus rfl
          focus rfl
          simp only [Act.put,List.setIfInBounds_toArray,List.set_cons_succ,List.set_cons_zero])
       | (refine' wpD_val (c:=_) ?_ (fun w=>Kp.refl _ w) ?_ (fun wq hwq hfq=>?_) ?_
          rotate_left
          focus rfl
          focus rfl
          focus (have e0:=(HB2.out.kp hwq (fun f=>f)).cell 0 _ rfl;have e1:=(HB2.out.kp hwq (fun f=>f)).cell 1 _ rfl;have e2:=(HB2.out.kp hwq (fun f=>f)).cell 2 _ rfl;have d1:=(HBB.out.kp hwq (fun f=>f)).cell 1 _ rfl;go_simp;first|done|rfl)
          simp only [Act.put,List.setIfInBounds_toArray,List.set_cons_succ,List.set_cons_zero])
       | (refine' wpD_con (c:=_) ?_ ?_ (fun wq hwq hfq=>?_) ?_
          rotate_left
          focus rfl
          focus rfl
          focus (have e0:=(HB2.out.kp hwq (fun f=>f)).cell 0 _ rfl;have e1:=(HB2.out.kp hwq (fun f=>f)).cell 1 _ rfl;have e2:=(HB2.out.kp hwq (fun f=>f)).cell 2 _ rfl;have d1:=(HBB.out.kp hwq (fun f=>f)).cell 1 _ rfl;go_simp;(try (rw [dUpon_enter]));((have hc:=HCN.out a c wq (Sl.of_owns (ownsRow.ext HOWN.out hwq)));(with_reducible refine hc.mono ?_);rintro e w' ⟨rfl,hx⟩;exact DEnd.con hx))
          simp only [Act.put,List.setIfInBounds_toArray,List.set_cons_succ,List.set_cons_zero])
       | fail)
      refine wpD_nil ?_
      intro W3 hx3 hend
      clear hend
      have HX3:=Lib.hid (HX2.out.trans hx3)
      have HB3:=Lib.hid (HB2.out.kp hx3 (fun f=>f))
      have HBB3:=Lib.hid (HBB.out.kp hx3 (fun f=>f))
      have HOWN3:=Lib.hid (ownsRow.ext HOWN.out hx3)
      clear hx3 HX2 HB2 HBB HOWN HCN
      obtain ⟨d,hd⟩:∃ d,decide (X∈l)=d:=⟨_,rfl⟩
      rw [hd]
      cases d with
      | true=>
        have hm:=of_decide_eq_true hd
        have HM:=Lib.hid hm
        clear hd hm
        go_wp2_with (fail)
        go_ret
        exact HNO.out 0 _ (arm_there HT.out HM.out).1 (arm_there HT.out HM.out).2 HX3.out
      | false=>
        have hm:=of_decide_eq_false hd
        have HM:=Lib.hid hm
        clear hd hm
        go_upto_region 6 with (fail)
        refine' wp_region_dag0 ((37, .val _)::(38, .val _)::(39, .val _)::(40, .val _)::(41, .val _)::(42, .val _)::(43, .val _)::(44, .val _)::(45, .val _)::(46, .val _)::(47, .val _)::[]) (by exact ⟨fun _ _ _ _ _=>trivial,⟨fun _ _ _ _ _=>trivial,⟨fun _ _ _ _ _=>trivial,⟨fun _ _ _ _ _=>trivial,⟨fun _ _ _ _ _=>trivial,⟨fun _ _ _ _ _=>trivial,⟨fun _ _ _ _ _=>trivial,⟨fun _ _ _ _ _=>trivial,⟨fun _ _ _ _ _=>trivial,⟨fun _ _ _ _ _=>trivial,⟨fun _ _ _ _ _=>trivial,trivial⟩⟩⟩⟩⟩⟩⟩⟩⟩⟩⟩) (by kernel_rfl) (by kernel_rfl) (by kernel_rfl) ?_
        rotate_left 11
        repeat (first
         | (refine wpD_skipv ?_ ?_ ?_
            focus rfl
            focus rfl
            simp only [Act.put,List.setIfInBounds_toArray,List.set_cons_succ,List.set_cons_zero])
         | (refine' wpD_val (c:=_) ?_ (fun w=>Kp.refl _ w) ?_ (fun wq hwq hfq=>?_) ?_
            rotate_left
            focus rfl
            focus rfl
            focus (have d0:=(HBB3.out.kp hwq (fun f=>f)).cell 0 _ rfl;have d1:=(HBB3.out.kp hwq (fun f=>f)).cell 1 _ rfl;go_simp;first|done|rfl)
            simp only [Act.put,List.setIfInBounds_toArray,List.set_cons_succ,List.set_cons_zero])
         | (refine' wpD_con (c:=_) ?_ ?_ (fun wq hwq hfq=>?_) ?_
            rotate_left
            focus rfl
            focus rfl
            focus (have d0:=(HBB3.out.kp hwq (fun f=>f)).cell 0 _ rfl;have d1:=(HBB3.out.kp hwq (fun f=>f)).cell 1 _ rfl;go_simp;(try (rw [dUpon_enter]));fail)
            simp only [Act.put,List.setIfInBounds_toArray,List.set_cons_succ,List.set_cons_zero])
         | fail)
        refine wpD_nil ?_
        intro W4 hx4 hend
        clear hend
        have HX4:=Lib.hid (HX3.out.trans hx4)
        have hb4:=HB3.out.kp hx4 (fun f=>f)
        have hbb4:=HBB3.out.kp hx4 (fun f=>f)
        have HOWN4:=Lib.hid (ownsRow.ext HOWN3.out hx4)
        have s4:w.heap.size<W4.heap.size:=hb4.lt
        clear hx4 HX3 HB3 HBB3 HOWN3
        by_cases hf:room≤l.length
        ·have hfz:(room:Int)≤(l.length:Int):=by omega
         have HF:=Lib.hid hf
         clear hf hb4 hbb4
         go_wp2_with (fail)
         go_ret
         exact HNO.out 9 _ (arm_full HT.out HM.out HF.out).1 (arm_full HT.out HM.out HF.out).2 HX4.out
        ·have hfz:¬ (room:Int)≤(l.length:Int):=by omega
         have HY:=Lib.hid (arm_yes (room:=room) HT.out HM.out (by omega))
         have e0:=hb4.cell 0 _ rfl
         have e1:=hb4.cell 1 _ rfl
         have e2:=hb4.cell 2 _ rfl
         have d1:=hbb4.cell 1 _ rfl
         have g1:=hbb4.free 1
         have HB4:=Lib.hid hb4
         have HBB4:=Lib.hid hbb4
         clear hf hb4 hbb4
         go_upto_region 8 with (fail)
         have hown4:=HOWN4.out
         have hbn:b≠w.heap.size:=by have:=HW.out.lt.1;omega
         have hro:(Value.slice a l.length c).ownBlock=ro:=HRO.out
         have hnb:¬ (W4.heap.size≤b∨(Value.slice a l.length c).ownBlock=some b):=fun f=>by
          rcases f with f|f
          ·have:=HBB4.out.lt;omega
          ·rw [hro] at f;exact HRB.out b f rfl
         have hnx:¬ (W4.heap.size≤w.heap.size∨(Value.slice a l.length c).ownBlock=some w.heap.size):=fun f=>by
          rcases f with f|f
          ·omega
          ·rw [hro] at f;have:=HW.out.lt.2 _ f;omega
         have HNB:=Lib.hid hnb
         have HNX:=Lib.hid hnx
         have HO4:=Lib.hid hown4
         clear hown4 hnb hnx hro e0 e1 e2 d1 g1 hW1
         refine' wp_region_dagQ W4.heap.size arT 3 (.slice a l.length c) l.length (l.flatMap wcell) 10 [(55,[54],[])] ((48, .val _)::(49, .val _)::(50, .val _)::(51, .val _)::(52, .val _)::(53, .val _)::(54,⟨fun _=>True,fun v w=>BoxL W4.heap.size arT 1 [.int .i64 xs, .string p, .int .i64 xk] v w⟩)::(55,⟨fun v=>∃ a l c,v=.slice a l c,fun v w=>w.ownsRow 0 arT 3 v (l.length+1) (l.flatMap wcell++[.int .i64 xs, .string p, .int .i64 xk])∧∀ i,v.ownBlock=some i→(Value.slice a l.length c).ownBlock=some i∨W4.heap.size≤i⟩)::(56, .val _)::(57, .val _)::[]) (by exact ⟨fun _ _ _ _ _=>trivial,⟨fun _ _ _ _ _=>trivial,⟨fun _ _ _ _ _=>trivial,⟨fun _ _ _ _ _=>trivial,⟨fun _ _ _ _ _=>trivial,⟨fun _ _ _ _ _=>trivial,⟨fun _ _ _ hr hv=>hv.ext hr,⟨fun _ _ _ hr hv=>⟨ownsRow.ext hv.1 hr,hv.2⟩,⟨fun _ _ _ _ _=>trivial,⟨fun _ _ _ _ _=>trivial,trivial⟩⟩⟩⟩⟩⟩⟩⟩⟩⟩) (by kernel_rfl) (by kernel_rfl) (by kernel_rfl) ?_
         rotate_left 8
         simp only [List.take_succ_cons,List.take_zero]
         repeat (first
          | (refine wpD_skipv ?_ ?_ ?_
             focus rfl
             focus rfl
             simp only [Act.put,List.setIfInBounds_toArray,List.set_cons_succ,List.set_cons_zero])
          | (refine' wpD_val (c:=_) ?_ (fun w=>Rr.refl w) ?_ (fun wq hwq hfq=>?_) ?_
             rotate_left
             focus rfl
             focus rfl
             focus (have d1:=(HBB4.out.kp hwq.1 HNB.out).cell 1 _ rfl;have e0:=(HB4.out.kp hwq.1 HNX.out).cell 0 _ rfl;have e1:=(HB4.out.kp hwq.1 HNX.out).cell 1 _ rfl;have e2:=(HB4.out.kp hwq.1 HNX.out).cell 2 _ rfl;go_simp;first|done|rfl)
             simp only [Act.put,List.setIfInBounds_toArray,List.set_cons_succ,List.set_cons_zero])
          | (refine' wpD_con (c:=_) ?_ ?_ (fun wq hwq hfq=>?_) ?_
             rotate_left
             focus rfl
             focus rfl
             focus (have d1:=(HBB4.out.kp hwq.1 HNB.out).cell 1 _ rfl;have e0:=(HB4.out.kp hwq.1 HNX.out).cell 0 _ rfl;have e1:=(HB4.out.kp hwq.1 HNX.out).cell 1 _ rfl;have e2:=(HB4.out.kp hwq.1 HNX.out).cell 2 _ rfl;go_simp;(try (rw [dUpon_enter]));fail)
             simp only [Act.put,List.setIfInBounds_toArray,List.set_cons_succ,List.set_cons_zero])
          | (refine wpD_made (A:=fun _=>True) (V:=fun v w=>BoxL W4.heap.size arT 1 [.int .i64 xs, .string p, .int .i64 xk] v w) 54 ?_ ?_ ?_ ?_ (fun wq hwq hfq=>?_) (fun v54 h54=>?_)
             focus rfl
             focus rfl
             focus (exact ⟨undef,trivial⟩)
             focus rfl
             focus (have d1:=(HBB4.out.kp hwq.1 HNB.out).cell 1 _ rfl;have e0:=(HB4.out.kp hwq.1 HNX.out).cell 0 _ rfl;have e1:=(HB4.out.kp hwq.1 HNX.out).cell 1 _ rfl;have e2:=(HB4.out.kp hwq.1 HNX.out).cell 2 _ rfl;go_simp;(try (rw [dUpon_enter]));rw [dUpon_value];exact mPost trivial (BoxL.new hwq.1.size) ((Kp.refl _ _).alloc _))
             clear h54
             simp only [Act.put,List.setIfInBounds_toArray,List.set_cons_succ,List.set_cons_zero])
          | (refine wpD_used (A:=fun v=>∃ a l c,v=.slice a l c) (V:=fun v w=>w.ownsRow 0 arT 3 v (l.length+1) (l.flatMap wcell++[.int .i64 xs, .string p, .int .i64 xk])∧∀ i,v.ownBlock=some i→(Value.slice a l.length c).ownBlock=some i∨W4.heap.size≤i) 55 ?_ ?_ ?_ ?_ (fun wq hwq hfq=>?_) (fun v55 h55=>?_)
             focus rfl
             focus rfl
             focus (exact ⟨.slice none 0 0,_,_,_,rfl⟩)
             focus rfl
             focus (have d1:=(HBB4.out.kp hwq.1 HNB.out).cell 1 _ rfl;have e0:=(HB4.out.kp hwq.1 HNX.out).cell 0 _ rfl;have e1:=(HB4.out.kp hwq.1 HNX.out).cell 1 _ rfl;have e2:=(HB4.out.kp hwq.1 HNX.out).cell 2 _ rfl;refine dUpon_appR (d:=55) rfl (by kernel_rfl) 202 arT 3 (by decide) arm_facts rfl _ _ rfl (.slice a l.length c) l.length (l.flatMap wcell) rfl (hwq.2 HO4.out) v54 1 [.int .i64 xs, .string p, .int .i64 xk] rfl W4.heap.size (hfq 54 rfl) rfl (wt_one [(⟨xs,p,xk⟩:Wt)]) (by omega) (fun v' w' h1 h2 h3 h4=>⟨by obtain ⟨a,c,e,_⟩:=Sl.open (Sl.of_owns h1);exact ⟨_,_,_,e⟩,⟨h1,fun i hi=>?_⟩,⟨(Kp.refl (fun i=>W4.heap.size≤i∨(Value.slice a l.length c).ownBlock=some i) _).grown h2 (fun q hq _=>.inr hq),fun _=>h3⟩, ?_⟩);(rcases h4 with h4|h4;(focus exact .inl (by rw [← h4];exact hi));(rw [h4] at hi;simp only [Option.some.injEq] at hi;right;have:=hwq.1.size;omega));repeat (first|exact PresL.nil|(with_reducible refine PresL.val ?_)|(refine PresL.out rfl ?_)|(refine PresL.keep (fun u hu=>hu) ?_)))
             obtain ⟨a55,l55,c55,rfl⟩:=h55
             simp only [Act.put,List.setIfInBounds_toArray,List.set_cons_succ,List.set_cons_zero])
          | fail)
         refine wpD_nil ?_
         intro w1 hr1 hend
         have h55:w1.ownsRow 0 arT 3 (.slice a55 l55 c55) (l.length+1) (l.flatMap wcell++[.int .i64 xs, .string p, .int .i64 xk])∧∀ i,(Value.slice a55 l55 c55).ownBlock=some i→(Value.slice a l.length c).ownBlock=some i∨W4.heap.size≤i:=hend 55 (by kernel_rfl)
         clear hend
         have hbw:=HBB4.out.kp hr1.1 HNB.out
         have d1:=hbw.cell 1 _ rfl
         have g1:=hbw.free 1
         have HBW:=Lib.hid hbw
         have H55:=Lib.hid h55
         have hkk:Kp (fun i=>i=b∨ro=some i) w w1:=Kp.next (S:=fun i=>i=b∨ro=some i) (Ext.kp HX4.out) hr1.1 (fun i hi h=>by
          rcases h with h|h
          ·omega
          ·exact .inr (by rw [← HRO.out];exact h))
         have HKK:=Lib.hid hkk
         clear h55 hbw hr1 hkk
         go_wp2_with (fail)
         go_ret
         have hst:Kp (fun i=>i=b) w1 (w1.setCell ⟨b,1,none⟩ (.slice a55 l55 c55)):=Kp.set1 (S:=fun i=>i=b) (Kp.refl _ _) b 1 _ rfl
         have hne:∀ i,(Value.slice a55 l55 c55).ownBlock=some i→i≠b:=by
          intro i hi e
          subst e
          exact HNB.out ((H55.out.2 _ hi).elim .inr .inl)
         refine ⟨by rw [HY.out.1];rfl,⟨(Value.slice a55 l55 c55).ownBlock, ?_,fun i hi=>?_⟩,HKK.out.set1 b 1 _ (.inl rfl)⟩
         ·rw [HY.out.2]
          refine WL.mk (HBW.out.set 1 _) ?_ rfl hne
          have h6:w1.ownsRow 0 arT 3 (.slice a55 l55 c55) (l++[X]).length ((l++[X]).flatMap wcell):=by
           rw [flatMap_snoc,List.length_append,← HXE.out];exact H55.out.1
          exact ownsRow.kp h6 hst hne
         ·rcases H55.out.2 i hi with h|h
          ·exact .inl (by rw [← HRO.out];exact h)
          ·exact .inr (by omega)
end Go.Proofs.YtnlefnhdhigecaaGreatDoor

namespace Av
set_option maxRecDepth 100000
open Go Go.RowKit
section
variable {κ:Type} [DecidableEq κ] {mk:κ→Value} {α:Type}
def rowAt (M:List (κ×Value)) (k:κ):Value:=(mget M k).getD (.slice none 0 0)
structure MapRows (w:World) (base m:Nat) (mk:κ→Value) (eT:TypeId) (ek:Nat) (f:α→List Value) (M:List (κ×Value)) (xs:κ→List α):Prop where
 map:MapK mk w m M
 row:∀ k,w.ownsRow base eT ek (rowAt M k) (xs k).length ((xs k).flatMap f)
 apart:∀ k k' i,k≠k'→(rowAt M k).ownBlock=some i→(rowAt M k').ownBlock≠some i
variable {w w':World} {base m:Nat} {eT:TypeId} {ek:Nat} {f:α→List Value} {M:List (κ×Value)} {xs:κ→List α}
theorem MapRows.new (w:World) (base:Nat) (eT:TypeId) (ek:Nat) (f:α→List Value):MapRows (w.alloc (.map #[] 0)) base w.heap.size mk eT ek f [] (fun _=>[]):=
 ⟨MapK.new w,fun _=>⟨by simp, .inl ⟨rfl,rfl⟩⟩,fun k k' i _ h=>by simp [rowAt,mget,Value.ownBlock] at h⟩
theorem MapRows.ext (h:MapRows w base m mk eT ek f M xs) (k:Ext w w'):MapRows w' base m mk eT ek f M xs:=⟨h.map.ext k,fun q=>ownsRow.ext (h.row q) k,h.apart⟩
theorem MapRows.kp {S:Nat→Prop} (h:MapRows w base m mk eT ek f M xs) (k:Kp S w w') (hm:¬ S m) (hr:∀ q i,(rowAt M q).ownBlock=some i→¬ S i):MapRows w' base m mk eT ek f M xs:=
 ⟨h.map.kp k hm,fun q=>ownsRow.kp (h.row q) k (hr q),h.apart⟩
theorem rowAt_set (M:List (κ×Value)) (k q:κ) (v:Value):rowAt (mset M k v) q=if q=k then v else rowAt M q:=by
 unfold rowAt
 rw [mget_mset]
 split<;>rfl
theorem rowAt_del (M:List (κ×Value)) (k q:κ):rowAt (mdel M k) q=if q=k then .slice none 0 0 else rowAt M q:=by
 unfold rowAt
 rw [mget_mdel]
 split<;>rfl
theorem MapRows.put {w1 w2:World} (h:MapRows w base m mk eT ek f M xs) (k:κ) {v:Value} {ys:List α} (k1:Kp (fun i=>(rowAt M k).ownBlock=some i) w w1) (hv:w1.ownsRow base eT ek v ys.length (ys.flatMap f))
  (hb:∀ i,v.ownBlock=some i→(rowAt M k).ownBlock=some i∨w.heap.size≤i) (hmr:∀ q i,(rowAt M q).ownBlock=some i→i≠m) (hvm:∀ i,v.ownBlock=some i→i≠m)
  (hm:MapK mk w2 m (mset M k v)) (k2:Kp (fun i=>i=m) w1 w2):MapRows w2 base m mk eT ek f (mset M k v) (fun q=>if q=k then ys else xs q):=by
 have hlt:∀ q i,(rowAt M q).ownBlock=some i→i<w.heap.size:=fun q i hi=>by
  obtain ⟨_,⟨h1,_⟩|⟨g,c,cur,h1,_,hg,_⟩⟩:=h.row q
  ·rw [h1] at hi;simp [Value.ownBlock] at hi
  ·rw [h1] at hi
   simp only [Value.ownBlock,Option.some.injEq] at hi
   subst hi
   exact (Array.getElem?_eq_some_iff.1 hg).1
 refine ⟨hm,fun q=>?_,fun q q' i hne hi=>?_⟩
 ·rw [rowAt_set]
  by_cases e:q=k
  ·rw [if_pos e,if_pos e]
   exact ownsRow.kp hv k2 (fun i hi hs=>hvm i hi hs)
  ·rw [if_neg e,if_neg e]
   have h1:=ownsRow.kp (h.row q) k1 (fun i hi hs=>h.apart q k i e hi hs)
   exact ownsRow.kp h1 k2 (fun i hi hs=>hmr q i hi hs)
 ·rw [rowAt_set] at hi ⊢
  by_cases e:q=k
  ·rw [if_pos e] at hi
   rw [if_neg (fun e2=>hne (e.trans e2.symm))]
   rcases hb i hi with h2|h2
   ·exact h.apart k q' i (fun e2=>hne (e.trans e2)) h2
   ·exact fun h3=>by have:=hlt q' i h3;omega
  ·rw [if_neg e] at hi
   by_cases e':q'=k
   ·rw [if_pos e']
    intro h3
    rcases hb i h3 with h2|h2
    ·exact h.apart q k i e hi h2
    ·have:=hlt q i hi;omega
   ·rw [if_neg e']
    exact h.apart q q' i hne hi
theorem MapRows.del (h:MapRows w base m mk eT ek f M xs) (k:κ) (hm:MapK mk w' m (mdel M k)) (k2:Kp (fun i=>i=m) w w') (hmr:∀ q i,(rowAt M q).ownBlock=some i→i≠m):MapRows w' base m mk eT ek f (mdel M k) (fun q=>if q=k then [] else xs q):=by
 refine ⟨hm,fun q=>?_,fun q q' i hne hi=>?_⟩
 ·rw [rowAt_del]
  by_cases e:q=k
  ·rw [if_pos e,if_pos e]
   exact ⟨by simp, .inl ⟨rfl,rfl⟩⟩
  ·rw [if_neg e,if_neg e]
   exact ownsRow.kp (h.row q) k2 (fun i hi hs=>hmr q i hi hs)
 ·rw [rowAt_del] at hi ⊢
  by_cases e:q=k
  ·rw [if_pos e] at hi;simp [Value.ownBlock] at hi
  ·rw [if_neg e] at hi
   by_cases e':q'=k
   ·rw [if_pos e'];simp [Value.ownBlock]
   ·rw [if_neg e'];exact h.apart q q' i hne hi
theorem MapRows.off (h:MapRows w base m mk eT ek f M xs) (q:κ) (i:Nat) (hi:(rowAt M q).ownBlock=some i):i≠m:=by
 rintro rfl
 obtain ⟨L,c,hr,_⟩:=h.map
 have h1:=hr.1
 obtain ⟨_,⟨h2,_⟩|⟨g,cc,cur,h2,_,hg,_⟩⟩:=h.row q
 ·rw [h2] at hi;simp [Value.ownBlock] at hi
 ·rw [h2] at hi
  simp only [Value.ownBlock,Option.some.injEq] at hi
  subst hi
  rw [hg] at h1
  simp at h1
end
end Av

