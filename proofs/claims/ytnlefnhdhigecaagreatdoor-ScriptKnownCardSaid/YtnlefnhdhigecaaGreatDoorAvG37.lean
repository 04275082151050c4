/- Texts put together: AvSoX, AvScrI, AvScrJ, AvScrK. -/
import Derived.Test.YtnlefnhdhigecaaGreatDoorAvG36
import Derived.Test.YtnlefnhdhigecaaGreatDoorAvG31
import Derived.Test.YtnlefnhdhigecaaGreatDoorAvG13
import Derived.Test.YtnlefnhdhigecaaGreatDoorAvG12
namespace Go.Proofs.YtnlefnhdhigecaaGreatDoor
set_option maxRecDepth 100000
open Go.RowKit Av
variable {w0 w w':World} {g C:Nat} {s:SoV}
def SoX (w0 w:World) (g C:Nat) (s:SoV):Prop:=∃ B K N,SoR w0 w g K B s∧SoOk N s∧K+s.tr.length≤40*C∧N+s.ss.l.length≤2*C
theorem SoX.ext (h:SoX w0 w g C s) (k:Ext w w'):SoX w0 w' g C s:=by
 obtain ⟨B,K,N,h1,h2⟩:=h
 exact ⟨B,K,N,h1.ext k,h2⟩
theorem SoX.ex (h:SoX w0 w g C s):Ext w0 w:=by
 obtain ⟨B,K,N,h1,_⟩:=h
 exact h1.ex
theorem SoX.aside {S:Nat→Prop} {Ts:List TypeId} (h:SoX w0 w g C s) (k:Kp S w w') (hS:Safe w0 w S Ts []) (hT:∀ T∈[soT,trT,ndT,strT,ssT,seT,wlT,arT,rsuT,evT],T∉Ts):SoX w0 w' g C s:=by
 obtain ⟨B,K,N,h1,h2⟩:=h
 exact ⟨B,K,N,h1.aside k hS hT,h2⟩
theorem SoX.room (h:SoX w0 w g C s):s.tr.length≤s.room:=by
 obtain ⟨B,K,N,h1,_⟩:=h
 have q1:=h1.tr.good.snd.size
 have q2:=h1.tr.len
 rw [q2];exact q1
theorem doL_len1 (room:Int) (L:RL) (o:OpV) (sess z:Int):(doL room L o sess z).1.length≤L.length+1:=by
 have ht:∀ (f:NodeV→Bs→NodeV) (M:RL) (p:ByteArray),(tellL f M p).length=M.length:=fun f M p=>by
  unfold tellL
  split
  ·rfl
  ·split
   ·rfl
   ·rw [List.length_set]
 unfold doL
 split
 ·exact Nat.le_succ _
 ·split
  ·exact Nat.le_succ _
  ·split
   ·unfold createL
    simp only
    split
    ·exact Nat.le_succ _
    ·show (putR _ _ _).length≤_
     unfold putR
     rw [List.length_append,List.length_cons,List.length_take,List.length_drop,ht]
     omega
   ·split
    ·unfold changeL
     split
     ·exact Nat.le_succ _
     ·split
      ·exact Nat.le_succ _
      ·split
       ·split
        ·exact Nat.le_succ _
        ·show (tellL _ _ _).length≤_
         rw [ht]
         unfold delR
         rw [List.length_append,List.length_take,List.length_drop]
         omega
       ·split
        ·show (L.set _ _).length≤_
         rw [List.length_set];omega
        ·exact Nat.le_succ _
    ·exact Nat.le_succ _
theorem runL_len1 (room sess z:Int):∀ (ops:List OpV) (L:RL),(runL room sess z L ops).1.length≤L.length+ops.length
 | [],L=>Nat.le_refl _
 | o::ops,L=>by
   have h1:=doL_len1 room L o sess z
   unfold runL
   split
   ·show (doL room L o sess z).1.length≤_
    simp only [List.length_cons];omega
   ·show (runL room sess z (doL room L o sess z).1 ops).1.length≤_
    have h2:=runL_len1 room sess z ops (doL room L o sess z).1
    simp only [List.length_cons];omega
theorem request_len16 (room:Int) (L:RL) (sess num z:Int) (ops:List OpV):(requestL room L sess num z ops).1.length≤L.length+16:=by
 unfold requestL
 split
 ·exact Nat.le_add_right _ _
 ·show (multiL room L sess z ops).1.length≤_
  unfold multiL
  split
  ·exact Nat.le_add_right _ _
  ·rename_i h16
   split
   ·exact Nat.le_add_right _ _
   ·split
    ·exact Nat.le_add_right _ _
    ·have:=runL_len1 room sess z ops L
     show (runL room sess z L ops).1.length≤_
     omega
theorem done_len16 (s:SoV) (sess num:Int) (ops:List OpV):(doneS s sess num ops).1.tr.length≤s.tr.length+16:=by
 unfold doneS
 simp only
 rw [(changed_same _ ops _).tr]
 exact request_len16 _ _ _ _ _ _
theorem ask_len16 (s:SoV) (sess num:Int) (ops:List OpV):(askS s sess num ops).1.tr.length≤s.tr.length+16:=by
 unfold askS
 split
 ·exact Nat.le_add_right _ _
 ·split
  ·exact Nat.le_add_right _ _
  ·split
   ·exact done_len16 _ sess num ops
   ·split
    ·exact Nat.le_add_right _ _
    ·split
     ·exact Nat.le_add_right _ _
     ·exact done_len16 _ sess num ops
theorem touch_len (ss:SsV) (id:Int):(touchS ss id).1.l.length=ss.l.length:=by
 unfold touchS
 split
 ·rfl
 ·show (setTill _ _ _).length=_
  rw [setTill_len]
theorem ask_ssl (s:SoV) (sess num:Int) (ops:List OpV):(askS s sess num ops).1.ss.l.length=s.ss.l.length:=by
 unfold askS
 split
 ·rfl
 ·split
  ·rfl
  ·split
   ·rw [done_live];exact touch_len _ _
   ·split
    ·exact touch_len _ _
    ·split
     ·exact touch_len _ _
     ·rw [done_live];exact touch_len _ _
theorem open_len (ss:SsV) (span:Int):(openS ss span).1.l.length≤ss.l.length+1:=by
 unfold openS
 split
 ·exact Nat.le_succ _
 ·split
  ·exact Nat.le_succ _
  ·show (ss.l++[_]).length≤_
   rw [List.length_append];exact Nat.le_refl _
theorem close_len {ss:SsV} {id:Int} (h:(closeS ss id).2=0):(closeS ss id).1.l.length+1=ss.l.length:=by
 unfold closeS at h ⊢
 split
 ·rename_i hf;rw [hf] at h;exact absurd h (show ¬ (11:Int)=0 by decide)
 ·rename_i k hf
  obtain ⟨hk,_⟩:=findS_lt hf
  show (ss.l.take k++ss.l.drop (k+1)).length+1=_
  rw [List.length_append,List.length_take,List.length_drop]
  omega
theorem tick_len (ss:SsV):(tickS ss).1.l.length+(tickS ss).2.length=ss.l.length:=by
 unfold tickS
 simp only [List.length_map]
 generalize ss.now+1=now
 induction ss.l with
 | nil=>rfl
 | cons x l ih=>
   simp only [List.filter_cons]
   cases overS now x<;>simp only [Bool.not_true,Bool.not_false,if_true,if_false,List.length_cons,Bool.false_eq_true]<;>omega
theorem ends_ss:∀ (l:List Int) (s:SoV),(l.foldl endS s).ss=s.ss∧(l.foldl endS s).room=s.room
 | [],_=>⟨rfl,rfl⟩
 | id::l,s=>by
   obtain ⟨h1,h2⟩:=ends_ss l (endS s id)
   obtain ⟨_,e2,e3,_⟩:=end_tr s id
   exact ⟨h1.trans e3,h2.trans e2⟩
theorem soX_new (room:Int) (w:World) (h1:1≤room) (h2:room≤500):Calls Tryz.prog 31 #[.int .i64 room] w fun e w'=>∃ g,e=.returned (.tuple #[.pointer (some ⟨g,0,none⟩), .int .i64 0])∧SoX w w' g 0 (soZ room)∧Ext w w':=by
 refine (soNew_any room w h1 h2).mono ?_
 rintro e w' ⟨g,B,rfl,h3,h4⟩
 exact ⟨g,rfl,⟨B,0,0,h3,soOk_new room,Nat.le_refl _,Nat.le_refl _⟩,h4⟩
theorem soX_open (h:SoX w0 w g C s) (hC:C≤1000) (span:Int):Calls Tryz.prog 32 #[.pointer (some ⟨g,0,none⟩), .int .i64 span] w fun e w'=>e=.returned (.tuple #[.int .i64 (openO s span).2.1, .int .i64 (openO s span).2.2])∧SoX w0 w' g (C+1) (openO s span).1∧Oth w0 w w':=by
 obtain ⟨B,K,N,hr,hok,hK,hN⟩:=h
 refine (soOpen_any hr hok (by omega) span).mono ?_
 rintro e w' ⟨rfl,hp⟩
 have ho:=hp.oth hr (Kp.refl _ _)
 obtain ⟨B',h1,_,_⟩:=hp
 have hl:=open_len s.ss span
 exact ⟨rfl,⟨B',K,N+1,h1,hok.opened span,by show K+s.tr.length≤_;omega,by show _+(openS s.ss span).1.l.length≤_;omega⟩,ho⟩
theorem soX_tree (h:SoX w0 w g C s) (hC:C≤1000):Calls Tryz.prog 40 #[.pointer (some ⟨g,0,none⟩)] w fun e w'=>∃ b' m' c,e=.returned (.pointer (some ⟨b',0,none⟩))∧TrA w w' b' m' s.room (40*C) c s.tr∧Ext w w':=by
 obtain ⟨B,K,N,hr,hok,hK,hN⟩:=h
 refine (soTree_any hr (by omega)).mono ?_
 rintro e w' ⟨b',m',c,rfl,h1,h2⟩
 exact ⟨b',m',c,rfl,h1.mono (by omega),h2⟩
theorem soX_watch (h:SoX w0 w g C s) (hC:C≤1000) (hG:GL w) (x:Wt) (hp:x.path.size≤maxLen):Calls Tryz.prog 36 #[.pointer (some ⟨g,0,none⟩), .int .i64 x.sess, .string x.path, .int .i64 x.kind] w fun e w'=>e=.returned (.int .i64 (watchO s x).2)∧SoX w0 w' g (C+1) (watchO s x).1∧Oth w0 w w':=by
 obtain ⟨B,K,N,hr,hok,hK,hN⟩:=h
 refine (soWatch_any hr hok (by omega) hG x hp).mono ?_
 rintro e w' ⟨rfl,hp⟩
 have ho:=hp.oth hr (Kp.refl _ _)
 obtain ⟨B',h1,_,_⟩:=hp
 have e1:(watchO s x).1.tr=s.tr∧(watchO s x).1.ss=s.ss:=by
  unfold watchO
  split<;>exact ⟨rfl,rfl⟩
 exact ⟨rfl,⟨B',K,N+1,h1,hok.watched x,by rw [e1.1];omega,by rw [e1.2];omega⟩,ho⟩
theorem soX_events (h:SoX w0 w g C s) (id:Int):Calls Tryz.prog 37 #[.pointer (some ⟨g,0,none⟩), .int .i64 id] w fun e w'=>∃ v,e=.returned v∧w'.ownsRow 0 evT 3 v (s.ev id).length ((s.ev id).flatMap wcell)∧SoX w0 w' g C (eventsO s id).1∧Oth w0 w w':=by
 obtain ⟨B,K,N,hr,hok,hK,hN⟩:=h
 refine (soEvents_any hr id).mono ?_
 rintro e w' ⟨v,B',rfl,h1,h2,h3,_,_⟩
 exact ⟨v,rfl,h1,⟨B',K,N,h2,hok.told id,hK,hN⟩,hr.oth (Kp.refl _ _) h3⟩
theorem soX_ask (h:SoX w0 w g C s) (hC:C≤1000) (hG:GT w0) {W:World} (hx:Ext w W) (v:Value) (ops:List OpV) (sess num:Int) (ho:OpsAt w0 v ops) (hsz:OpsS ops) :
  Calls Tryz.prog 34 #[.pointer (some ⟨g,0,none⟩), .agg #[.int .i64 sess, .int .i64 num,v]] W fun e w'=>∃ u,e=.returned (.agg (rplA (askS s sess num ops).2 u))∧RpAt w' 0 u (askS s sess num ops).2∧SoX w0 w' g (C+1) (askS s sess num ops).1∧Oth w0 w w':=by
 obtain ⟨B,K,N,hr,hok,hK,hN⟩:=h
 have hoW:=ho.ext (hr.ex.trans hx)
 have hs0:=hr.ex.size
 have hs1:=hx.size
 have hl:=ask_len16 s sess num ops
 have hl2:=ask_ssl s sess num ops
 by_cases hm:mayR sess num ops=0
 ·have hn:0<ops.length:=by
   rcases Nat.eq_zero_or_pos ops.length with h0|h0
   ·exfalso
    unfold mayR at hm
    rw [if_pos (.inr (.inr h0))] at hm
    exact absurd hm (by decide)
   ·exact h0
  refine (soAsk_any (hr.ext hx) hok (by omega) (by omega) hG v ops sess num hoW hsz (fun i hi hs=>?_) (fun i hi=>by have:=ops_block ho hn hi;omega)).mono ?_
  ·have h1:=hr.low i hs
   have h2:=ops_block ho hn hi
   omega
  ·rintro e w' ⟨u,rfl,h1,h2,h3⟩
   have hoth:=h2.oth hr hx
   obtain ⟨B',h4,_,_⟩:=h2
   exact ⟨u,rfl,h1.less (Nat.zero_le _),⟨B',K+16,N+1,h4,h3,by omega,by omega⟩,hoth⟩
 ·refine (soAsk_bad (K:=K) (hr.ext hx) hok hG v ops sess num hoW hsz hm).mono ?_
  rintro e w' ⟨u,rfl,h1,h2,h3⟩
  have hoth:=h2.oth hr hx
  obtain ⟨B',h4,_,_⟩:=h2
  exact ⟨u,rfl,h1.less (Nat.zero_le _),⟨B',K+16,N+1,h4.mono (by omega),h3,by omega,by omega⟩,hoth⟩
theorem soX_close (h:SoX w0 w g C s) (hC:C≤1000) (hG:GT w0) (id:Int) (hroom:s.room≤5000) :
  Calls Tryz.prog 47 #[.pointer (some ⟨g,0,none⟩), .int .i64 id] w fun e w'=>e=.returned (.int .i64 (closeO s id).2)∧SoX w0 w' g (C+1) (closeO s id).1∧Oth w0 w w':=by
 obtain ⟨B,K,N,hr,hok,hK,hN⟩:=h
 refine (soClose_gen hr hok (by omega) (by omega) hG id hroom).mono ?_
 rintro e w' ⟨rfl,⟨n,hp,hl⟩,hok2⟩
 have ho:=hp.oth hr (Kp.refl _ _)
 obtain ⟨B',h1,_,_⟩:=hp
 have hs:(closeO s id).1.ss.l.length≤s.ss.l.length:=by
  unfold closeO
  split
  ·exact Nat.le_refl _
  ·rename_i h0
   rw [(end_tr _ id).2.2.1]
   have:=close_len (ss:=s.ss) (id:=id) (by omega)
   show (closeS s.ss id).1.l.length≤_
   omega
 exact ⟨rfl,⟨B',K+n,N+1,h1,hok2,by omega,by omega⟩,ho⟩
theorem soX_tick (h:SoX w0 w g C s) (hC:C≤1000) (hG:GT w0) (hroom:s.room≤5000) :
  Calls Tryz.prog 50 #[.pointer (some ⟨g,0,none⟩)] w fun e w'=>∃ v,e=.returned v∧w'.ownsRow w.heap.size sxT 1 v (tickO s).2.length (sxc (tickO s).2)∧SoX w0 w' g (C+1) (tickO s).1∧Oth w0 w w':=by
 obtain ⟨B,K,N,hr,hok,hK,hN⟩:=h
 refine (soTick_gen hr hok (by omega) (by omega) hG hroom).mono ?_
 rintro e w' ⟨v,rfl,hv,⟨n,hp,hl⟩,hok2⟩
 have ho:=hp.oth hr (Kp.refl _ _)
 obtain ⟨B',h1,_,_⟩:=hp
 have hs:=tick_len s.ss
 have e1:=(ends_ss (tickS s.ss).2 { s with ss:=(tickS s.ss).1 }).1
 have e2:(tickO s).1.ss=(tickS s.ss).1:=e1
 have e3:(tickO s).2=(tickS s.ss).2:=rfl
 exact ⟨v,rfl,hv,⟨B',K+n,N+1+(tickO s).2.length,h1,hok2,by omega,by rw [e2,e3];omega⟩,ho⟩
end Go.Proofs.YtnlefnhdhigecaaGreatDoor

namespace Go.Proofs.YtnlefnhdhigecaaGreatDoor
set_option maxRecDepth 100000
open Go.RowKit Av
def Asd (w w':World):Prop:=w.heap.size≤w'.heap.size∧∀ (r:Nat) (cur:Array Value) (T:TypeId) (f:Nat×Nat),w.heap[r]? = some (Obj.cells cur T f)→T∉soTs→w'.heap[r]? = some (Obj.cells cur T f)
theorem Asd.of {w w':World} (h:Ext w w'):Asd w w':=⟨h.size,fun _ _ _ _ hb _=>h.obj hb (fun f=>f)⟩
theorem Asd.trans {w w' w2:World} (h:Asd w w') (k:Asd w' w2):Asd w w2:=⟨Nat.le_trans h.1 k.1,fun r cur T f hb hT=>k.2 r cur T f (h.2 r cur T f hb hT) hT⟩
theorem Oth.asd {w0 w w':World} (h:Oth w0 w w'):Asd w w':=by
 obtain ⟨S,ms,k,hs⟩:=h
 refine ⟨k.size,fun r cur T f hb hT=>k.obj hb fun hS=>?_⟩
 rcases hs.ty r hS (Array.getElem?_eq_some_iff.1 hb).1 with ⟨c2,T',f',h2,h3⟩|⟨es,c,h2,_⟩
 ·rw [hb] at h2
  simp only [Option.some.injEq,Obj.cells.injEq] at h2
  exact hT (h2.2.1 ▸ h3)
 ·rw [hb] at h2
  cases h2
def LnPost (w0 w:World) (g C:Nat) (s:SoV) (a:SAct) (e:Ending) (w':World):Prop:=e=.returned (.string (bA (doneT s a).1))∧SoX w0 w' g (C+1) (doneT s a).2∧Asd w w'
variable {w0 w w':World} {g C:Nat} {s:SoV}
set_option maxHeartbeats 800000 in
theorem play2_any (h:SoX w0 w g C s) (hC:C≤1000) (hG:GT w0) (hr:s.room≤5000) (n:Int) (r:Nat) (hb:Blk w r #[.int .i64 n] 2) (hE:In64 (closeO s n).2) :
  Calls Tryz.prog 183 #[.pointer (some ⟨g,0,none⟩), .pointer (some ⟨r,0,none⟩)] w (LnPost w0 w g C s (.cls n)):=by
 have HC:=Lib.hid (soX_close h hC hG n hr)
 have c0:=hb.cell 0 _ rfl
 clear hb
 go_enter Tryz.func183,Tryz.ntmps183
 have HE:=Lib.hid hE
 have HG:=Lib.hid hG
 clear hE hG h
 go_wp2_with (fail)
 refine HC.out.mono ?_
 rintro e w1 ⟨rfl,h1,h2⟩
 have H1:=Lib.hid h1
 have H2:=Lib.hid h2
 clear h1 h2 HC
 go_wp2_with (fail)
 refine (errno_any _ HE.out w1 (HG.out.ext H1.out.ex)).mono ?_
 rintro e w2 ⟨rfl,hx⟩
 go_wp2_with (fail)
 go_ret
 exact ⟨rfl,H1.out.ext hx,H2.out.asd.trans (Asd.of hx)⟩
set_option maxHeartbeats 800000 in
theorem play5_any (h:SoX w0 w g C s) (hC:C≤1000) (hG:GT w0) (n:Int) (p:Bs) (k:Int) (r1 r2 r3:Nat) (hb1:Blk w r1 #[.int .i64 n] 2) (hb2:Blk w r2 #[.string (bA p)] 9) (hb3:Blk w r3 #[.int .i64 k] 3) (hp:p.length≤1000000) (hE:In64 (watchO s ⟨n,bA p,k⟩).2) :
  Calls Tryz.prog 189 #[.pointer (some ⟨g,0,none⟩), .pointer (some ⟨r1,0,none⟩), .pointer (some ⟨r2,0,none⟩), .pointer (some ⟨r3,0,none⟩)] w (LnPost w0 w g C s (.watch n p k)):=by
 have HC:=Lib.hid (soX_watch h hC (hG.gl.ext h.ex) ⟨n,bA p,k⟩ (by rw [bA_size];unfold maxLen;omega))
 have c1:=hb1.cell 0 _ rfl
 have c2:=hb2.cell 0 _ rfl
 have c3:=hb3.cell 0 _ rfl
 clear hb1 hb2 hb3
 go_enter Tryz.func189,Tryz.ntmps189
 have HE:=Lib.hid hE
 have HG:=Lib.hid hG
 clear hE hG h
 go_wp2_with (fail)
 refine HC.out.mono ?_
 rintro e w1 ⟨rfl,h1,h2⟩
 have H1:=Lib.hid h1
 have H2:=Lib.hid h2
 clear h1 h2 HC
 go_wp2_with (fail)
 refine (errno_any _ HE.out w1 (HG.out.ext H1.out.ex)).mono ?_
 rintro e w2 ⟨rfl,hx⟩
 go_wp2_with (fail)
 go_ret
 exact ⟨rfl,H1.out.ext hx,H2.out.asd.trans (Asd.of hx)⟩
set_option maxHeartbeats 800000 in
theorem play1_any (h:SoX w0 w g C s) (hC:C≤1000) (hG:GT w0) (n:Int) (r:Nat) (hb:Blk w r #[.int .i64 n] 2) (hI:In64 (openO s n).2.1) (hE:In64 (openO s n).2.2) :
  Calls Tryz.prog 180 #[.pointer (some ⟨g,0,none⟩), .pointer (some ⟨r,0,none⟩)] w (LnPost w0 w g C s (.opn n)):=by
 have HC:=Lib.hid (soX_open h hC n)
 have c0:=hb.cell 0 _ rfl
 have HD:Hid (∀ x,(if (openO s n).2.2=0 then Go.Lib.itoa (openO s n).2.1 else errT (openO s n).2.2)=x→doneT s (.opn n)=(x,(openO s n).1)):=by
  intro x hx
  rw [← hx]
  rfl
 clear hb
 go_enter Tryz.func180,Tryz.ntmps180
 obtain ⟨id,hid⟩:∃ id,(openO s n).2.1=id:=⟨_,rfl⟩
 obtain ⟨er,her⟩:∃ er,(openO s n).2.2=er:=⟨_,rfl⟩
 rw [hid] at hI HC HD
 rw [her] at hE HC HD
 have HE:=Lib.hid hE
 have HI:=Lib.hid hI
 have HG:=Lib.hid hG
 clear hE hG hI h hid her
 go_wp2_with (fail)
 refine HC.out.mono ?_
 rintro e w1 ⟨rfl,h1,h2⟩
 have H1:=Lib.hid h1
 have H2:=Lib.hid h2
 clear h1 h2 HC
 by_cases h0:er=0
 ·have HX:=Lib.hid (HD.out _ (if_pos h0))
  have q0:(er == 0)=true:=by simpa using h0
  clear h0 HD
  go_wp2_with (fail)
  refine (Fmt_any _ HI.out w1 (HG.out.ext H1.out.ex)).mono ?_
  rintro e w2 ⟨rfl,hx⟩
  go_wp2_with (fail)
  go_ret
  exact ⟨by rw [HX.out];rfl,by rw [HX.out];exact H1.out.ext hx,H2.out.asd.trans (Asd.of hx)⟩
 ·have HX:=Lib.hid (HD.out _ (if_neg h0))
  have q0:(er == 0)=false:=by simpa using h0
  clear h0 HD
  go_wp2_with (fail)
  refine (errno_any _ HE.out w1 (HG.out.ext H1.out.ex)).mono ?_
  rintro e w2 ⟨rfl,hx⟩
  go_wp2_with (fail)
  go_ret
  exact ⟨by rw [HX.out];rfl,by rw [HX.out];exact H1.out.ext hx,H2.out.asd.trans (Asd.of hx)⟩
set_option maxHeartbeats 800000 in
theorem play3_any (h:SoX w0 w g C s) (hC:C≤1000) (hG:GT w0) (hr:s.room≤5000) (hI:∀ n∈(tickO s).2,In64 n) (hn:(tickO s).2.length≤1000000) :
  Calls Tryz.prog 184 #[.pointer (some ⟨g,0,none⟩)] w (LnPost w0 w g C s .tick):=by
 have HC:=Lib.hid (soX_tick h hC hG hr)
 go_enter Tryz.func184,Tryz.ntmps184
 have HG:=Lib.hid hG
 have HI:=Lib.hid hI
 have HN:=Lib.hid hn
 clear hG h hI hn
 go_wp2_with (fail)
 refine HC.out.mono ?_
 rintro e w1 ⟨v,rfl,hv,h1,h2⟩
 have H1:=Lib.hid h1
 have H2:=Lib.hid h2
 have HV:=Lib.hid (Sl.of_owns hv)
 obtain ⟨va,vc,rfl⟩:=owns_slice hv
 clear h1 h2 HC hv
 go_wp2_with (fail)
 refine (numbers_told (tickO s).2 _ w1 (HG.out.ext H1.out.ex) HV.out HI.out HN.out).mono ?_
 rintro e w2 ⟨rfl,hx⟩
 go_wp2_with (fail)
 go_ret
 exact ⟨rfl,H1.out.ext hx,H2.out.asd.trans (Asd.of hx)⟩
end Go.Proofs.YtnlefnhdhigecaaGreatDoor

namespace Go.Proofs.YtnlefnhdhigecaaGreatDoor
set_option maxRecDepth 100000
open Go.RowKit Av
variable {w0 w w':World} {g C:Nat} {s:SoV}
theorem SoX.more (h:SoX w0 w g C s):SoX w0 w g (C+1) s:=by
 obtain ⟨B,K,N,h1,h2,h3,h4⟩:=h
 exact ⟨B,K,N,h1,h2,by omega,by omega⟩
set_option maxHeartbeats 800000 in
theorem play7_any (h:SoX w0 w g C s) (hC:C≤1000) (hr:s.room≤5000) :
  Calls Tryz.prog 192 #[.pointer (some ⟨g,0,none⟩)] w (LnPost w0 w g C s .paths):=by
 have HH:=Lib.hid h
 have HR:=Lib.hid hr
 have HC:=Lib.hid (soX_tree h hC)
 go_enter Tryz.func192,Tryz.ntmps192
 clear h hC hr
 go_wp2_with (fail)
 refine HC.out.mono ?_
 rintro e w1 ⟨b,m,c,rfl,h1,hx1⟩
 have hp:=tsPaths h1.ts h1.good.snd (by have:=HR.out;omega)
 have hk:pathsP (pl c)=s.tr.map fun e=>e.1.data.toList:=by
  rw [h1.own]
  exact (keys_own (pl c)).symm
 have hlen:(pathsP (pl c)).length≤5000:=by
  have h9:=h1.good.snd.size
  rw [pathsP_len]
  have:=HR.out
  omega
 have hpl:∀ x∈pathsP (pl c),x.length≤200:=by
  intro x hx
  have hne:=paths_mem.1 hx
  cases hm:mget (pl c) ⟨x.toArray⟩ with
  | none=>exact absurd hm hne
  | some n=>
    have h8:=path_small _ (h1.good.snd.good _ _ hm)
    have h7:=bA_size x
    unfold bA at h7
    omega
 have hll:=lens_le (B:=200) _ hpl
 generalize pathsP (pl c)=Q at *
 have HP:=Lib.hid hp
 have HK:=Lib.hid hk
 have HX1:=Lib.hid hx1
 have HL:Hid (Go.Lib.lens Q+Q.length*1≤140737488355328):=by show _≤_;omega
 have HN:Hid (Q.length≤140737488355328):=by show _≤_;omega
 clear hp hk hx1 h1 hlen hpl hll HC
 go_wp2_with (fail)
 refine HP.out.mono ?_
 rintro e w2 ⟨v,rfl,hv,hx2⟩
 have HV:=Lib.hid (Sl.of_owns hv)
 obtain ⟨va,vc,rfl⟩:=owns_slice hv
 have HX2:=Lib.hid hx2
 clear hv hx2 HP
 go_wp2_with (fail)
 refine (JoinL_any ⟨#[32]⟩ _ Q w2 HV.out HN.out HL.out).mono ?_
 rintro e w3 ⟨rfl,hx3⟩
 go_wp2_with (fail)
 go_ret
 have hxx:=(HX1.out.trans HX2.out).trans hx3
 refine ⟨?_,(HH.out.ext hxx).more,Asd.of hxx⟩
 rw [HK.out]
 rfl
end Go.Proofs.YtnlefnhdhigecaaGreatDoor

namespace Go.Proofs.YtnlefnhdhigecaaGreatDoor
set_option maxRecDepth 100000
open Go.RowKit Av
variable {w0 w w':World} {g C:Nat} {s:SoV}
def EvLoop (w:World) (l:List Bs) (s5 s12:Value) (wr:World):Prop:=∃ k:Nat,k≤l.length∧s12=.int .i64 k∧wr.ownsRow w.heap.size strT 1 s5 k ((l.take k).map encStr)∧Ext w wr
theorem ev_open {w:World} {va:Option Addr} {n vc:Nat} {xs:List Value} (h:w.ownsRow 0 evT 3 (.slice va n vc) n xs) (h0:0<n):∃ g,va=some ⟨g,0,none⟩∧∀ i x,xs[i]? = some x→w.cell? ⟨g,i,none⟩=some x:=by
 obtain ⟨_,⟨_,rfl⟩|⟨g,cap,cur,e,_,hg,_,_,_,ht⟩⟩:=h
 ·exact absurd h0 (Nat.lt_irrefl 0)
 ·cases e
  refine ⟨g,rfl,fun i x hx=>?_⟩
  have h2:cur.toList[i]? = some x:=by
   rw [← ht,List.getElem?_take] at hx
   split at hx
   ·exact hx
   ·cases hx
  have h3:cur[i]? = some x:=by rw [← Array.getElem?_toList];exact h2
  simp [World.cell?,hg,h3]
set_option maxHeartbeats 3200000 in
theorem events_told (h:SoX w0 w g C s) (hG:GT w0) (n:Int) (hI:∀ x∈s.ev n,In64 x.kind) (hp:∀ x∈s.ev n,x.path.size≤1000000) (hn:(s.ev n).length≤1000000) :
  Calls Tryz.prog 191 #[.pointer (some ⟨g,0,none⟩), .int .i64 n] w (LnPost w0 w g C s (.evs n)):=by
 have HC:=Lib.hid (soX_events h n)
 have HI:=Lib.hid hI
 have HP:=Lib.hid hp
 have HG:=Lib.hid hG
 go_enter Tryz.func191,Tryz.ntmps191
 clear h hI hp hG
 go_wp2_with (fail)
 refine HC.out.mono ?_
 rintro e w1 ⟨v,rfl,hv,h1,h2⟩
 obtain ⟨va,vc,rfl⟩:=owns_slice hv
 have HV:Hid (0<(s.ev n).length→∃ g,va=some ⟨g,0,none⟩∧∀ i x,((s.ev n).flatMap wcell)[i]? = some x→w1.cell? ⟨g,i,none⟩=some x):=ev_open hv
 have H1:=Lib.hid h1
 have H2:=Lib.hid h2
 have HD:Hid ((doneT s (.evs n)).1=Go.Lib.join ((s.ev n).map evT_) [59]∧(doneT s (.evs n)).2=(eventsO s n).1):=⟨rfl,rfl⟩
 clear hv h1 h2 HC
 generalize s.ev n=L at *
 go_wp2_with (fail)
 go_loopw [5,12] (fun s5 s12 wr=>EvLoop w1 (L.map evT_) s5 s12 wr) (fun _ s12 _=>L.length - (intOf s12).toNat)
 case atStart=>exact ⟨0,Nat.zero_le _,rfl,⟨rfl, .inl ⟨rfl,rfl⟩⟩,Kp.refl _ _⟩
 case round=>
  obtain ⟨k,hk,rfl,how,hxr⟩:=hrel
  rw [List.length_map] at hk
  obtain ⟨va5,vc5,rfl⟩:=owns_slice how
  have HOW:=Lib.hid how
  have HXR:=Lib.hid hxr
  clear how hxr
  by_cases hlt:k<L.length
  ·obtain ⟨q,rfl,hq⟩:=HV.out (by omega)
   have hx1:=HI.out _ (List.getElem_mem hlt)
   have hx2:=HP.out _ (List.getElem_mem hlt)
   have d0:=hq _ _ (rowK_cell wcell 3 (fun _=>rfl) L k hlt 0 (by decide))
   have d1:=hq _ _ (rowK_cell wcell 3 (fun _=>rfl) L k hlt 1 (by decide))
   have d2:=hq _ _ (rowK_cell wcell 3 (fun _=>rfl) L k hlt 2 (by decide))
   have HT:Hid (((L.map evT_).take (k+1)).map encStr=((L.map evT_).take k).map encStr++[encStr (evT_ L[k])]):=by
    show _=_
    rw [take_enc (by rw [List.length_map];exact hlt),List.getElem_map]
   generalize L[k]=x at *
   have c0:wr.cell? ⟨q,k*3,none⟩=some (.int .i64 x.sess):=HXR.out.cell d0 (fun f=>f)
   have c1:wr.cell? ⟨q,k*3+1,none⟩=some (.string x.path):=HXR.out.cell d1 (fun f=>f)
   have c2:wr.cell? ⟨q,k*3+2,none⟩=some (.int .i64 x.kind):=HXR.out.cell d2 (fun f=>f)
   have HX1:=Lib.hid hx1
   clear d0 d1 d2 hq hx1
   go_upto_region 5 with (fail)
   obtain ⟨W,hW⟩:∃ W,wr.alloc (.cells #[.int .i64 x.sess, .string x.path, .int .i64 x.kind] evT)=W:=⟨_,rfl⟩
   have hxW:Ext wr W:=by rw [← hW];exact (Kp.refl (fun _=>False) wr).alloc _
   have hbx:Blk W wr.heap.size #[.int .i64 x.sess, .string x.path, .int .i64 x.kind] evT:=by rw [← hW];exact heap_alloc_new wr _
   rw [hW]
   have HBX:=Lib.hid hbx
   have HXS:Hid (wr.heap.size<W.heap.size):=hbx.lt
   have HXW:=Lib.hid (HXR.out.next hxW (fun _ _ f=>f.elim))
   have HOW5:=Lib.hid (ownsRow.ext HOW.out hxW)
   have HOB:Hid (∀ i,(Value.slice va5 k vc5).ownBlock=some i→i≠wr.heap.size):=fun i hi e=>by
    have:=(own_in HOW.out hi).2
    omega
   clear hW hxW hbx c0 c1 c2
   obtain ⟨I,hI⟩:∃ I,bA (Go.Lib.itoa x.kind)=I:=⟨_,rfl⟩
   have hIs:I.size≤21:=by rw [← hI];exact itoa_size HX1.out
   have HIT:Hid (∀ wq,Ext w1 wq→Calls Tryz.prog 219 #[.int .i64 x.kind] wq fun e w'=>e=.returned (.string I)∧Ext wq w'):=fun wq hq=>by
    rw [← hI]
    exact ItoaI_any x.kind HX1.out wq ((HG.out.ext H1.out.ex).ext hq)
   have HZ:Hid (encStr (evT_ x)=.string ((I++⟨#[32]⟩)++x.path)):=by
    show Value.string _=_
    congr 1
    rw [← hI]
    apply bytes_eq
    simp [evT_,bA]
   have s1:∀ wx,(Op.stringOp .add I ⟨#[32]⟩).run Tryz.prog wx=.ok (.string (I++⟨#[32]⟩)) wx:=fun wx=>run_string_add_sum (P:=Tryz.prog) wx _ _ (by have:(⟨#[32]⟩:ByteArray).size=1:=rfl;omega)
   have hJs:(I++⟨#[32]⟩:ByteArray).size≤22:=by rw [ByteArray.size_append];have:(⟨#[32]⟩:ByteArray).size=1:=rfl;omega
   have s2:∀ wx,(Op.stringOp .add (I++⟨#[32]⟩) x.path).run Tryz.prog wx=.ok (.string ((I++⟨#[32]⟩)++x.path)) wx:=fun wx=>run_string_add_sum (P:=Tryz.prog) wx _ _ (by omega)
   have HONE:Hid (∀ y∈[Value.string ((I++⟨#[32]⟩)++x.path)],y.oneCell'=true):=fun y hy=>by
    rw [List.mem_singleton] at hy
    rw [hy]
    rfl
   obtain ⟨E0,hE0⟩:∃ E0,((L.map evT_).take k).map encStr=E0:=⟨_,rfl⟩
   rw [hE0] at HOW5 HT
   clear hI hE0 HX1
   obtain ⟨J,hJ⟩:∃ J,I++⟨#[32]⟩=J:=⟨_,rfl⟩
   rw [hJ] at s1 hJs s2 HZ HONE
   obtain ⟨Z,hZ⟩:∃ Z,J++x.path=Z:=⟨_,rfl⟩
   rw [hZ] at s2 HZ HONE
   clear hJ hZ
   refine' Av.X.wp_region_dagG (fun i=>(Value.slice va5 k vc5).ownBlock=some i) 10 [(25,[901,24],[])] [901] ((16, .val _)::(17, .val _)::(18, .val _)::(19, .val _)::(20, .val _)::(21, .val _)::(22, .val _)::(23, .val _)::(24,⟨fun _=>True,fun v w'=>BoxL W.heap.size strT 1 [Value.string Z] v w'⟩)::(25,⟨fun v=>∃ a c,v=.slice a (k+1) c,fun v w'=>w'.ownsRow w1.heap.size strT 1 v (k+1) (E0++[Value.string Z])⟩)::(901,⟨fun _=>True,fun _ w'=>w'.ownsRow w1.heap.size strT 1 (.slice va5 k vc5) k E0⟩)::[]) (by exact ⟨fun _ _ _ _ _=>trivial,⟨fun _ _ _ _ _=>trivial,⟨fun _ _ _ _ _=>trivial,⟨fun _ _ _ _ _=>trivial,⟨fun _ _ _ _ _=>trivial,⟨fun _ _ _ _ _=>trivial,⟨fun _ _ _ _ _=>trivial,⟨fun _ _ _ _ _=>trivial,⟨fun _ _ _ hr hv=>hv.ext hr,⟨fun _ _ _ hr hv=>ownsRow.ext hv hr,⟨fun _ _ _ hr hv=>ownsRow.ext hv hr,trivial⟩⟩⟩⟩⟩⟩⟩⟩⟩⟩⟩) (by exact ⟨⟨undef,ownsRow.ext HOW5.out (Kp.refl _ _).drew⟩,trivial⟩) (by kernel_rfl) (by kernel_rfl) (by kernel_rfl) ?_
   rotate_left 8
   simp only [List.take_succ_cons,List.take_zero]
   repeat (first
    | (refine Av.X.wpD_skipv ?_ ?_ ?_
       focus rfl
       focus rfl
       simp only [Act.put,List.setIfInBounds_toArray,List.set_cons_succ,List.set_cons_zero])
    | (refine' Av.X.wpD_val (c:=_) ?_ (fun w=>Kp.refl _ w) ?_ (fun wq hwq hfz=>?_) ?_
       rotate_left
       focus rfl
       focus rfl
       focus (have hfq:=hfz.at_;have hcq:=hfz.use;(have hbq:=HBX.out.kp hwq (fun f=>by have:=HXS.out;rcases f with f|f;(focus omega);(focus exact HOB.out _ f rfl));have c1:=hbq.cell 1 _ rfl;have c2:=hbq.cell 2 _ rfl);go_simp;first|done|rfl)
       simp only [Act.put,List.setIfInBounds_toArray,List.set_cons_succ,List.set_cons_zero])
    | (refine' Av.X.wpD_con (c:=_) ?_ ?_ (fun wq hwq hfz=>?_) ?_
       rotate_left
       focus rfl
       focus rfl
       focus (have hfq:=hfz.at_;have hcq:=hfz.use;(have hbq:=HBX.out.kp hwq (fun f=>by have:=HXS.out;rcases f with f|f;(focus omega);(focus exact HOB.out _ f rfl));have c1:=hbq.cell 1 _ rfl;have c2:=hbq.cell 2 _ rfl);go_simp;(try (rw [dUpon_enter]));((with_reducible refine (HIT.out wq (HXW.out.next hwq (fun i hi f=>by have:=HXW.out.size;rcases f with f|f;(focus omega);(focus (have:=(own_in HOW5.out f).1;omega))))).mono ?_);rintro e w' ⟨rfl,hx⟩;exact DEnd.con hx))
       simp only [Act.put,List.setIfInBounds_toArray,List.set_cons_succ,List.set_cons_zero])
    | (refine Av.X.wpD_made (A:=fun _=>True) (V:=fun v w'=>BoxL W.heap.size strT 1 [Value.string Z] v w') 24 ?_ ?_ ?_ ?_ (fun wq hwq hfz=>?_) (fun v24 h24=>?_)
       focus rfl
       focus rfl
       focus (exact ⟨undef,trivial⟩)
       focus rfl
       focus (have hfq:=hfz.at_;have hcq:=hfz.use;(have hbq:=HBX.out.kp hwq (fun f=>by have:=HXS.out;rcases f with f|f;(focus omega);(focus exact HOB.out _ f rfl));have c1:=hbq.cell 1 _ rfl;have c2:=hbq.cell 2 _ rfl);go_simp;(try (rw [dUpon_enter]));rw [dUpon_value];exact mPost trivial (BoxL.new hwq.size) ((Kp.refl _ _).alloc _))
       clear h24
       simp only [Act.put,List.setIfInBounds_toArray,List.set_cons_succ,List.set_cons_zero])
    | (refine Av.X.wpD_used (A:=fun v=>∃ a c,v=.slice a (k+1) c) (V:=fun v w'=>w'.ownsRow w1.heap.size strT 1 v (k+1) (E0++[Value.string Z])) 25 ?_ ?_ ?_ ?_ (fun wq hwq hfz=>?_) (fun v25 h25=>?_)
       focus rfl
       focus rfl
       focus (exact ⟨.slice none (k+1) 0,_,_,rfl⟩)
       focus rfl
       focus (have hfq:=hfz.at_;have hcq:=hfz.use;(have hbq:=HBX.out.kp hwq (fun f=>by have:=HXS.out;rcases f with f|f;(focus omega);(focus exact HOB.out _ f rfl));have c1:=hbq.cell 1 _ rfl;have c2:=hbq.cell 2 _ rfl);have hrow:wq.ownsRow w1.heap.size strT 1 (.slice va5 k vc5) k E0:=(hcq 901 rfl).elim (fun _ h=>h);refine dUpon_app (d:=25) rfl (by kernel_rfl) 36 strT 1 (by decide) str_factsR rfl _ _ rfl w1.heap.size (.slice va5 k vc5) k _ rfl hrow v24 1 [Value.string Z] rfl (BoxL.sl (k:=1) (hfq 24 rfl) rfl (by decide)).1 (BoxL.sl (k:=1) (hfq 24 rfl) rfl (by decide)).2 HONE.out (by omega) (by have:=hwq.size;have:=HXW.out.size;omega) (fun v' w' h1 h2=>⟨owns_slice h1,h1,h2.mono (fun i _ e=>.inr e), ?_⟩);repeat (first|exact PresL.nil|(with_reducible refine PresL.val ?_)|(refine PresL.out rfl ?_)))
       obtain ⟨aN,cN,rfl⟩:=h25
       simp only [Act.put,List.setIfInBounds_toArray,List.set_cons_succ,List.set_cons_zero])
    | fail)
   refine Av.X.wpD_nil ?_
   intro w7 hr7 hend
   have hN:w7.ownsRow w1.heap.size strT 1 (.slice aN (k+1) cN) (k+1) (E0++[Value.string Z]):=hend 25 (by kernel_rfl)
   have HN:=Lib.hid hN
   have HX7:=Lib.hid (HXW.out.next hr7 (fun i hi f=>by have:=HXW.out.size;rcases f with f|f;(focus omega);(focus (have:=(own_in HOW5.out f).1;omega))))
   clear hend hN hr7 s1 s2
   go_wp2_with (fail)
   go_light
   refine ⟨⟨k+1,by rw [List.length_map];omega,by go_num, ?_,HX7.out⟩,by simp [intOf];omega⟩
   rw [HT.out,HZ.out]
   exact HN.out
  ·have hk2:k=L.length:=by omega
   subst hk2
   have ht:(L.map evT_).take L.length=L.map evT_:=List.take_of_length_le (by rw [List.length_map];exact Nat.le_refl _)
   rw [ht] at HOW
   have hsl:=Sl.of_owns HOW.out
   have hll:Go.Lib.lens (L.map evT_)+(L.map evT_).length*1≤140737488355328:=by
    have h1:=lens_le (B:=1000100) (L.map evT_) fun y hy=>by
     obtain ⟨x,hx,rfl⟩:=List.mem_map.1 hy
     have h2:=HP.out x hx
     have h3:=Go.Lib.itoa_length_le x.kind (HI.out x hx).1 (HI.out x hx).2
     rw [Lib.size_eq] at h2
     unfold evT_
     rw [List.length_append,List.length_cons]
     omega
    rw [List.length_map] at h1 ⊢
    omega
   have HJ2:=Lib.hid (JoinL_any ⟨#[59]⟩ _ (L.map evT_) wr (by rw [List.length_map];exact hsl) (by rw [List.length_map];omega) hll)
   clear hsl ht hll
   go_wp2_with (fail)
   refine HJ2.out.mono ?_
   rintro e w2 ⟨rfl,hx2⟩
   go_wp2_with (fail)
   go_ret
   have hxx:=HXR.out.trans hx2
   refine ⟨?_, ?_,H2.out.asd.trans (Asd.of hxx)⟩
   ·rw [HD.out.1]
    rfl
   ·rw [HD.out.2]
    exact (H1.out.ext hxx).more
end Go.Proofs.YtnlefnhdhigecaaGreatDoor

