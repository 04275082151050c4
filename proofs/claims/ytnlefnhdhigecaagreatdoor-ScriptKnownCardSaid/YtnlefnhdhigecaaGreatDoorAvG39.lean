/- Texts put together: AvScrO, AvScrQ. -/
import Derived.Test.YtnlefnhdhigecaaGreatDoorAvG38
import Derived.Lib.Builder
import Derived.Lib.AppendStr
namespace Go.Proofs.YtnlefnhdhigecaaGreatDoor
set_option maxRecDepth 100000
open Go.RowKit Av
structure NdB (M:Nat) (n:NodeV):Prop where
 ver:0≤n.ver∧n.ver≤2147483647
 kids:0≤n.kids∧n.kids≤2147483647
 own:0≤n.own∧n.own≤1000000
 data:n.data.size≤1000000
 few:n.names.length≤M
 names:∀ y∈n.names,y.length≤40
theorem NdB.mono {M K:Nat} {n:NodeV} (h:NdB M n) (k:M≤K):NdB K n:=⟨h.ver,h.kids,h.own,h.data,Nat.le_trans h.few k,h.names⟩
theorem NdB.zero (M:Nat):NdB M ndZ:=⟨by decide,by decide,by decide,by decide,Nat.zero_le _,fun y hy=>by cases hy⟩
theorem more_bd {n:Int} (h:0≤n∧n≤2147483647):0≤moreI n∧moreI n≤2147483647:=by
 unfold moreI
 split
 ·exact h
 ·omega
theorem NdB.new (M:Nat) {z o:Int} {d:ByteArray} (h:0≤o∧o≤1000000) (hd:d.size≤1000000):NdB M (ndNew z o d):=⟨by show (0:Int)≤0∧(0:Int)≤_;omega,by show (0:Int)≤0∧(0:Int)≤_;omega,h,hd,Nat.zero_le _,fun y hy=>by cases hy⟩
theorem NdB.write {M:Nat} {n:NodeV} (h:NdB M n) (z:Int) {d:ByteArray} (hd:d.size≤1000000):NdB M (ndWrite n z d):=⟨more_bd h.ver,h.kids,h.own,hd,h.few,h.names⟩
theorem ins_len (l:List Bs) (k:Nat) (x:Bs):(insN l k x).length≤l.length+1:=by
 unfold insN
 simp only [List.length_append,List.length_cons,List.length_take,List.length_drop]
 omega
theorem NdB.add {M:Nat} {n:NodeV} (h:NdB M n) {x:Bs} (hx:x.length≤40):NdB (M+1) (ndAdd n x):=by
 have hf:(ndAdd n x).names.length≤M+1:=by
  unfold ndAdd
  split
  ·exact Nat.le_succ_of_le h.few
  ·exact Nat.le_trans (ins_len _ _ _) (Nat.succ_le_succ h.few)
 have hn:∀ y∈(ndAdd n x).names,y.length≤40:=fun y hy=>by
  rcases add_mem.1 hy with hy|rfl
  ·exact h.names y hy
  ·exact hx
 unfold ndAdd at hf hn ⊢
 split
 ·exact h.mono (Nat.le_succ _)
 ·rename_i hc
  rw [if_neg hc] at hf hn
  exact ⟨h.ver,more_bd h.kids,h.own,h.data,hf,hn⟩
theorem NdB.rem {M:Nat} {n:NodeV} (h:NdB M n) (x:Bs):NdB M (ndRem n x):=by
 unfold ndRem
 split
 ·have hs:(delN n.names (lessN x n.names)).Sublist n.names:=delN_sub _ _
  exact ⟨h.ver,more_bd h.kids,h.own,h.data,Nat.le_trans hs.length_le h.few,fun y hy=>h.names y (hs.subset hy)⟩
 ·exact h
def LB (M:Nat) (L:RL):Prop:=∀ e∈L,NdB M e.2∧e.1.size≤1000000
theorem LB.mono {M K:Nat} {L:RL} (h:LB M L) (k:M≤K):LB K L:=fun e he=>⟨(h e he).1.mono k,(h e he).2⟩
theorem LB.tell {M K:Nat} {L:RL} (h:LB M L) (k:M≤K) {f:NodeV→Bs→NodeV} {p:ByteArray} (hf:∀ n,parentL p.data.toList≠none→NdB M n→NdB K (f n (lastL p.data.toList))):LB K (tellL f L p):=by
 unfold tellL
 split
 ·exact h.mono k
 ·rename_i up hu
  split
  ·exact h.mono k
  ·rename_i n hn
   intro e he
   rcases List.mem_or_eq_of_mem_set he with he|rfl
   ·exact h.mono k e he
   ·exact ⟨hf n (by rw [hu];simp) (h _ (mget_mem hn)).1,(h _ (mget_mem hn)).2⟩
theorem LB.del {M:Nat} {L:RL} (h:LB M L) (k:Nat):LB M (delR L k):=fun e he=>by
 unfold delR at he
 rcases List.mem_append.1 he with he|he
 ·exact h e (List.mem_of_mem_take he)
 ·exact h e (List.mem_of_mem_drop he)
theorem LB.put {M:Nat} {L:RL} (h:LB M L) (k:Nat) {e:ByteArray×NodeV} (he:NdB M e.2∧e.1.size≤1000000):LB M (putR L k e):=fun x hx=>by
 unfold putR at hx
 rcases List.mem_append.1 hx with hx|hx
 ·exact h x (List.mem_of_mem_take hx)
 ·rcases List.mem_cons.1 hx with rfl|hx
  ·exact he
  ·exact h x (List.mem_of_mem_drop hx)
def ErrB (e:Int):Prop:=0≤e∧e≤20
structure RsB (M:Nat) (x:Rp):Prop where
 err:ErrB x.err
 st:NdB M x.st
 path:x.path.size≤1000000
 data:x.data.size≤1000000
 few:x.names.length≤M
 names:∀ y∈x.names,y.length≤40
theorem RsB.mono {M K:Nat} {x:Rp} (h:RsB M x) (k:M≤K):RsB K x:=⟨h.err,h.st.mono k,h.path,h.data,Nat.le_trans h.few k,h.names⟩
theorem RsB.fail (M:Nat) {z:Int} (h:ErrB z):RsB M (failR z):=⟨h,NdB.zero M,by show (0:Nat)≤_;omega,by show (0:Nat)≤_;omega,Nat.zero_le _,fun y hy=>by cases hy⟩
theorem goodO_err (o:OpV):ErrB (goodO o):=by
 unfold goodO ErrB
 repeat' split
 all_goals omega
theorem place_err (room:Int) (t:Pt) (p:ByteArray) (f:Int):ErrB (placeP room t p f).2:=by
 have hf:∀ q,ErrB (finQ room t q).2:=fun q=>by
  unfold finQ ErrB
  repeat' split
  all_goals (simp only;omega)
 unfold placeP
 repeat' split
 all_goals first|exact hf _|(unfold ErrB;simp only;omega)
theorem own_bd {f sess:Int} (h:0≤sess∧sess≤1000000):0≤ownF f sess∧ownF f sess≤1000000:=by
 unfold ownF
 split<;>omega
theorem doL_bd {M:Nat} {L:RL} (h:LB M L) (room:Int) (o:OpV) {sess:Int} (z:Int) (hs:sess≤1000000) (hp:o.path.size≤1000000):LB (M+1) (doL room L o sess z).1∧RsB (M+1) (doL room L o sess z).2:=by
 have hm:=h.mono (Nat.le_succ M)
 unfold doL
 split
 ·exact ⟨hm,RsB.fail _ (goodO_err o)⟩
 ·rename_i hg
  have hd:o.data.size≤1000000:=by
   have:=goodO_data (Classical.not_not.1 hg)
   omega
  split
  ·exact ⟨hm,RsB.fail _ ⟨by omega,by omega⟩⟩
  ·rename_i hsz
   split
   ·unfold createL
    simp only
    split
    ·exact ⟨hm,RsB.fail _ (place_err ..)⟩
    ·have hn:NdB (M+1) (ndNew z (ownF o.flags sess) o.data):=NdB.new _ (own_bd (by omega)) hd
     refine ⟨LB.put (LB.tell h (Nat.le_succ M) fun n hpar hn=>hn.add ?_) _ ⟨hn,place_path hp⟩,⟨⟨by show (0:Int)≤0;omega,by show (0:Int)≤20;omega⟩,hn,place_path hp,by show (0:Nat)≤_;omega,Nat.zero_le _,fun y hy=>by cases hy⟩⟩
     exact name_len (last_name (par_good hpar))
   ·split
    ·unfold changeL
     split
     ·exact ⟨hm,RsB.fail _ ⟨by omega,by omega⟩⟩
     ·rename_i n hn
      have hnb:=(hm _ (mget_mem hn)).1
      split
      ·exact ⟨hm,RsB.fail _ ⟨by omega,by omega⟩⟩
      ·split
       ·split
        ·exact ⟨hm,RsB.fail _ ⟨by omega,by omega⟩⟩
        ·exact ⟨LB.tell (hm.del _) (Nat.le_refl _) fun n _ hn=>hn.rem _,⟨⟨by show (0:Int)≤0;omega,by show (0:Int)≤20;omega⟩,NdB.zero _,hp,by show (0:Nat)≤_;omega,Nat.zero_le _,fun y hy=>by cases hy⟩⟩
       ·split
        ·have hw:=hnb.write z hd
         refine ⟨fun e he=>?_,⟨⟨by show (0:Int)≤0;omega,by show (0:Int)≤20;omega⟩,hw,hp,by show (0:Nat)≤_;omega,Nat.zero_le _,fun y hy=>by cases hy⟩⟩
         rcases List.mem_or_eq_of_mem_set he with he|rfl
         ·exact hm e he
         ·exact ⟨hw,hp⟩
        ·exact ⟨hm,⟨⟨by show (0:Int)≤0;omega,by show (0:Int)≤20;omega⟩,NdB.zero _,hp,by show (0:Nat)≤_;omega,Nat.zero_le _,fun y hy=>by cases hy⟩⟩
    ·unfold readP
     split
     ·exact ⟨hm,RsB.fail _ ⟨by omega,by omega⟩⟩
     ·rename_i n hn
      have hnb:=(hm _ (mget_mem hn)).1
      refine ⟨hm,⟨⟨by show (0:Int)≤0;omega,by show (0:Int)≤20;omega⟩,hnb,hp, ?_, ?_, ?_⟩⟩
      ·show (if o.kind=5 then n.data else (⟨#[]⟩:ByteArray)).size≤_
       split
       ·exact hnb.data
       ·show (0:Nat)≤_;omega
      ·show (if o.kind=7 then n.names else []).length≤_
       split
       ·exact hnb.few
       ·exact Nat.zero_le _
      ·show ∀ y∈(if o.kind=7 then n.names else []),_
       split
       ·exact hnb.names
       ·intro y hy;cases hy
theorem runL_bd (room:Int) {sess:Int} (z:Int) (hs:sess≤1000000):∀ (ops:List OpV) {M:Nat} {L:RL},LB M L→OpsS ops→LB (M+ops.length) (runL room sess z L ops).1∧(∀ x∈(runL room sess z L ops).2.1,RsB (M+ops.length) x)∧ErrB (runL room sess z L ops).2.2
 | [],M,L,h,_=>⟨h,fun x hx=>(by cases hx),⟨by show (0:Int)≤0;omega,by show (0:Int)≤20;omega⟩⟩
 | o::os,M,L,h,hz=>by
   obtain ⟨h1,h2⟩:=doL_bd h room o z hs (hz o (List.mem_cons_self ..)).1
   unfold runL
   split
   ·exact ⟨h1.mono (by simp only [List.length_cons];omega),fun x hx=>(by cases hx),h2.err⟩
   ·obtain ⟨h3,h4,h5⟩:=runL_bd room z hs os h1 (fun x hx=>hz x (List.mem_cons_of_mem _ hx))
    have e:M+1+os.length=M+(o::os).length:=by simp only [List.length_cons];omega
    rw [e] at h3 h4
    refine ⟨h3,fun x hx=>?_,h5⟩
    rcases List.mem_cons.1 hx with rfl|hx
    ·exact h2.mono (by simp only [List.length_cons];omega)
    ·exact h4 x hx
theorem runL_few (room:Int) (sess z:Int):∀ (ops:List OpV) (L:RL),(runL room sess z L ops).2.1.length≤ops.length
 | [],L=>Nat.le_refl _
 | o::os,L=>by
   have:=runL_few room sess z os (doL room L o sess z).1
   unfold runL
   split
   ·exact Nat.zero_le _
   ·simp only [List.length_cons];omega
structure RplB (M:Nat) (r:RpV):Prop where
 err:ErrB r.err
 at_ : -1≤r.at_∧r.at_≤100
 len:r.res.length≤16
 res:∀ x∈r.res,RsB M x
theorem RplB.mono {M K:Nat} {r:RpV} (h:RplB M r) (k:M≤K):RplB K r:=⟨h.err,h.at_,h.len,fun x hx=>(h.res x hx).mono k⟩
theorem RplB.fail (M:Nat) (num:Int) {e at_:Int} (n:Int) (he:ErrB e) (ha : -1≤at_∧at_≤100):RplB M (failRp num e at_ n):=by
 refine ⟨he,ha, ?_, ?_⟩
 ·show (if n<0∨16<n then [] else failRs e at_ n.toNat).length≤16
  split
  ·exact Nat.zero_le _
  ·rw [failRs_len];omega
 ·show ∀ x∈(if n<0∨16<n then [] else failRs e at_ n.toNat),RsB M x
  split
  ·intro x hx;cases hx
  ·intro x hx
   unfold failRs at hx
   obtain ⟨i,_,rfl⟩:=List.mem_map.1 hx
   refine RsB.fail M ?_
   split
   ·exact he
   ·exact ⟨by omega,by omega⟩
theorem RplB.same {M:Nat} {r:RpV} (h:RplB M r) (num z:Int):RplB M { r with num:=num,zxid:=z }:=⟨h.err,h.at_,h.len,h.res⟩
theorem multi_bd {M:Nat} {L:RL} (h:LB M L) (room:Int) {sess:Int} (z:Int) {ops:List OpV} (hs:sess≤1000000) (hz:OpsS ops):LB (M+16) (multiL room L sess z ops).1∧RplB (M+16) (multiL room L sess z ops).2.1:=by
 have hm:LB (M+16) L:=h.mono (by omega)
 unfold multiL
 split
 ·exact ⟨hm,RplB.fail _ _ _ ⟨by omega,by omega⟩ ⟨by omega,by omega⟩⟩
 ·rename_i h16
  split
  ·exact ⟨hm,RplB.fail _ _ _ ⟨by omega,by omega⟩ ⟨by omega,by omega⟩⟩
  ·obtain ⟨h1,h2,h3⟩:=runL_bd room z hs ops h hz
   have hf:=runL_few room sess z ops L
   split
   ·exact ⟨hm,RplB.fail _ _ _ h3 ⟨by omega,by omega⟩⟩
   ·exact ⟨h1.mono (by omega),⟨⟨by show (0:Int)≤0;omega,by show (0:Int)≤20;omega⟩,⟨by show (-1:Int)≤-1;omega,by show (-1:Int)≤100;omega⟩,by show (runL room sess z L ops).2.1.length≤16;omega,fun x hx=>(h2 x hx).mono (by omega)⟩⟩
theorem mayR_err (sess num:Int) (ops:List OpV):ErrB (mayR sess num ops):=by
 unfold mayR
 split
 ·exact ⟨by omega,by omega⟩
 ·split
  ·exact ⟨by omega,by omega⟩
  ·split
   ·exact goodO_err _
   ·split
    ·exact ⟨by omega,by omega⟩
    ·exact ⟨by omega,by omega⟩
theorem request_bd {M:Nat} {L:RL} (h:LB M L) (room:Int) {sess:Int} (num z:Int) {ops:List OpV} (hs:sess≤1000000) (hz:OpsS ops):LB (M+16) (requestL room L sess num z ops).1∧RplB (M+16) (requestL room L sess num z ops).2:=by
 unfold requestL
 split
 ·exact ⟨h.mono (by omega),RplB.fail _ _ _ (mayR_err ..) ⟨by omega,by omega⟩⟩
 ·obtain ⟨h1,h2⟩:=multi_bd h room z hs hz
  exact ⟨h1,h2.same num z⟩
theorem request_zx (room:Int) (L:RL) (sess num z:Int) (ops:List OpV):(requestL room L sess num z ops).2.zxid=z∨(requestL room L sess num z ops).2.zxid=0:=by
 unfold requestL
 split
 ·exact .inr rfl
 ·exact .inl rfl
structure EvB (x:Wt):Prop where
 kind:0≤x.kind∧x.kind≤4
 path:x.path.size≤1000000
structure PB (M:Nat) (s:SoV):Prop where
 tr:LB M s.tr
 last:∀ q r,mget s.last q=some r→RplB M r∧0≤r.zxid∧r.zxid≤s.zx
 ev:∀ q,∀ x∈s.ev q,EvB x
 wl:∀ x∈s.wl,x.path.size≤1000000
theorem PB.mono {M K:Nat} {s:SoV} (h:PB M s) (k:M≤K):PB K s:=⟨h.tr.mono k,fun q r hr=>⟨(h.last q r hr).1.mono k,(h.last q r hr).2⟩,h.ev,h.wl⟩
theorem PB.zero (room:Int):PB 0 (soZ room):=⟨fun e he=>(by cases he),fun q r hr=>(by cases hr),fun q x hx=>(by cases hx),fun x hx=>(by cases hx)⟩
theorem evG_bd {p up:ByteArray} {ch:Int} (h:1≤ch∧ch≤3) (x:Wt):0≤evG p up ch x∧evG p up ch x≤4:=by
 unfold evG
 repeat' split
 all_goals omega
theorem fireT_bd {p:ByteArray} {ch:Int} {l:List Wt} (h:∀ x∈l,x.path.size≤1000000):∀ x∈fireT p ch l,EvB x:=by
 unfold fireT
 split
 ·rename_i hf
  have hf:=(fireOk_iff p ch).1 hf
  intro x hx
  unfold toldW at hx
  obtain ⟨y,hy,he⟩:=List.mem_filterMap.1 hx
  split at he
  ·cases he
  ·cases he
   exact ⟨evG_bd hf.2 y,h y (sortW_mem.1 hy)⟩
 ·intro x hx;cases hx
theorem fireG_bd {p:ByteArray} {ch:Int} {l:List Wt} (h:∀ x∈l,x.path.size≤1000000):∀ x∈fireG p ch l,x.path.size≤1000000:=by
 unfold fireG
 split
 ·intro x hx
  unfold restW at hx
  exact h x (sortW_mem.1 (List.mem_filter.1 hx).1)
 ·exact h
theorem addEv_bd (ss:SsV):∀ (l:List Wt) (ev:Int→List Wt),(∀ x∈l,EvB x)→(∀ q,∀ x∈ev q,EvB x)→∀ q,∀ x∈l.foldl (addEv ss) ev q,EvB x
 | [],ev,_,h=>h
 | e::l,ev,hl,h=>by
   refine addEv_bd ss l _ (fun x hx=>hl x (List.mem_cons_of_mem _ hx)) fun q x hx=>?_
   unfold addEv at hx
   split at hx
   ·simp only at hx
    split at hx
    ·rcases List.mem_append.1 hx with hx|hx
     ·exact h q x hx
     ·rw [List.mem_singleton.1 hx]
      exact hl e (List.mem_cons_self ..)
    ·exact h q x hx
   ·exact h q x hx
theorem PB.fire {M:Nat} {s:SoV} (h:PB M s) (p:ByteArray) (ch:Int):PB M (fireS s p ch):=⟨h.tr,h.last,addEv_bd _ _ _ (fireT_bd h.wl) h.ev,fireG_bd h.wl⟩
theorem PB.gone {M:Nat}:∀ (l:List ByteArray) {s:SoV},PB M s→PB M (goneS s l)
 | [],_,h=>h
 | p::l,_,h=>PB.gone l (h.fire p 2)
theorem remL_bd {M:Nat} {L:RL} (h:LB M L) (p:ByteArray):LB M (remL L p):=by
 unfold remL
 refine LB.tell (M:=M) ?_ (Nat.le_refl _) (fun n _ hn=>hn.rem _)
 split
 ·exact h
 ·exact h.del _
theorem rems_bd {M:Nat}:∀ (l:List ByteArray) {L:RL},LB M L→LB M (l.foldl remL L)
 | [],_,h=>h
 | p::l,_,h=>rems_bd l (remL_bd h p)
theorem PB.ended {M:Nat} {s:SoV} (h:PB M s) (id:Int):PB M (endS s id):=by
 have h1:PB M { s with zx:=s.zx+1,tr:=(purgeL s.tr id).1 }:=⟨rems_bd _ h.tr,fun q r hr=>by
  have:=h.last q r hr
  exact ⟨this.1,this.2.1,by show r.zxid≤s.zx+1;omega⟩,h.ev,h.wl⟩
 have h2:=PB.gone (purgeL s.tr id).2 h1
 refine ⟨h2.tr,fun q r hr=>?_,fun q x hx=>?_,fun x hx=>?_⟩
 ·refine h2.last q r ?_
  have hr:mget (mdel _ id) q=some r:=hr
  rw [mget_mdel] at hr
  split at hr
  ·cases hr
  ·exact hr
 ·have hx:x∈(if q=id then [] else (goneS { s with zx:=s.zx+1,tr:=(purgeL s.tr id).1 } (purgeL s.tr id).2).ev q):=hx
  split at hx
  ·cases hx
  ·exact h2.ev q x hx
 ·exact h2.wl x (List.mem_filter.1 hx).1
theorem PB.ends {M:Nat}:∀ (l:List Int) {s:SoV},PB M s→PB M (l.foldl endS s)
 | [],_,h=>h
 | id::l,_,h=>PB.ends l (h.ended id)
theorem PB.sess {M:Nat} {s:SoV} (h:PB M s) (ss:SsV):PB M { s with ss:=ss }:=⟨h.tr,h.last,h.ev,h.wl⟩
theorem PB.chs {M:Nat}:∀ (l:List (OpV×Rp)) {s:SoV},PB M s→PB M (l.foldl chStep s)
 | [],_,h=>h
 | x::l,s,h=>by
   refine PB.chs l ?_
   unfold chStep
   split
   ·exact h
   ·exact h.fire _ _
theorem chs_zl:∀ (l:List (OpV×Rp)) (s:SoV),(l.foldl chStep s).last=s.last∧(l.foldl chStep s).zx=s.zx
 | [],_=>⟨rfl,rfl⟩
 | x::l,s=>by
   obtain ⟨h1,h2⟩:=chs_zl l (chStep s x)
   have:(chStep s x).last=s.last∧(chStep s x).zx=s.zx:=by
    unfold chStep
    split<;>exact ⟨rfl,rfl⟩
   exact ⟨h1.trans this.1,h2.trans this.2⟩
theorem PB.done {M:Nat} {s:SoV} (h:PB M s) {sess:Int} (num:Int) {ops:List OpV} (hs:sess≤1000000) (hz:OpsS ops) (h0:0≤s.zx):PB (M+16) (doneS s sess num ops).1∧RplB (M+16) (doneS s sess num ops).2∧0≤(doneS s sess num ops).2.zxid∧(doneS s sess num ops).2.zxid≤s.zx+1:=by
 obtain ⟨h1,h2⟩:=request_bd h.tr s.room num (s.zx+1) hs hz
 have hzx:0≤(requestL s.room s.tr sess num (s.zx+1) ops).2.zxid∧(requestL s.room s.tr sess num (s.zx+1) ops).2.zxid≤s.zx+1:=by
  rcases request_zx s.room s.tr sess num (s.zx+1) ops with e|e<;>rw [e]<;>omega
 have h3:PB (M+16) { s with zx:=s.zx+1,tr:=(requestL s.room s.tr sess num (s.zx+1) ops).1 }:=⟨h1,fun q r hr=>by
  have:=h.last q r hr
  exact ⟨this.1.mono (by omega),this.2.1,by show r.zxid≤s.zx+1;omega⟩,h.ev,h.wl⟩
 have h4:PB (M+16) (changedS { s with zx:=s.zx+1,tr:=(requestL s.room s.tr sess num (s.zx+1) ops).1 } ops (requestL s.room s.tr sess num (s.zx+1) ops).2):=by
  unfold changedS
  split
  ·exact h3
  ·exact PB.chs _ h3
 have hz4:(changedS { s with zx:=s.zx+1,tr:=(requestL s.room s.tr sess num (s.zx+1) ops).1 } ops (requestL s.room s.tr sess num (s.zx+1) ops).2).zx=s.zx+1:=by
  unfold changedS
  split
  ·rfl
  ·exact (chs_zl _ _).2
 refine ⟨⟨h4.tr,fun q r hr=>?_,h4.ev,h4.wl⟩,h2,hzx⟩
 have hr:mget (mset _ sess _) q=some r:=hr
 rw [mget_mset] at hr
 split at hr
 ·cases hr
  exact ⟨h2,hzx.1,by show _≤(changedS _ _ _).zx;rw [hz4];exact hzx.2⟩
 ·exact h4.last q r hr
theorem touch_ids {N:Nat} {ss:SsV} (h:SsOk N ss) {id:Int} (ht:(touchS ss id).2=0):1≤id∧id≤N+1:=by
 unfold touchS at ht
 split at ht
 ·exact absurd ht (show ¬ (11:Int)=0 by decide)
 ·rename_i k hk
  obtain ⟨h1,h2⟩:=findS_lt hk
  have h3:=h.ids _ (List.getElem_mem h1)
  have h4:=h.next
  rw [h2] at h3
  omega
theorem ask_bd {N M:Nat} {s:SoV} (hok:SoOk N s) (hN:N≤90000) (h:PB M s) (sess num:Int) {ops:List OpV} (hz:OpsS ops) :
  PB (M+16) (askS s sess num ops).1∧RplB (M+16) (askS s sess num ops).2∧0≤(askS s sess num ops).2.zxid∧(askS s sess num ops).2.zxid≤s.zx+1:=by
 have h0:=hok.zx
 have hm:=h.mono (show M≤M+16 by omega)
 have zf:∀ e a n:Int,0≤(failRp num e a n).zxid∧(failRp num e a n).zxid≤s.zx+1:=fun e a n=>⟨by show (0:Int)≤0;omega,by show (0:Int)≤s.zx+1;omega⟩
 unfold askS
 split
 ·exact ⟨hm,RplB.fail _ _ _ (mayR_err ..) ⟨by omega,by omega⟩,zf _ _ _⟩
 ·split
  ·exact ⟨hm,RplB.fail _ _ _ ⟨by omega,by omega⟩ ⟨by omega,by omega⟩,zf _ _ _⟩
  ·rename_i ht
   have hid:=touch_ids hok.ss (Classical.not_not.1 ht)
   split
   ·exact PB.done (h.sess _) num (by omega) hz h0.1
   ·rename_i r hr
    split
    ·obtain ⟨e1,e2,e3⟩:=h.last _ _ hr
     exact ⟨hm.sess _,e1.mono (by omega),e2,by show r.zxid≤s.zx+1;omega⟩
    ·split
     ·exact ⟨hm.sess _,RplB.fail _ _ _ ⟨by omega,by omega⟩ ⟨by omega,by omega⟩,zf _ _ _⟩
     ·exact PB.done (h.sess _) num (by omega) hz h0.1
theorem RplB.ok {M:Nat} {r:RpV} (h:RplB M r) (hM:M≤100000) (hz:0≤r.zxid∧r.zxid≤1000000):RplOk r:=by
 have h1:=h.err
 have h2:=h.at_
 unfold ErrB at h1
 refine ⟨⟨by omega,by omega⟩,⟨by omega,by omega⟩,⟨by omega,by omega⟩,by have:=h.len;omega,fun x hx=>?_⟩
 have hx:=h.res x hx
 have e1:=hx.err
 unfold ErrB at e1
 have e2:=hx.st.ver
 have e3:=hx.st.kids
 have e4:=hx.st.own
 exact ⟨⟨by omega,by omega⟩,⟨by omega,by omega⟩,⟨by omega,by omega⟩,⟨by omega,by omega⟩,hx.path,hx.data,by have:=hx.few;omega,fun y hy=>by have:=hx.names y hy;omega⟩
def LineOk:SAct→Prop
 | .ask _ _ ops=>OpsS ops
 | .watch _ p _=>p.length≤1000000
 | _=>True
theorem tell_ok {N M:Nat} {s:SoV} (hok:SoOk N s) (hN:N≤80000) (h:PB M s) (hM:M≤90000) (a:SAct) (ha:LineOk a):TellOk s a∧PB (M+16) (doneT s a).2:=by
 have hm:=h.mono (show M≤M+16 by omega)
 match a,ha with
 | .opn n,_=>
   refine ⟨?_,hm.sess _⟩
   have h1:=hok.ss.next
   have h2:(0≤(openS s.ss n).2.1∧(openS s.ss n).2.1≤N+1)∧ErrB (openS s.ss n).2.2:=by
    unfold openS ErrB
    repeat' split
    all_goals (simp only;omega)
   have h3:(0≤(openO s n).2.1∧(openO s n).2.1≤N+1)∧ErrB (openO s n).2.2:=h2
   unfold ErrB at h3
   exact ⟨⟨by omega,by omega⟩,⟨by omega,by omega⟩⟩
 | .cls n,_=>
   have h2:ErrB (closeS s.ss n).2:=by
    unfold closeS ErrB
    split<;>(simp only;omega)
   have h3:ErrB (closeO s n).2:=by
    unfold closeO
    split
    ·exact h2
    ·exact ⟨by show (0:Int)≤0;omega,by show (0:Int)≤20;omega⟩
   unfold ErrB at h3
   refine ⟨⟨by omega,by omega⟩, ?_⟩
   show PB (M+16) (closeO s n).1
   unfold closeO
   split
   ·exact hm
   ·exact (hm.sess _).ended _
 | .tick,_=>
   refine ⟨⟨fun n hn=>?_, ?_⟩,PB.ends _ (hm.sess _)⟩
   ·have hn:n∈(s.ss.l.filter (overS (s.ss.now+1))).map (·.id):=hn
    obtain ⟨x,hx,rfl⟩:=List.mem_map.1 hn
    have h1:=hok.ss.ids x (List.mem_filter.1 hx).1
    have h2:=hok.ss.next
    exact ⟨by omega,by omega⟩
   ·show ((s.ss.l.filter (overS (s.ss.now+1))).map (·.id)).length≤1000000
    rw [List.length_map]
    have h1:=List.length_filter_le (overS (s.ss.now+1)) s.ss.l
    have h2:=hok.ss.len
    omega
 | .ask i n ops,ha=>
   obtain ⟨h1,h2,h3⟩:=ask_bd hok (by omega) h i n ha
   have h4:=hok.zx
   exact ⟨⟨ha,h2.ok (by omega) ⟨h3.1,by omega⟩⟩,h1⟩
 | .watch n p k,ha=>
   have h3:ErrB (watchO s ⟨n,bA p,k⟩).2:=by
    unfold watchO armE ErrB
    repeat' split
    all_goals (simp only;omega)
   unfold ErrB at h3
   refine ⟨⟨ha,⟨by omega,by omega⟩⟩, ?_⟩
   show PB (M+16) (watchO s ⟨n,bA p,k⟩).1
   unfold watchO
   split
   ·exact hm
   ·refine ⟨hm.tr,hm.last,hm.ev,fun x hx=>?_⟩
    have hx:x∈armG 1000 s.wl ⟨n,bA p,k⟩:=hx
    unfold armG at hx
    split at hx
    ·rcases List.mem_append.1 hx with hx|hx
     ·exact hm.wl x hx
     ·rw [List.mem_singleton.1 hx]
      show (bA p).size≤_
      rw [bA_size];exact ha
    ·exact hm.wl x hx
 | .evs n,_=>
   refine ⟨⟨fun x hx=>?_,fun x hx=>(h.ev n x hx).path, ?_⟩, ?_⟩
   ·have:=(h.ev n x hx).kind
    exact ⟨by omega,by omega⟩
   ·have:=hok.ev n
    omega
   ·refine ⟨hm.tr,hm.last,fun q x hx=>?_,hm.wl⟩
    have hx:x∈(if q=n then [] else s.ev q):=hx
    split at hx
    ·cases hx
    ·exact hm.ev q x hx
 | .paths,_=>exact ⟨trivial,hm⟩
theorem err_len {e:Int} (h:ErrB e):(errT e).length≤22:=by
 unfold ErrB at h
 unfold errT
 split
 ·decide
 ·have:=Go.Lib.itoa_length_le e (by omega) (by omega)
  rw [List.length_cons];omega
theorem joins_len {α:Type} (f:α→Bs) {B:Nat} (l:List α) (c:UInt8) (h:∀ x∈l,(f x).length≤B):(Go.Lib.join (l.map f) [c]).length≤l.length*B+l.length:=by
 have h1:=join_bnd (l.map f) [c]
 have h2:=lens_le (B:=B) (l.map f) (fun y hy=>by obtain ⟨x,hx,rfl⟩:=List.mem_map.1 hy;exact h x hx)
 have e:(l.map f).length*[c].length=(l.map f).length:=Nat.mul_one _
 rw [e] at h1
 rw [List.length_map] at h1 h2
 omega
theorem res_len {M:Nat} {x:Rp} (h:RsB M x) (hM:M≤100000):(resT x).length≤20000000:=by
 have e1:=h.err
 unfold ErrB at e1
 have e2:=h.st.ver
 have e3:=h.st.kids
 have e4:=h.st.own
 have e5:=h.path
 have e6:=h.data
 have e7:=h.few
 rw [Lib.size_eq] at e5 e6
 have hn:=joins_len (B:=40) (fun y:Bs=>y) x.names 44 h.names
 rw [List.map_id'] at hn
 have h1:=lens7 (A:=21) (B:=5000000) (Go.Lib.itoa_length_le x.err (by omega) (by omega)) (or_len x.path.data.toList (B:=5000000) (by omega) (by decide)) (or_len x.data.data.toList (B:=5000000) (by omega) (by decide)) (or_len (Go.Lib.join x.names [44]) (B:=5000000) (by omega) (by decide)) (Go.Lib.itoa_length_le x.st.ver (by omega) (by omega)) (Go.Lib.itoa_length_le x.st.kids (by omega) (by omega)) (Go.Lib.itoa_length_le x.st.own (by omega) (by omega))
 have h2:=join_bnd [Go.Lib.itoa x.err,orT x.path.data.toList,orT x.data.data.toList,orT (Go.Lib.join x.names [44]),Go.Lib.itoa x.st.ver,Go.Lib.itoa x.st.kids,Go.Lib.itoa x.st.own] [32]
 have e8:[Go.Lib.itoa x.err,orT x.path.data.toList,orT x.data.data.toList,orT (Go.Lib.join x.names [44]),Go.Lib.itoa x.st.ver,Go.Lib.itoa x.st.kids,Go.Lib.itoa x.st.own].length*[(32:UInt8)].length=7:=rfl
 unfold resT
 rw [List.length_cons]
 omega
theorem answer_len {M:Nat} {r:RpV} (h:RplB M r) (hM:M≤100000) (hz:0≤r.zxid∧r.zxid≤1000000):(answerT r).length≤1000000000:=by
 have e1:=h.err
 unfold ErrB at e1
 have e2:=h.at_
 have h1:=join_bnd [Go.Lib.itoa r.zxid,Go.Lib.itoa r.err,Go.Lib.itoa r.at_] [32]
 have h2:=lens_le (B:=21) [Go.Lib.itoa r.zxid,Go.Lib.itoa r.err,Go.Lib.itoa r.at_] (fun y hy=>by
  simp only [List.mem_cons,List.not_mem_nil,or_false] at hy
  rcases hy with rfl|rfl|rfl<;>exact Go.Lib.itoa_length_le _ (by omega) (by omega))
 have e3:[Go.Lib.itoa r.zxid,Go.Lib.itoa r.err,Go.Lib.itoa r.at_].length*[(32:UInt8)].length=3:=rfl
 have e4:[Go.Lib.itoa r.zxid,Go.Lib.itoa r.err,Go.Lib.itoa r.at_].length=3:=rfl
 rw [e4] at h2
 have h3:=flat_le resT (B:=20000000) r.res (fun x hx=>res_len (h.res x hx) hM)
 have h4:=h.len
 unfold answerT
 rw [List.length_append]
 omega
theorem line_len {N M:Nat} {s:SoV} (hok:SoOk N s) (hN:N≤80000) (h:PB M s) (hM:M≤90000) (hroom:s.tr.length≤10000) (a:SAct) (ha:LineOk a):(doneT s a).1.length≤100000000000:=by
 match a,ha with
 | .opn n,_=>
   have h1:=hok.ss.next
   have h2:(0≤(openO s n).2.1∧(openO s n).2.1≤N+1)∧ErrB (openO s n).2.2:=by
    show (0≤(openS s.ss n).2.1∧(openS s.ss n).2.1≤N+1)∧ErrB (openS s.ss n).2.2
    unfold openS ErrB
    repeat' split
    all_goals (simp only;omega)
   show (if (openO s n).2.2=0 then Go.Lib.itoa (openO s n).2.1 else errT (openO s n).2.2).length≤_
   split
   ·have:=Go.Lib.itoa_length_le (openO s n).2.1 (by omega) (by omega)
    omega
   ·have:=err_len h2.2
    omega
 | .cls n,_=>
   have h2:ErrB (closeO s n).2:=by
    unfold closeO
    split
    ·unfold closeS ErrB
     split<;>(simp only;omega)
    ·exact ⟨by show (0:Int)≤0;omega,by show (0:Int)≤20;omega⟩
   have:=err_len h2
   show (errT (closeO s n).2).length≤_
   omega
 | .tick,_=>
   have h1:(tickO s).2.length≤64:=by
    show ((s.ss.l.filter (overS (s.ss.now+1))).map (·.id)).length≤64
    rw [List.length_map]
    have h1:=List.length_filter_le (overS (s.ss.now+1)) s.ss.l
    have h2:=hok.ss.len
    omega
   have h2:=joins_len (B:=21) Go.Lib.itoa (tickO s).2 32 (fun n hn=>by
    have hn:n∈(s.ss.l.filter (overS (s.ss.now+1))).map (·.id):=hn
    obtain ⟨x,hx,rfl⟩:=List.mem_map.1 hn
    have h1:=hok.ss.ids x (List.mem_filter.1 hx).1
    have h2:=hok.ss.next
    exact Go.Lib.itoa_length_le _ (by omega) (by omega))
   show (Go.Lib.join ((tickO s).2.map Go.Lib.itoa) [32]).length≤_
   omega
 | .ask i n ops,ha=>
   obtain ⟨h1,h2,h3⟩:=ask_bd hok (by omega) h i n ha
   have h4:=hok.zx
   have:=answer_len h2 (by omega) ⟨h3.1,by omega⟩
   show (answerT (askS s i n ops).2).length≤_
   omega
 | .watch n p k,_=>
   have h3:ErrB (watchO s ⟨n,bA p,k⟩).2:=by
    unfold watchO armE ErrB
    repeat' split
    all_goals (simp only;omega)
   have:=err_len h3
   show (errT (watchO s ⟨n,bA p,k⟩).2).length≤_
   omega
 | .evs n,_=>
   have h1:=hok.ev n
   have h2:=joins_len (B:=1000100) evT_ (s.ev n) 59 (fun x hx=>by
    have h3:=(h.ev n x hx).kind
    have h4:=(h.ev n x hx).path
    have h5:=Go.Lib.itoa_length_le x.kind (by omega) (by omega)
    rw [Lib.size_eq] at h4
    unfold evT_
    rw [List.length_append,List.length_cons]
    omega)
   show (Go.Lib.join ((s.ev n).map evT_) [59]).length≤_
   omega
 | .paths,_=>
   have h2:=joins_len (B:=1000000) (fun e:ByteArray×NodeV=>e.1.data.toList) s.tr 32 (fun x hx=>by
    have:=(h.tr x hx).2
    rw [Lib.size_eq] at this
    exact this)
   show (Go.Lib.join (s.tr.map fun e=>e.1.data.toList) [32]).length≤_
   omega
theorem cut_words {t:Bs} {ls:List Bs} (h:ls=linesT t) {B:Nat} (hB:t.length≤B):∀ l∈ls,l.length≤B:=fun l hl=>by
 have h1:l∈cutG 10 t:=by
  rw [h] at hl
  unfold linesT at hl
  split at hl
  ·exact List.dropLast_subset _ hl
  ·exact hl
 exact Nat.le_trans (cutG_len_le 10 t l h1) hB
theorem sm_words {l:Bs} (h:l.length≤100000):SmR (wordsT l,false):=fun s hs=>by
 have h1:s∈cutG 32 l:=(List.mem_filter.1 hs).1
 exact Nat.le_trans (cutG_len_le 32 l s h1) h
theorem op_sz {r:RdS} (h:SmR r):(opR r).1.path.size≤1000000∧(opR r).1.data.size≤1000000:=by
 have hk:=h.word
 have hp:=hk.1.part
 have hd:=hp.1.data
 have e1:(bA (partR (wordR r).2).1).size≤1000000:=by rw [bA_size];omega
 have e2:(bA (dataR (partR (wordR r).2).2).1).size≤1000000:=by rw [bA_size];omega
 have e3:(bA []).size≤1000000:=by rw [bA_size];exact Nat.zero_le _
 unfold opR
 simp only
 repeat' split
 all_goals first|exact ⟨e1,e2⟩|exact ⟨e1,e3⟩
theorem more_sz:∀ (f:Nat) (r:RdS) (ops:List OpV),SmR r→OpsS ops→OpsS (moreR f r ops).1
 | 0,_,_,_,h=>h
 | f+1,r,ops,hr,h=>by
   unfold moreR
   split
   ·exact h
   ·refine more_sz f _ _ hr.plus.op fun o ho=>?_
    rcases List.mem_append.1 ho with ho|ho
    ·exact h o ho
    ·rw [List.mem_singleton.1 ho]
     exact op_sz hr.plus
theorem play_sz {r:RdS} (h:SmR r) {a:SAct} (ha:(playR r).1=some a):LineOk a:=by
 have hk:=h.word.1
 unfold playR at ha
 simp only at ha
 repeat' split at ha
 all_goals first|cases ha|skip
 all_goals first|trivial|skip
 ·refine more_sz _ _ _ hk.num.num.op fun o ho=>?_
  rw [List.mem_singleton.1 ho]
  exact op_sz hk.num.num
 ·show (wordR (numR (wordR r).2).2).1.length≤1000000
  have:=hk.num.word.2
  omega
theorem acts_ok:∀ (ls:List Bs) {l:List SAct},(∀ x∈ls,x.length≤100000)→actsT ls=some l→∀ a∈l,LineOk a
 | [],l,_,h=>by cases h;intro a ha;cases ha
 | x::ls,l,hx,h=>by
   rw [acts_cons] at h
   split at h
   ·exact acts_ok ls (fun y hy=>hx y (List.mem_cons_of_mem _ hy)) h
   ·split at h
    ·cases h
    ·rename_i a0 hl
     cases hm:actsT ls with
     | none=>rw [hm] at h;cases h
     | some m=>
       rw [hm] at h
       cases h
       intro a ha
       rcases List.mem_cons.1 ha with rfl|ha
       ·unfold lineR at hl
        split at hl
        ·exact play_sz (sm_words (hx x (List.mem_cons_self ..))) hl
        ·cases hl
       ·exact acts_ok ls (fun y hy=>hx y (List.mem_cons_of_mem _ hy)) hm a ha
end Go.Proofs.YtnlefnhdhigecaaGreatDoor

namespace Go.Proofs.YtnlefnhdhigecaaGreatDoor
set_option maxRecDepth 100000
open Go.RowKit Av
abbrev bdT:TypeId:=174
abbrev byT:TypeId:=5
def BdS (w:World) (b:Nat) (S:Nat→Prop):Prop:=∀ i,S i→b≤i∧∃ cur T f,w.heap[i]? = some (.cells cur T f)∧(T=bdT∨T=byT)
theorem bd_size:(Tryz.prog.info? bdT).map (·.size)=some 2:=by kernel_rfl
theorem bd_lies:liesAt Tryz.prog Tryz.prog.depth bdT (2 / Tryz.prog.cellsOf bdT) 0 bdT 1=true:=by kernel_rfl
theorem bd_ptr:Tryz.prog.underlying 171=some (.pointer bdT):=by kernel_rfl
theorem bd_unsafe:Tryz.prog.underlying 259=some .unsafePointer:=by kernel_rfl
theorem by_info:(Tryz.prog.info? byT).map (fun i=>(i.zero,i.size,i.bytes))=some (some (.int .u8 0),1,1):=by kernel_rfl
set_option maxHeartbeats 1000000 in
theorem copyCheck_used (b:Nat) (w:World) (h0:w.cell? ⟨b,0,none⟩=some (.pointer (some ⟨b,0,none⟩))) :
  Calls Tryz.prog 147 #[.pointer (some ⟨b,0,none⟩)] w fun e w'=>e=.returned (.tuple #[])∧w'=w:=by
 obtain ⟨j,hj,_⟩:=Option.map_eq_some_iff.1 bd_size
 go_enter Tryz.func147,Tryz.ntmps147
 go_wp2
 rw [Lib.run_neq_ptr_same w _ bd_ptr hj]
 go_wp2
 go_end0
 exact ⟨rfl,rfl⟩
set_option maxHeartbeats 1000000 in
theorem copyCheck_fresh (b:Nat) (w:World) (h0:w.cell? ⟨b,0,none⟩=some (.pointer none)) (hsh:w.shape? b=some (bdT,2)) (hfz:w.frozen? ⟨b,0,none⟩=false) :
  Calls Tryz.prog 147 #[.pointer (some ⟨b,0,none⟩)] w fun e w'=>e=.returned (.tuple #[])∧w'=w.setCell ⟨b,0,none⟩ (.pointer (some ⟨b,0,none⟩)):=by
 obtain ⟨j,hj,hjs⟩:=Option.map_eq_some_iff.1 bd_size
 have hf:Tryz.prog.funcs[194]? = some Tryz.f194:=by kernel_rfl
 go_enter Tryz.func147,Tryz.ntmps147
 go_wp2
 rw [Lib.run_to_unsafe w ⟨b,0,none⟩ bd_ptr bd_unsafe hj (by rw [hjs];decide) hsh (Nat.zero_lt_succ 1)]
 simp only [Result.andThen]
 rw [Oper.upon_value]
 go_wp2
 rw [run_callFunc_extern hf (by kernel_rfl) (by kernel_rfl) (by kernel_rfl) (e:=Extern.AbiNoEscape.same) (by kernel_rfl)]
 rw [Lib.run_noEscape]
 simp only [Result.andThen]
 rw [Oper.upon_value]
 go_wp2
 rw [Lib.run_from_unsafe w ⟨b,0,none⟩ bd_unsafe bd_ptr hj hsh bd_lies]
 simp only [Result.andThen]
 rw [Oper.upon_value]
 go_wp2
 go_end0
 exact ⟨rfl,rfl⟩
theorem copyCheck_any (b:Nat) (bs:List Value) (w:World) (h:Lib.IsBuilder bdT byT b b bs w) :
  Calls Tryz.prog 147 #[.pointer (some ⟨b,0,none⟩)] w fun e w'=>e=.returned (.tuple #[])∧Lib.BuilderAt bdT byT b b (.pointer (some ⟨b,0,none⟩)) bs w'∧Kp (fun i=>i=b) w w':=by
 rcases h with h|h
 ·refine (copyCheck_fresh b w h.cell0 h.shape h.frozen0).mono ?_
  rintro e w' ⟨rfl,rfl⟩
  exact ⟨rfl,h.used _,(Kp.refl _ _).set1 b 0 _ rfl⟩
 ·refine (copyCheck_used b w h.cell0).mono ?_
  rintro e w' ⟨rfl,rfl⟩
  exact ⟨rfl,h,Kp.refl _ _⟩
set_option maxHeartbeats 2000000 in
theorem writeString_any (b:Nat) (bs:List Value) (s:ByteArray) (w:World) (h:Lib.IsBuilder bdT byT b b bs w) (hlen:bs.length+s.size≤140737488355328) :
  Calls Tryz.prog 105 #[.pointer (some ⟨b,0,none⟩), .string s] w fun e w'=>(∃ u,e=.returned u)∧Lib.BuilderAt bdT byT b b (.pointer (some ⟨b,0,none⟩)) (bs++Lib.strCells s) w'∧∃ S,Kp S w w'∧BdS w b S:=by
 obtain ⟨i0,hi,hz0,hz1,hz2⟩:=info_parts by_info
 have HCC:=Lib.hid (copyCheck_any b bs w h)
 have HS:Hid (∀ v w1,Kp (fun i=>i=b) w w1→w1.ownsRow b byT 1 v bs.length bs→w1.heap[b]? = some (.cells #[.pointer (some ⟨b,0,none⟩),v] bdT (0,0))→BdS w b (fun i=>i=b∨(v.ownBlock=some i∧i<w.heap.size))):=fun v w1 k ho hb i hs=>by
  rcases hs with rfl|⟨hs,hlt⟩
  ·refine ⟨Nat.le_refl _, ?_⟩
   have hw:∃ p v0,w.heap[i]? = some (.cells #[p,v0] bdT (0,0)):=by
    rcases h with h|h
    ·obtain ⟨_,v0,h1,_⟩:=h;exact ⟨_,v0,h1⟩
    ·obtain ⟨_,v0,h1,_⟩:=h;exact ⟨_,v0,h1⟩
   obtain ⟨p,v0,h1⟩:=hw
   exact ⟨_,_,_,h1, .inl rfl⟩
  ·have h1:=(own_in ho hs).1
   refine ⟨h1, ?_⟩
   by_cases e:i=b
   ·subst e
    obtain ⟨cur,f,h2⟩:=own_type ho hs
    rw [hb] at h2
    simp only [Option.some.injEq,Obj.cells.injEq] at h2
    exact absurd h2.2.1 (by decide)
   ·obtain ⟨cur,f,h2⟩:=own_type ho hs
    rw [k.block i hlt e] at h2
    exact ⟨_,_,_,h2, .inr rfl⟩
 clear h
 go_enter Tryz.func105,Tryz.ntmps105
 go_wp2_with (fail)
 refine HCC.out.mono ?_
 rintro e w1 ⟨rfl,h1,k1⟩
 obtain ⟨hB,v,hbk,hown,hne⟩:=h1
 have c0:w1.cell? ⟨b,0,none⟩=some (.pointer (some ⟨b,0,none⟩)):=by rw [Lib.cell_of_heap hbk];rfl
 have c1:w1.cell? ⟨b,1,none⟩=some v:=by rw [Lib.cell_of_heap hbk];rfl
 have hlt:b<w1.heap.size:=by
  rcases Nat.lt_or_ge b w1.heap.size with h'|h'
  ·exact h'
  ·simp [Array.getElem?_eq_none h'] at hbk
 have HSV:=Lib.hid (HS.out v w1 k1 hown hbk)
 go_wp2_with (at_builtin;refine Lib.wpList_append_own_string _ rfl _ _ 172 9 rfl b byT i0 (by kernel_rfl) (by kernel_rfl) hi hz0 hz1 hz2 _ _ _ rfl hown s rfl ?c3 ?c4 ?c5 ?_)
 case c3=>unfold maxLen;omega
 case c4=>omega
 case c5=>omega
 intro v' w2 hown' hgrow _
 have hb2:w2.heap[b]? = some (.cells #[.pointer (some ⟨b,0,none⟩),v] bdT (0,0)):=by
  rw [hgrow.block b hlt (fun e=>hne e.symm)]
  exact hbk
 have d0:w2.cell? ⟨b,0,none⟩=some (.pointer (some ⟨b,0,none⟩)):=by rw [Lib.cell_of_heap hb2];rfl
 have d1:w2.cell? ⟨b,1,none⟩=some v:=by rw [Lib.cell_of_heap hb2];rfl
 have f1:w2.frozen? ⟨b,1,none⟩=false:=Lib.frozen_of_heap hb2 1
 obtain ⟨ao,n',cap,rfl⟩:∃ ao n' cap,v'=.slice ao n' cap:=by
  rcases hown'.2 with ⟨hv,_⟩|⟨g,cap,cur,hv,_⟩
  ·exact ⟨_,_,_,hv⟩
  ·exact ⟨_,_,_,hv⟩
 have kg:Kp (fun i=>v.ownBlock=some i) w1 w2:=⟨hgrow.os,hgrow.tape,hgrow.output,hgrow.size,fun k hk hn=>hgrow.block k hk (fun e=>hn e.symm)⟩
 have HK:Hid (Kp (fun i=>i=b∨(v.ownBlock=some i∧i<w.heap.size)) w (w2.setCell ⟨b,1,none⟩ (.slice ao n' cap))):=
  ((k1.mono (fun i _ e=>.inl e)).next kg (fun i hi e=>.inr ⟨e,hi⟩)).set1 b 1 _ (.inl rfl)
 have HB2:=Lib.hid hb2
 have HOW:Hid (w2.ownsRow b byT 1 (.slice ao n' cap) (bs++Lib.strCells s).length (bs++Lib.strCells s)):=by
  have:=hown'
  rw [show bs.length+s.size=(bs++Lib.strCells s).length by simp [Lib.strCells_length]] at this
  exact this
 clear hown hown' hgrow kg k1 hbk hne c0 c1 hb2
 go_wp2
 go_ret2
 exact ⟨⟨_,rfl⟩,Lib.BuilderAt.put (T:=bdT) (e:=byT) hB HB2.out (bs':=bs++Lib.strCells s) HOW.out (by decide),_,HK.out,HSV.out⟩
end Go.Proofs.YtnlefnhdhigecaaGreatDoor

