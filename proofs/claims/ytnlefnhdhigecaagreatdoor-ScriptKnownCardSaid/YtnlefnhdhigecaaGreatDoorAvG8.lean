/- Texts put together: AvTreeP, AvTreeQ, AvSound, AvWTreeL, AvAllN. -/
import Derived.Test.YtnlefnhdhigecaaGreatDoorAvG7
import Derived.Test.YtnlefnhdhigecaaGreatDoorAvG1
namespace Go.Proofs.YtnlefnhdhigecaaGreatDoor
set_option maxRecDepth 100000
open Go.RowKit Av
abbrev Pt:=List (ByteArray×NodeV)
def pl (t:Tr):Pt:=t.map fun e=>(e.1,e.2.2)
theorem pl_get (t:Tr) (p:ByteArray):mget (pl t) p=(mget t p).map (·.2):=mget_map (fun e:Nat×NodeV=>e.2) t p
theorem pl_set (t:Tr) (p:ByteArray) (g:Nat) (n:NodeV):pl (mset t p (g,n))=mset (pl t) p n:=(mset_map (fun e:Nat×NodeV=>e.2) t p (g,n)).symm
theorem pl_del (t:Tr) (p:ByteArray):pl (mdel t p)=mdel (pl t) p:=(mdel_map (fun e:Nat×NodeV=>e.2) t p).symm
theorem pl_len (t:Tr):(pl t).length=t.length:=by simp [pl]
def tellP (f:NodeV→Bs→NodeV) (t:Pt) (p:ByteArray):Pt:=match parentL p.data.toList with
 | none=>t
 | some up=>match mget t ⟨up.toArray⟩ with
   | none=>t
   | some n=>mset t ⟨up.toArray⟩ (f n (lastL p.data.toList))
theorem pl_tell (f:NodeV→Bs→NodeV) (t:Tr) (p:ByteArray):pl (tellUp f t p)=tellP f (pl t) p:=by
 unfold tellUp tellP
 cases parentL p.data.toList with
 | none=>rfl
 | some up=>
   simp only [pl_get]
   cases h:mget t ⟨up.toArray⟩ with
   | none=>rfl
   | some gn=>exact pl_set _ _ _ _
def finQ (room:Int) (t:Pt) (p:ByteArray):ByteArray×Int:=if (mget t p).isSome=true then (⟨#[]⟩,5) else if room≤(t.length:Int) then (⟨#[]⟩,9) else (p,0)
def placeP (room:Int) (t:Pt) (p:ByteArray) (f:Int):ByteArray×Int:=match parentL p.data.toList with
 | none=>finQ room t p
 | some up=>match mget t ⟨up.toArray⟩ with
   | none=>(⟨#[]⟩,4)
   | some n=>if n.own≠0 then (⟨#[]⟩,8) else if seqF f=true then (match numberL p.data.toList n.next with
     | none=>(⟨#[]⟩,1)
     | some q=>finQ room t ⟨q.toArray⟩) else finQ room t p
theorem pl_fin (room:Int) (t:Tr) (p:ByteArray):finP room t p=finQ room (pl t) p:=by
 unfold finP finQ
 rw [pl_get,pl_len,Option.isSome_map]
theorem pl_place (room:Int) (t:Tr) (p:ByteArray) (f:Int):placeT room t p f=placeP room (pl t) p f:=by
 unfold placeT placeP
 cases parentL p.data.toList with
 | none=>exact pl_fin _ _ _
 | some up=>
   simp only [pl_get]
   cases h:mget t ⟨up.toArray⟩ with
   | none=>rfl
   | some gn=>
     obtain ⟨g,n⟩:=gn
     simp only [Option.map_some]
     cases numberL p.data.toList n.next<;>simp only [pl_fin]
structure Rp where
 err:Int
 path:ByteArray
 data:ByteArray
 names:List Bs
 st:NodeV
def failR (z:Int):Rp:=⟨z,⟨#[]⟩,⟨#[]⟩,[],ndZ⟩
def ownF (f sess:Int):Int:=if f=1∨f=3 then sess else 0
def createP (room:Int) (t:Pt) (o:OpV) (sess z:Int) (only:Bool):Pt×Rp:=
 let q:=placeP room t o.path o.flags
 if q.2≠0 then (t,failR q.2) else
 let n:=ndNew z (ownF o.flags sess) o.data
 (if only then t else tellP ndAdd (mset t q.1 n) q.1,⟨0,q.1,⟨#[]⟩,[],n⟩)
def wrongB (o:OpV) (n:NodeV):Bool:=o.ver != -1&&o.ver != n.ver
def changeP (t:Pt) (o:OpV) (z:Int) (only:Bool):Pt×Rp:=match mget t o.path with
 | none=>(t,failR 4)
 | some n=>if wrongB o n=true then (t,failR 6)
   else if o.kind=2 then (if 0<n.names.length then (t,failR 7) else (if only then t else tellP ndRem (mdel t o.path) o.path,⟨0,o.path,⟨#[]⟩,[],ndZ⟩))
   else if o.kind=3 then (if only then t else mset t o.path (ndWrite n z o.data),⟨0,o.path,⟨#[]⟩,[],ndWrite n z o.data⟩)
   else (t,⟨0,o.path,⟨#[]⟩,[],ndZ⟩)
def readP (t:Pt) (o:OpV):Rp:=match mget t o.path with
 | none=>failR 4
 | some n=>⟨0,o.path,if o.kind=5 then n.data else ⟨#[]⟩,if o.kind=7 then n.names else [],n⟩
def doP (room:Int) (t:Pt) (o:OpV) (sess z:Int) (only:Bool):Pt×Rp:=
 if goodO o≠0 then (t,failR (goodO o)) else
 if sess<1∨z<0 then (t,failR 1) else
 if o.kind=1 then createP room t o sess z only else
 if o.kind=2∨o.kind=3∨o.kind=4 then changeP t o z only else (t,readP t o)
def Fresh (w:World) (t t':Tr):Prop:=∀ e∈t',(∃ e0∈t,e.2.1=e0.2.1)∨w.heap.size≤e.2.1
theorem Fresh.refl (w:World) (t:Tr):Fresh w t t:=fun e he=>.inl ⟨e,he,rfl⟩
theorem mem_mset' {α:Type} {l:List (ByteArray×α)} {k:ByteArray} {v:α} {e:ByteArray×α} (h:e∈mset l k v):e=(k,v)∨e∈l:=by
 induction l with
 | nil=>exact .inl (by simpa [mset] using h)
 | cons a r ih=>
   unfold mset at h
   by_cases hk:k=a.1
   ·rw [if_pos hk] at h
    rcases List.mem_cons.1 h with h|h
    ·exact .inl h
    ·exact .inr (List.mem_cons_of_mem _ h)
   ·rw [if_neg hk] at h
    rcases List.mem_cons.1 h with h|h
    ·exact .inr (by simp [h])
    ·rcases ih h with h|h
     ·exact .inl h
     ·exact .inr (List.mem_cons_of_mem _ h)
theorem Fresh.set {w:World} {t t1:Tr} (h:Fresh w t t1) {g:Nat} (hg:w.heap.size≤g) (p:ByteArray) (n:NodeV):Fresh w t (mset t1 p (g,n)):=fun e he=>by
 rcases mem_mset' he with rfl|he
 ·exact .inr hg
 ·exact h e he
theorem Fresh.del {w:World} {t t1:Tr} (h:Fresh w t t1) (p:ByteArray):Fresh w t (mdel t1 p):=fun e he=>h e (List.mem_filter.1 he).1
theorem Fresh.tell {w:World} {t t1:Tr} (h:Fresh w t t1) (f:NodeV→Bs→NodeV) (p:ByteArray):Fresh w t (tellUp f t1 p):=by
 unfold tellUp
 split
 ·exact h
 ·split
  ·exact h
  ·rename_i up g n hg
   intro e he
   rcases mem_mset' he with rfl|he
   ·have h2:=h _ (mget_mem hg)
    exact h2
   ·exact h e he
theorem Fresh.trans {w w1:World} {t t1 t2:Tr} (h:Fresh w t t1) (h2:Fresh w1 t1 t2) (hs:w.heap.size≤w1.heap.size):Fresh w t t2:=fun e he=>by
 rcases h2 e he with ⟨e0,he0,h3⟩|h3
 ·rw [h3];exact h e0 he0
 ·exact .inr (Nat.le_trans hs h3)
theorem Fresh.mono {w w1:World} {t t1:Tr} (h:Fresh w1 t t1) (hs:w.heap.size≤w1.heap.size):Fresh w t t1:=(Fresh.refl w t).trans h hs
def DoPost (w:World) (base b m:Nat) (room:Int) (t:Tr) (R:Pt×Rp) (e:Ending) (w':World):Prop:=
 ∃ t' nv,e=.returned (resA R.2.err R.2.path R.2.data nv R.2.st)∧w'.ownsRow 0 strT 1 nv R.2.names.length (R.2.names.map encStr)∧TreeR w' base b m room t'∧pl t'=R.1∧Kp (nodeFr m t) w w'∧Fresh w t t'
theorem tree_old {w0 w w':World} {base b m:Nat} {room:Int} {t:Tr} (hb:w0.heap.size≤base) (hT:TreeR w base b m room t) (hE:Ext w0 w) (k:Kp (nodeFr m t) w w'):Ext w0 w':=hE.next k (fun i hi hs=>by
 rcases hs with rfl|⟨e,he,rfl⟩
 ·have:=hT.low.2.1
  omega
 ·have:=hT.low.2.2 e he
  omega)
theorem own_nil (w:World):w.ownsRow 0 strT 1 (.slice none 0 0) ([]:List Bs).length (([]:List Bs).map encStr):=⟨by simp, .inl ⟨rfl,rfl⟩⟩
theorem TreeR.aside {w w':World} {base b m:Nat} {room:Int} {t:Tr} (h:TreeR w base b m room t) {r:Nat} {A:Array Value} {T:TypeId} (hr:Blk w r A T) (h1:T≠trT) (h2:T≠ndT) (h3:T≠strT) (k:Kp (fun i=>i=r) w w'):TreeR w' base b m room t:=by
 have hr':w.heap[r]? = some (.cells A T (0,0)):=hr
 have hb:b≠r:=by
  rintro rfl
  have h4:w.heap[b]? = some (.cells #[.int .i64 room, .map (some m)] trT (0,0)):=h.blk
  rw [hr'] at h4
  simp only [Option.some.injEq,Obj.cells.injEq] at h4
  exact h1 h4.2.1
 have hm:m≠r:=by
  rintro rfl
  obtain ⟨L,clock,hq,_⟩:=h.map
  have h4:=hq.1
  rw [hr'] at h4
  simp at h4
 refine ⟨h.low,h.blk.kp k hb,h.map.kp k hm,fun e he=>(h.nod e he).kp k ?_ ?_,h.inj⟩
 ·rintro rfl
  obtain ⟨nv,h4,_⟩:=h.nod e he
  have h5:w.heap[e.2.1]? = some (.cells (ndA e.2.2 nv) ndT (0,0)):=h4
  rw [hr'] at h5
  simp only [Option.some.injEq,Obj.cells.injEq] at h5
  exact h2 h5.2.1
 ·rintro i cur f rfl e4
  rw [hr'] at e4
  simp only [Option.some.injEq,Obj.cells.injEq] at e4
  exact h3 e4.2.1
def rsZ:Array Value:=#[.int .i64 0, .string ⟨#[]⟩, .string ⟨#[]⟩, .slice none 0 0, .int .i64 0, .int .i64 0, .int .i64 0, .int .i64 0, .int .i64 0, .int .i64 0, .int .i64 0]
def set11 (w:World) (r:Nat) (u0 u1 u2 u3 u4 u5 u6 u7 u8 u9 u10:Value):World:=((((((((((w.setCell ⟨r,0,none⟩ u0).setCell ⟨r,1,none⟩ u1).setCell ⟨r,2,none⟩ u2).setCell ⟨r,3,none⟩ u3).setCell ⟨r,4,none⟩ u4).setCell ⟨r,5,none⟩ u5).setCell ⟨r,6,none⟩ u6).setCell ⟨r,7,none⟩ u7).setCell ⟨r,8,none⟩ u8).setCell ⟨r,9,none⟩ u9).setCell ⟨r,10,none⟩ u10
theorem kp_set11 (w:World) (r:Nat) (u0 u1 u2 u3 u4 u5 u6 u7 u8 u9 u10:Value):Kp (fun i=>i=r) w (set11 w r u0 u1 u2 u3 u4 u5 u6 u7 u8 u9 u10):=by
 have k:∀ {W:World} (i:Nat) (u:Value),Kp (fun i=>i=r) w W→Kp (fun i=>i=r) w (W.setCell ⟨r,i,none⟩ u):=fun i u h=>h.set1 r i u rfl
 exact k 10 u10 (k 9 u9 (k 8 u8 (k 7 u7 (k 6 u6 (k 5 u5 (k 4 u4 (k 3 u3 (k 2 u2 (k 1 u1 (k 0 u0 (Kp.refl _ _)))))))))))
end Go.Proofs.YtnlefnhdhigecaaGreatDoor

namespace Go.Proofs.YtnlefnhdhigecaaGreatDoor
set_option maxRecDepth 100000
open Go.RowKit Av
theorem insN_mem {l:List Bs} {i:Nat} {x y:Bs}:y∈insN l i x↔y∈l∨y=x:=by
 unfold insN
 conv=>rhs;rw [← List.take_append_drop i l]
 simp only [List.mem_append,List.mem_cons]
 constructor
 ·rintro (h|h|h)
  ·exact .inl (.inl h)
  ·exact .inr h
  ·exact .inl (.inr h)
 ·rintro ((h|h)|h)
  ·exact .inl h
  ·exact .inr (.inr h)
  ·exact .inr (.inl h)
theorem insN_rising {t:List Bs} {s:Bs} (ht:Rising t) (h2:¬ t[lessN s t]? = some s):Rising (insN t (lessN s t) s):=by
 have hl:=lessN_take s t
 have hr:∀ x∈t.drop (lessN s t),s<x:=by
  by_cases hlt:lessN s t<t.length
  ·have hg:=lessN_get s t hlt
   have hne:t[lessN s t]≠s:=fun e=>h2 (by rw [List.getElem?_eq_getElem hlt,e])
   have h3:=lt_of_not hg hne
   have hd:t.drop (lessN s t)=t[lessN s t]::t.drop (lessN s t+1):=List.drop_eq_getElem_cons hlt
   have hp:Rising (t.drop (lessN s t)):=ht.sublist (List.drop_sublist _ _)
   rw [hd] at hp ⊢
   intro x hx
   rcases List.mem_cons.1 hx with e|e
   ·rw [e];exact h3
   ·exact List.lt_trans h3 ((List.pairwise_cons.1 hp).1 x e)
  ·rw [List.drop_of_length_le (by omega)];simp
 have h1:Rising (t.take (lessN s t)):=ht.sublist (List.take_sublist _ _)
 have h3:Rising (t.drop (lessN s t)):=ht.sublist (List.drop_sublist _ _)
 refine List.pairwise_append.2 ⟨h1,List.pairwise_cons.2 ⟨hr,h3⟩,fun a ha b hb=>?_⟩
 rcases List.mem_cons.1 hb with e|e
 ·rw [e];exact hl a ha
 ·exact List.lt_trans (hl a ha) (hr b e)
theorem delN_sub (t:List Bs) (i:Nat):(delN t i).Sublist t:=by
 unfold delN
 conv=>rhs;rw [← List.take_append_drop i t]
 refine List.Sublist.append (List.Sublist.refl _) ?_
 rw [← List.drop_drop]
 exact List.drop_sublist _ _
abbrev minI:Int:=-9223372036854775808
theorem moreI_ge {n:Int} (h:minI≤n):minI≤moreI n:=by
 unfold moreI
 split
 ·exact h
 ·unfold minI at *;omega
structure NodeK (K:Nat) (n:NodeV):Prop where
 rise:Rising n.names
 few:n.names.length≤K
 ver:minI≤n.ver
 kids:minI≤n.kids
 next:minI≤n.next
theorem NodeK.ok {K:Nat} {n:NodeV} (h:NodeK K n) (hK:K≤100000):NodeOk n:=⟨h.rise,Nat.le_trans h.few hK,h.ver,h.kids,h.next⟩
theorem NodeK.mono {K L:Nat} {n:NodeV} (h:NodeK K n) (hK:K≤L):NodeK L n:=⟨h.rise,Nat.le_trans h.few hK,h.ver,h.kids,h.next⟩
theorem NodeK.new (K:Nat) (z o:Int) (d:ByteArray):NodeK K (ndNew z o d):=⟨List.Pairwise.nil,Nat.zero_le _,by simp [ndNew,minI],by simp [ndNew,minI],by simp [ndNew,minI]⟩
theorem NodeK.write {K:Nat} {n:NodeV} (h:NodeK K n) (z:Int) (d:ByteArray):NodeK K (ndWrite n z d):=⟨h.rise,h.few,moreI_ge h.ver,h.kids,h.next⟩
theorem NodeK.add {K:Nat} {n:NodeV} (h:NodeK K n) (x:Bs):NodeK (K+1) (ndAdd n x):=by
 unfold ndAdd
 split
 ·exact h.mono (Nat.le_succ _)
 ·rename_i hx
  exact ⟨insN_rising h.rise hx,by show (insN _ _ _).length≤_;rw [insN_len _ (lessN_le _ _)];have:=h.few;omega,h.ver,moreI_ge h.kids,moreI_ge h.next⟩
theorem NodeK.rem {K:Nat} {n:NodeV} (h:NodeK K n) (x:Bs):NodeK K (ndRem n x):=by
 unfold ndRem
 split
 ·exact ⟨h.rise.sublist (delN_sub _ _),Nat.le_trans (delN_sub _ _).length_le h.few,h.ver,moreI_ge h.kids,h.next⟩
 ·exact h
def PtK (K:Nat) (t:Pt):Prop:=(t.map (·.1)).Nodup∧∀ e∈t,NodeK K e.2
theorem PtK.nil:PtK 0 []:=⟨List.nodup_nil,by simp⟩
theorem PtK.mono {K L:Nat} {t:Pt} (h:PtK K t) (hK:K≤L):PtK L t:=⟨h.1,fun e he=>(h.2 e he).mono hK⟩
theorem PtK.ok {K:Nat} {t:Tr} (h:PtK K (pl t)) (hK:K≤100000):TrOk t:=fun e he=>(h.2 (e.1,e.2.2) (List.mem_map.2 ⟨e,he,rfl⟩)).ok hK
theorem PtK.set {K:Nat} {t:Pt} (h:PtK K t) (p:ByteArray) {n:NodeV} (hn:NodeK K n):PtK K (mset t p n):=⟨mset_nodup h.1 _ _,fun e he=>by
 rcases mem_mset h.1 he with rfl|⟨he,_⟩
 ·exact hn
 ·exact h.2 e he⟩
theorem PtK.del {K:Nat} {t:Pt} (h:PtK K t) (p:ByteArray):PtK K (mdel t p):=⟨mdel_nodup h.1 _,fun e he=>h.2 e (List.mem_filter.1 he).1⟩
theorem PtK.tell {K L:Nat} {t:Pt} (h:PtK K t) (hKL:K≤L) {f:NodeV→Bs→NodeV} (hf:∀ n x,NodeK K n→NodeK L (f n x)) (p:ByteArray):PtK L (tellP f t p):=by
 unfold tellP
 split
 ·exact h.mono hKL
 ·split
  ·exact h.mono hKL
  ·rename_i n hn
   exact (h.mono hKL).set _ (hf _ _ (h.2 _ (mget_mem hn)))
theorem PtK.create {K:Nat} {t:Pt} (h:PtK K t) (room:Int) (o:OpV) (sess z:Int) (only:Bool):PtK (K+1) (createP room t o sess z only).1:=by
 unfold createP
 simp only
 split
 ·exact h.mono (Nat.le_succ _)
 ·split
  ·exact h.mono (Nat.le_succ _)
  ·exact (h.set _ (NodeK.new K _ _ _)).tell (Nat.le_succ _) (fun n x hn=>hn.add x) _
theorem PtK.change {K:Nat} {t:Pt} (h:PtK K t) (o:OpV) (z:Int) (only:Bool):PtK K (changeP t o z only).1:=by
 unfold changeP
 split
 ·exact h
 ·rename_i n hn
  split
  ·exact h
  ·split
   ·split
    ·exact h
    ·show PtK K (if _ then _ else _)
     split
     ·exact h
     ·exact (h.del _).tell (Nat.le_refl _) (fun n x hn=>hn.rem x) _
   ·split
    ·show PtK K (if _ then _ else _)
     split
     ·exact h
     ·exact h.set _ ((h.2 _ (mget_mem hn)).write _ _)
    ·exact h
theorem PtK.doP {K:Nat} {t:Pt} (h:PtK K t) (room:Int) (o:OpV) (sess z:Int) (only:Bool):PtK (K+1) (doP room t o sess z only).1:=by
 unfold Proofs.YtnlefnhdhigecaaGreatDoor.doP
 split
 ·exact h.mono (Nat.le_succ _)
 ·split
  ·exact h.mono (Nat.le_succ _)
  ·split
   ·exact h.create _ _ _ _ _
   ·split
    ·exact (h.change _ _ _).mono (Nat.le_succ _)
    ·exact h.mono (Nat.le_succ _)
theorem bs_inj {a b:Bs} (h:(⟨a.toArray⟩:ByteArray)=⟨b.toArray⟩):a=b:=by
 have:=congrArg (fun x:ByteArray=>x.data.toList) h
 simpa using this
structure Chan (c up:Bs):Prop where
 good:goodL c=true
 good0:goodL (c++fw 10 0)=true
 par:parentL c=some up
def numP (c:Bs) (j:Nat):ByteArray:=⟨(c++fw 10 j).toArray⟩
def numN (c:Bs) (j:Nat):Bs:=lastL c++fw 10 j
section
variable {c up:Bs} (H:Chan c up)
end
def isNew (v:NodeV):Prop:=v.ver=0∧v.names=[]∧v.own=0
structure SeqSt (c up:Bs) (t:Pt) (i:Nat) (D:List Nat) (n:NodeV):Prop where
 keys:(t.map (·.1)).Nodup
 root:mget t ⟨up.toArray⟩=some n
 own:n.own=0
 next:n.next=i
 few:i≤1000
 names:n.names=D.map (numN c)
 rise:D.Pairwise (·<·)
 less:∀ j∈D,j<i
 kid:∀ j∈D,∃ v,mget t (numP c j)=some v∧isNew v
 none:∀ j,j∉D→j≤2147483647→mget t (numP c j)=none
 size:t.length≤1+i
end Go.Proofs.YtnlefnhdhigecaaGreatDoor

namespace Go.Proofs.YtnlefnhdhigecaaGreatDoor
set_option maxRecDepth 100000
open Go.RowKit Av
def PtN (t:Pt):Prop:=∀ e∈t,∀ x∈e.2.names,(47:UInt8)∉x
theorem last_free (p:Bs):(47:UInt8)∉lastL p:=by
 unfold lastL
 by_cases h:partsL p=[]
 ·rw [h];simp
 ·have e:(partsL p).getLastD []=(partsL p).getLast h:=by rw [List.getLastD_eq_getLast?,List.getLast?_eq_some_getLast h];rfl
  rw [e]
  exact (parts_name p _ (List.getLast_mem h)).2
theorem PtN.set {t:Pt} (h:PtN t) (p:ByteArray) {n:NodeV} (hn:∀ x∈n.names,(47:UInt8)∉x):PtN (mset t p n):=fun e he=>by
 rcases mem_mset' he with rfl|he
 ·exact hn
 ·exact h e he
theorem PtN.del {t:Pt} (h:PtN t) (p:ByteArray):PtN (mdel t p):=fun e he=>h e (List.mem_filter.1 he).1
theorem add_free {n:NodeV} (h:∀ x∈n.names,(47:UInt8)∉x) {y:Bs} (hy:(47:UInt8)∉y):∀ x∈(ndAdd n y).names,(47:UInt8)∉x:=by
 unfold ndAdd
 split
 ·exact h
 ·intro x hx
  rcases insN_mem.1 hx with hx|rfl
  ·exact h x hx
  ·exact hy
theorem rem_free {n:NodeV} (h:∀ x∈n.names,(47:UInt8)∉x) (y:Bs):∀ x∈(ndRem n y).names,(47:UInt8)∉x:=by
 unfold ndRem
 split
 ·exact fun x hx=>h x ((delN_sub _ _).subset hx)
 ·exact h
theorem PtN.tell {t:Pt} (h:PtN t) {f:NodeV→Bs→NodeV} (hf:∀ n y,(∀ x∈n.names,(47:UInt8)∉x)→(47:UInt8)∉y→∀ x∈(f n y).names,(47:UInt8)∉x) (p:ByteArray):PtN (tellP f t p):=by
 unfold tellP
 split
 ·exact h
 ·split
  ·exact h
  ·rename_i n hn
   exact h.set _ (hf _ _ (h _ (mget_mem hn)) (last_free _))
theorem PtN.create {t:Pt} (h:PtN t) (room:Int) (o:OpV) (sess z:Int) (only:Bool):PtN (createP room t o sess z only).1:=by
 unfold createP
 simp only
 split
 ·exact h
 ·split
  ·exact h
  ·exact (h.set _ (by simp [ndNew])).tell (fun n y hn hy=>add_free hn hy) _
theorem PtN.change {t:Pt} (h:PtN t) (o:OpV) (z:Int) (only:Bool):PtN (changeP t o z only).1:=by
 unfold changeP
 split
 ·exact h
 ·rename_i n hn
  split
  ·exact h
  ·split
   ·split
    ·exact h
    ·show PtN (if _ then _ else _)
     split
     ·exact h
     ·exact (h.del _).tell (fun n y hn _=>rem_free hn y) _
   ·split
    ·show PtN (if _ then _ else _)
     split
     ·exact h
     ·exact h.set _ (h _ (mget_mem hn))
    ·exact h
theorem PtN.doP {t:Pt} (h:PtN t) (room:Int) (o:OpV) (sess z:Int) (only:Bool):PtN (doP room t o sess z only).1:=by
 unfold Proofs.YtnlefnhdhigecaaGreatDoor.doP
 split
 ·exact h
 ·split
  ·exact h
  ·split
   ·exact h.create _ _ _ _ _
   ·split
    ·exact h.change _ _ _
    ·exact h
theorem cut_plain {x:Bs} (h:(47:UInt8)∉x):cut x=[x]:=cut_one (by rw [cut_length,List.count_eq_zero.2 h])
theorem child_of {p up:Bs} (h:parentL p=some up):up++47::lastL p=p:=by
 unfold parentL at h
 split at h
 ·cases h
 ·rename_i h2
  simp only [Option.some.injEq] at h
  subst h
  have hne:partsL p≠[]:=fun e=>h2 (by rw [e];decide)
  have hg:=(good_iff_parts p).2 hne
  have e:(partsL p).getLastD []=(partsL p).getLast hne:=by rw [List.getLastD_eq_getLast?,List.getLast?_eq_some_getLast hne];rfl
  unfold lastL
  rw [e]
  have h3:ofL (partsL p).dropLast++47::(partsL p).getLast hne=ofL ((partsL p).dropLast++[(partsL p).getLast hne]):=by rw [ofL_app];simp [ofL]
  rw [h3,List.dropLast_concat_getLast,ofL_parts p hg]
theorem child_parent {e x:Bs} (he:goodL e=true) (hx:(47:UInt8)∉x) (hc:goodL (e++47::x)=true):parentL (e++47::x)=some e∧lastL (e++47::x)=x:=by
 have hp:=deeper_parts he hc
 rw [cut_plain hx] at hp
 have hne:1≤(partsL e).length:=by
  have:=(good_iff_parts e).1 he
  cases h:partsL e with
  | nil=>exact absurd h this
  | cons a r=>simp
 constructor
 ·unfold parentL
  rw [hp,if_neg (by simp;omega),List.dropLast_concat,ofL_parts e he]
 ·unfold lastL
  rw [hp]
  simp
def childB (p:ByteArray) (x:Bs):ByteArray:=⟨(p.data.toList++47::x).toArray⟩
structure SoundP (room:Int) (t:Pt):Prop where
 good:∀ p n,mget t p=some n→goodL p.data.toList=true
 cnt:∀ p n,mget t p=some n→n.cnt=n.names.length
 eph:∀ p n,mget t p=some n→n.own≠0→n.names=[]
 kids:∀ p n,mget t p=some n→∀ x∈n.names,(mget t (childB p x)).isSome=true
 par:∀ p n,mget t p=some n→∀ up,parentL p.data.toList=some up→∃ m,mget t ⟨up.toArray⟩=some m∧m.own=0∧lastL p.data.toList∈m.names
 size:(t.length:Int)≤room
theorem SoundP.nil {room:Int} (h:0≤room):SoundP room []:=⟨fun p n e=>by (cases e),fun p n e=>by (cases e),fun p n e=>by (cases e),fun p n e=>by (cases e),fun p n e=>by (cases e),by simpa using h⟩
theorem childB_of {p:ByteArray} {up:Bs} (h:parentL p.data.toList=some up):childB ⟨up.toArray⟩ (lastL p.data.toList)=p:=by
 unfold childB
 simp only
 rw [child_of h,bytes_self]
theorem fin_ok {room:Int} {t:Pt} {p q:ByteArray} (h:finQ room t p=(q,0)):q=p∧mget t p=none∧(t.length:Int)<room:=by
 unfold finQ at h
 split at h
 ·simp at h
 ·rename_i h1
  split at h
  ·simp at h
  ·simp only [Prod.mk.injEq,and_true] at h
   refine ⟨h.symm, ?_,by omega⟩
   cases hm:mget t p with
   | none=>rfl
   | some n=>rw [hm] at h1;exact absurd rfl h1
theorem place_ok {room:Int} {t:Pt} {p q:ByteArray} {f:Int} (hg:goodL p.data.toList=true) (h:placeP room t p f=(q,0)) :
  goodL q.data.toList=true∧mget t q=none∧(t.length:Int)<room∧∀ up,parentL q.data.toList=some up→∃ m,mget t ⟨up.toArray⟩=some m∧m.own=0:=by
 unfold placeP at h
 split at h
 ·rename_i hup
  obtain ⟨rfl,h2,h3⟩:=fin_ok h
  exact ⟨hg,h2,h3,fun up hu=>by rw [hup] at hu;cases hu⟩
 ·rename_i up hup
  split at h
  ·simp at h
  ·rename_i n hn
   split at h
   ·simp at h
   ·rename_i h0
    have hown:n.own=0:=by simpa using h0
    split at h
    ·split at h
     ·simp at h
     ·rename_i q' hq'
      obtain ⟨rfl,h2,h3⟩:=fin_ok h
      obtain ⟨_,_,_,hqe,hqg⟩:=number_some hq'
      have hpp:parentL q'=some up:=by rw [hqe,number_parent (fw_free 10 _) hg (by rw [← hqe];exact hqg),hup]
      refine ⟨by simpa using hqg,h2,h3,fun up' hu=>?_⟩
      simp only at hu
      rw [hpp] at hu
      simp only [Option.some.injEq] at hu
      subst hu
      exact ⟨n,hn,hown⟩
    ·obtain ⟨rfl,h2,h3⟩:=fin_ok h
     refine ⟨hg,h2,h3,fun up' hu=>?_⟩
     rw [hup] at hu
     simp only [Option.some.injEq] at hu
     subst hu
     exact ⟨n,hn,hown⟩
theorem add_mem {n:NodeV} {x y:Bs}:y∈(ndAdd n x).names↔y∈n.names∨y=x:=by
 unfold ndAdd
 split
 ·rename_i h
  refine ⟨.inl,fun h2=>?_⟩
  rcases h2 with h2|rfl
  ·exact h2
  ·exact List.mem_of_getElem? h
 ·exact insN_mem
theorem add_own (n:NodeV) (x:Bs):(ndAdd n x).own=n.own:=by unfold ndAdd;split<;>rfl
theorem add_cnt {n:NodeV} (h:n.cnt=n.names.length) (x:Bs):(ndAdd n x).cnt=(ndAdd n x).names.length:=by
 unfold ndAdd
 split
 ·exact h
 ·show ((n.names.length+1:Nat):Int)=((insN _ _ _).length:Int)
  rw [insN_len _ (lessN_le _ _)]
theorem rem_own (n:NodeV) (x:Bs):(ndRem n x).own=n.own:=by unfold ndRem;split<;>rfl
theorem rem_cnt {n:NodeV} (h:n.cnt=n.names.length) (x:Bs):(ndRem n x).cnt=(ndRem n x).names.length:=by
 unfold ndRem
 split
 ·rename_i h2
  show ((n.names.length - 1:Nat):Int)=((delN _ _).length:Int)
  rw [delN_len (List.getElem?_eq_some_iff.1 h2).1]
 ·exact h
theorem rem_mem {n:NodeV} (hr:Rising n.names) {x y:Bs}:y∈(ndRem n x).names↔y∈n.names∧y≠x:=by
 unfold ndRem
 split
 ·rename_i h2
  obtain ⟨hk,he⟩:=List.getElem?_eq_some_iff.1 h2
  have hsplit:n.names.take (lessN x n.names)++x::n.names.drop (lessN x n.names+1)=n.names:=by
   conv=>rhs;rw [← List.take_append_drop (lessN x n.names) n.names,List.drop_eq_getElem_cons hk,he]
  have hp:Rising (n.names.take (lessN x n.names)++x::n.names.drop (lessN x n.names+1)):=by rw [hsplit];exact hr
  obtain ⟨_,h4,h5⟩:=List.pairwise_append.1 hp
  have h6:=(List.pairwise_cons.1 h4).1
  show y∈delN _ _↔_
  have hm:y∈n.names↔y∈n.names.take (lessN x n.names)∨y=x∨y∈n.names.drop (lessN x n.names+1):=by
   conv=>lhs;rw [← hsplit]
   simp
  unfold delN
  rw [List.mem_append,hm]
  constructor
  ·rintro (h|h)
   ·exact ⟨.inl h,fun e=>List.lt_irrefl x (by have:=h5 y h x (by simp);rwa [e] at this)⟩
   ·exact ⟨.inr (.inr h),fun e=>List.lt_irrefl x (by have:=h6 y h;rwa [e] at this)⟩
  ·rintro ⟨h|h|h,hne⟩
   ·exact .inl h
   ·exact absurd h hne
   ·exact .inr h
 ·rename_i h2
  refine ⟨fun h=>⟨h,fun e=>h2 ?_⟩,fun h=>h.1⟩
  subst e
  obtain ⟨j,hj,rfl⟩:=List.getElem_of_mem h
  have hl:lessN n.names[j] n.names=j:=lessN_at _ _ j hj (fun z hz=>by
   obtain ⟨i,hi,rfl⟩:=List.getElem_of_mem hz
   rw [List.getElem_take]
   have hij:i<j:=by simp at hi;omega
   exact List.pairwise_iff_getElem.1 hr i j (by omega) hj hij) (List.lt_irrefl _)
  rw [hl,List.getElem?_eq_getElem hj]
theorem SoundP.same {room:Int} {t:Pt} (h:SoundP room t) {p:ByteArray} {n n':NodeV} (hp:mget t p=some n) (h1:n'.names=n.names) (h2:n'.own=n.own) (h3:n'.cnt=n.cnt):SoundP room (mset t p n'):=by
 have hget:∀ q,mget (mset t p n') q=if q=p then some n' else mget t q:=fun q=>mget_mset t p q n'
 have hold:∀ q m,mget (mset t p n') q=some m→∃ m0,mget t q=some m0∧m.names=m0.names∧m.own=m0.own∧m.cnt=m0.cnt:=by
  intro q m hm
  rw [hget] at hm
  split at hm
  ·rename_i hq
   simp only [Option.some.injEq] at hm
   subst hm
   exact ⟨n,by rw [hq];exact hp,h1,h2,h3⟩
  ·exact ⟨m,hm,rfl,rfl,rfl⟩
 have hnew:∀ q m0,mget t q=some m0→∃ m,mget (mset t p n') q=some m∧m.names=m0.names∧m.own=m0.own:=by
  intro q m0 hm
  rw [hget]
  split
  ·rename_i hq
   rw [hq,hp] at hm
   simp only [Option.some.injEq] at hm
   subst hm
   exact ⟨n',rfl,h1,h2⟩
  ·exact ⟨m0,hm,rfl,rfl⟩
 refine ⟨fun q m hm=>?_,fun q m hm=>?_,fun q m hm ho=>?_,fun q m hm x hx=>?_,fun q m hm up hu=>?_, ?_⟩
 ·obtain ⟨m0,e,_⟩:=hold q m hm
  exact h.good q m0 e
 ·obtain ⟨m0,e,e1,_,e3⟩:=hold q m hm
  rw [e3,e1];exact h.cnt q m0 e
 ·obtain ⟨m0,e,e1,e2,_⟩:=hold q m hm
  rw [e1];exact h.eph q m0 e (by rw [← e2];exact ho)
 ·obtain ⟨m0,e,e1,_⟩:=hold q m hm
  have:=h.kids q m0 e x (by rw [← e1];exact hx)
  cases hc:mget t (childB q x) with
  | none=>rw [hc] at this;cases this
  | some y=>
    obtain ⟨y',hy,_⟩:=hnew _ y hc
    rw [hy];rfl
 ·obtain ⟨m0,e,_⟩:=hold q m hm
  obtain ⟨y,hy,hy0,hyl⟩:=h.par q m0 e up hu
  obtain ⟨y',hy',e1,e2⟩:=hnew _ y hy
  exact ⟨y',hy',by rw [e2];exact hy0,by rw [e1];exact hyl⟩
 ·rw [mset_length,hp];exact h.size
theorem SoundP.create {room:Int} {t:Pt} (h:SoundP room t) (o:OpV) (hg:goodL o.path.data.toList=true) (sess z:Int):SoundP room (createP room t o sess z false).1:=by
 unfold createP
 simp only
 split
 ·exact h
 ·rename_i hq0
  obtain ⟨q,e,hq⟩:∃ q e,placeP room t o.path o.flags=(q,e):=⟨_,_,rfl⟩
  rw [hq] at hq0 ⊢
  obtain rfl:e=0:=by simpa using hq0
  obtain ⟨g,hnone,hlt,hpar⟩:=place_ok hg hq
  simp only [Bool.false_eq_true,if_false]
  obtain ⟨N,hN,hN1,hN2⟩:∃ N:NodeV,ndNew z (ownF o.flags sess) o.data=N∧N.names=[]∧N.cnt=0:=⟨_,rfl,rfl,rfl⟩
  rw [hN]
  unfold tellP
  cases hup:parentL q.data.toList with
  | none=>
    simp only
    have hget:∀ p,mget (mset t q N) p=if p=q then some N else mget t p:=fun p=>mget_mset t q p N
    have hkeep:∀ p n,mget t p=some n→mget (mset t q N) p=some n:=fun p n hp=>by
     rw [hget,if_neg (fun e=>by rw [e,hnone] at hp;cases hp)];exact hp
    refine ⟨fun p n hp=>?_,fun p n hp=>?_,fun p n hp ho=>?_,fun p n hp x hx=>?_,fun p n hp up hu=>?_, ?_⟩
    ·rw [hget] at hp
     split at hp
     ·rename_i e;rw [e];exact g
     ·exact h.good p n hp
    ·rw [hget] at hp
     split at hp
     ·simp only [Option.some.injEq] at hp;subst hp;rw [hN1,hN2];rfl
     ·exact h.cnt p n hp
    ·rw [hget] at hp
     split at hp
     ·simp only [Option.some.injEq] at hp;subst hp;exact hN1
     ·exact h.eph p n hp ho
    ·rw [hget] at hp
     split at hp
     ·simp only [Option.some.injEq] at hp;subst hp;rw [hN1] at hx;cases hx
     ·have:=h.kids p n hp x hx
      cases hc:mget t (childB p x) with
      | none=>rw [hc] at this;cases this
      | some y=>rw [hkeep _ y hc];rfl
    ·rw [hget] at hp
     split at hp
     ·rename_i e;rw [e,hup] at hu;cases hu
     ·obtain ⟨m,hm,h1,h2⟩:=h.par p n hp up hu
      exact ⟨m,hkeep _ m hm,h1,h2⟩
    ·rw [mset_length,hnone]
     simp only [Option.isSome_none,Bool.false_eq_true,if_false]
     omega
  | some up=>
    obtain ⟨m,hm,hm0⟩:=hpar up hup
    have hne:(⟨up.toArray⟩:ByteArray)≠q:=fun e=>by rw [e,hnone] at hm;cases hm
    simp only [mget_mset]
    rw [if_neg hne,hm]
    simp only
    have hget:∀ p,mget (mset (mset t q N) ⟨up.toArray⟩ (ndAdd m (lastL q.data.toList))) p=if p=⟨up.toArray⟩ then some (ndAdd m (lastL q.data.toList)) else if p=q then some N else mget t p:=fun p=>by rw [mget_mset,mget_mset]
    have hkeep:∀ p n,mget t p=some n→∃ n',mget (mset (mset t q N) ⟨up.toArray⟩ (ndAdd m (lastL q.data.toList))) p=some n'∧n'.own=n.own∧∀ x∈n.names,x∈n'.names:=fun p n hp=>by
     rw [hget]
     split
     ·rename_i e
      rw [e,hm] at hp
      simp only [Option.some.injEq] at hp
      subst hp
      exact ⟨_,rfl,add_own _ _,fun x hx=>add_mem.2 (.inl hx)⟩
     ·rw [if_neg (fun e=>by rw [e,hnone] at hp;cases hp)]
      exact ⟨n,hp,rfl,fun x hx=>hx⟩
    have hsome:∀ p,(mget t p).isSome=true→(mget (mset (mset t q N) ⟨up.toArray⟩ (ndAdd m (lastL q.data.toList))) p).isSome=true:=fun p hp=>by
     cases hc:mget t p with
     | none=>rw [hc] at hp;cases hp
     | some y=>obtain ⟨y',hy,_⟩:=hkeep p y hc;rw [hy];rfl
    have hqs:mget (mset (mset t q N) ⟨up.toArray⟩ (ndAdd m (lastL q.data.toList))) q=some N:=by rw [hget,if_neg (Ne.symm hne),if_pos rfl]
    refine ⟨fun p n hp=>?_,fun p n hp=>?_,fun p n hp ho=>?_,fun p n hp x hx=>?_,fun p n hp up' hu=>?_, ?_⟩
    ·rw [hget] at hp
     split at hp
     ·rename_i e;rw [e];exact h.good _ m hm
     ·split at hp
      ·rename_i e;rw [e];exact g
      ·exact h.good p n hp
    ·rw [hget] at hp
     split at hp
     ·simp only [Option.some.injEq] at hp;subst hp;exact add_cnt (h.cnt _ m hm) _
     ·split at hp
      ·simp only [Option.some.injEq] at hp;subst hp;rw [hN1,hN2];rfl
      ·exact h.cnt p n hp
    ·rw [hget] at hp
     split at hp
     ·simp only [Option.some.injEq] at hp;subst hp;rw [add_own] at ho;exact absurd hm0 ho
     ·split at hp
      ·simp only [Option.some.injEq] at hp;subst hp;exact hN1
      ·exact h.eph p n hp ho
    ·rw [hget] at hp
     split at hp
     ·rename_i e
      simp only [Option.some.injEq] at hp
      subst hp
      rcases add_mem.1 hx with hx|rfl
      ·rw [e];exact hsome _ (h.kids _ m hm x hx)
      ·rw [e,childB_of hup,hqs];rfl
     ·split at hp
      ·simp only [Option.some.injEq] at hp;subst hp;rw [hN1] at hx;cases hx
      ·exact hsome _ (h.kids p n hp x hx)
    ·have hpq:p=q∨∃ n0,mget t p=some n0:=by
      rw [hget] at hp
      split at hp
      ·rename_i e;rw [e];exact .inr ⟨m,hm⟩
      ·split at hp
       ·rename_i e;exact .inl e
       ·exact .inr ⟨n,hp⟩
     rcases hpq with rfl|⟨n0,hn0⟩
     ·rw [hup] at hu
      simp only [Option.some.injEq] at hu
      subst hu
      exact ⟨_,by rw [hget,if_pos rfl],by rw [add_own];exact hm0,add_mem.2 (.inr rfl)⟩
     ·obtain ⟨y,hy,hy0,hyl⟩:=h.par p n0 hn0 up' hu
      obtain ⟨y',hy',e1,e2⟩:=hkeep _ y hy
      exact ⟨y',hy',by rw [e1];exact hy0,e2 _ hyl⟩
    ·rw [mset_length,mget_mset,if_neg hne,hm,mset_length,hnone]
     simp only [Option.isSome_some,Option.isSome_none,if_true,Bool.false_eq_true,if_false]
     omega
theorem parent_ne {p:ByteArray} {up:Bs} (h:parentL p.data.toList=some up):(⟨up.toArray⟩:ByteArray)≠p:=fun e=>by
 obtain ⟨_,_,h3⟩:=top_parent p.data.toList up h
 have h4:p.data.toList=up:=by rw [← e]
 rw [h4] at h3
 omega
theorem child_is {p q:ByteArray} {x:Bs} (hp:goodL p.data.toList=true) (hx:(47:UInt8)∉x) (hq:goodL q.data.toList=true) (h:childB p x=q):parentL q.data.toList=some p.data.toList∧lastL q.data.toList=x:=by
 have e:q.data.toList=p.data.toList++47::x:=by rw [← h];unfold childB;simp
 rw [e] at hq ⊢
 exact child_parent hp hx hq
theorem SoundP.delete {room:Int} {t:Pt} (h:SoundP room t) (hr:∀ p n,mget t p=some n→Rising n.names) (hN:∀ p n,mget t p=some n→∀ x∈n.names,(47:UInt8)∉x) {p:ByteArray} {n:NodeV} (hp:mget t p=some n) (hnm:n.names=[]):SoundP room (tellP ndRem (mdel t p) p):=by
 have hlen:(mdel t p).length≤t.length:=List.length_filter_le _ _
 have hsz:=h.size
 have hpg:=h.good p n hp
 have hd:∀ q,mget (mdel t p) q=if q=p then none else mget t q:=fun q=>mget_mdel t p q
 unfold tellP
 cases hup:parentL p.data.toList with
 | none=>
   simp only
   refine ⟨fun q m hq=>?_,fun q m hq=>?_,fun q m hq ho=>?_,fun q m hq x hx=>?_,fun q m hq up hu=>?_,by omega⟩
   ·rw [hd] at hq
    split at hq
    ·cases hq
    ·exact h.good q m hq
   ·rw [hd] at hq
    split at hq
    ·cases hq
    ·exact h.cnt q m hq
   ·rw [hd] at hq
    split at hq
    ·cases hq
    ·exact h.eph q m hq ho
   ·rw [hd] at hq
    split at hq
    ·cases hq
    ·rw [hd,if_neg (fun e=>?_)]
     ·exact h.kids q m hq x hx
     ·have:=(child_is (h.good q m hq) (hN q m hq x hx) hpg e).1
      rw [hup] at this
      cases this
   ·rw [hd] at hq
    split at hq
    ·cases hq
    ·obtain ⟨y,hy,hy0,hyl⟩:=h.par q m hq up hu
     refine ⟨y, ?_,hy0,hyl⟩
     rw [hd,if_neg (fun e=>?_)]
     ·exact hy
     ·rw [e,hp] at hy
      simp only [Option.some.injEq] at hy
      rw [← hy,hnm] at hyl
      cases hyl
 | some up=>
   obtain ⟨m,hm,hm0,hml⟩:=h.par p n hp up hup
   have hne:=parent_ne hup
   simp only [hd]
   rw [if_neg hne,hm]
   simp only
   have hget:∀ q,mget (mset (mdel t p) ⟨up.toArray⟩ (ndRem m (lastL p.data.toList))) q=if q=⟨up.toArray⟩ then some (ndRem m (lastL p.data.toList)) else if q=p then none else mget t q:=fun q=>by rw [mget_mset,hd]
   have hback:∀ q y,mget (mset (mdel t p) ⟨up.toArray⟩ (ndRem m (lastL p.data.toList))) q=some y→q≠p∧∃ y0,mget t q=some y0∧y.own=y0.own∧(∀ x∈y.names,x∈y0.names∧(q=⟨up.toArray⟩→x≠lastL p.data.toList)):=by
    intro q y hy
    rw [hget] at hy
    split at hy
    ·rename_i e
     simp only [Option.some.injEq] at hy
     subst hy
     refine ⟨by rw [e];exact hne,m,by rw [e];exact hm,rem_own _ _,fun x hx=>?_⟩
     have:=(rem_mem (hr _ m hm)).1 hx
     exact ⟨this.1,fun _=>this.2⟩
    ·rename_i e
     split at hy
     ·cases hy
     ·rename_i e2
      exact ⟨e2,y,hy,rfl,fun x hx=>⟨hx,fun e3=>absurd e3 e⟩⟩
   have hkeep:∀ q y0,mget t q=some y0→q≠p→∃ y,mget (mset (mdel t p) ⟨up.toArray⟩ (ndRem m (lastL p.data.toList))) q=some y∧y.own=y0.own∧∀ x∈y0.names,(q=⟨up.toArray⟩→x≠lastL p.data.toList)→x∈y.names:=by
    intro q y0 hy hq
    rw [hget]
    split
    ·rename_i e
     rw [e,hm] at hy
     simp only [Option.some.injEq] at hy
     subst hy
     exact ⟨_,rfl,rem_own _ _,fun x hx hne=>(rem_mem (hr _ m hm)).2 ⟨hx,hne e⟩⟩
    ·first
      | exact ⟨y0,hy,rfl,fun x hx _=>hx⟩
      | (rw [if_neg hq];exact ⟨y0,hy,rfl,fun x hx _=>hx⟩)
   refine ⟨fun q y hq=>?_,fun q y hq=>?_,fun q y hq ho=>?_,fun q y hq x hx=>?_,fun q y hq up' hu=>?_, ?_⟩
   ·obtain ⟨_,y0,h0,_⟩:=hback q y hq
    exact h.good q y0 h0
   ·rw [hget] at hq
    split at hq
    ·simp only [Option.some.injEq] at hq;subst hq;exact rem_cnt (h.cnt _ m hm) _
    ·split at hq
     ·cases hq
     ·exact h.cnt q y hq
   ·obtain ⟨_,y0,h0,h1,h2⟩:=hback q y hq
    have h3:=h.eph q y0 h0 (by rw [← h1];exact ho)
    cases hy:y.names with
    | nil=>rfl
    | cons a r=>have:=(h2 a (by rw [hy];simp)).1;rw [h3] at this;cases this
   ·obtain ⟨_,y0,h0,_,h2⟩:=hback q y hq
    obtain ⟨hx0,hxl⟩:=h2 x hx
    have hk:=h.kids q y0 h0 x hx0
    have hcp:childB q x≠p:=fun e=>by
     obtain ⟨e1,e2⟩:=child_is (h.good q y0 h0) (hN q y0 h0 x hx0) hpg e
     rw [hup] at e1
     simp only [Option.some.injEq] at e1
     exact hxl (by rw [e1,bytes_self]) e2.symm
    cases hc:mget t (childB q x) with
    | none=>rw [hc] at hk;cases hk
    | some c=>
      obtain ⟨c',hc',_⟩:=hkeep _ c hc hcp
      rw [hc'];rfl
   ·obtain ⟨hqp,y0,h0,_⟩:=hback q y hq
    obtain ⟨u,hu1,hu2,hu3⟩:=h.par q y0 h0 up' hu
    have hup':(⟨up'.toArray⟩:ByteArray)≠p:=fun e=>by
     rw [e,hp] at hu1
     simp only [Option.some.injEq] at hu1
     rw [← hu1,hnm] at hu3
     cases hu3
    obtain ⟨u',h1,h2,h3⟩:=hkeep _ u hu1 hup'
    refine ⟨u',h1,by rw [h2];exact hu2,h3 _ hu3 (fun e hl=>hqp ?_)⟩
    have e':up'=up:=bs_inj e
    rw [e'] at hu
    have h4:=child_of hu
    have h5:=child_of hup
    rw [hl,h5] at h4
    exact bytes_eq h4.symm
   ·rw [mset_length,hd,if_neg hne,hm]
    simp only [Option.isSome_some,if_true]
    omega
theorem SoundP.change {room:Int} {t:Pt} (h:SoundP room t) (hr:∀ p n,mget t p=some n→Rising n.names) (hN:∀ p n,mget t p=some n→∀ x∈n.names,(47:UInt8)∉x) (o:OpV) (z:Int):SoundP room (changeP t o z false).1:=by
 unfold changeP
 split
 ·exact h
 ·rename_i n hn
  split
  ·exact h
  ·split
   ·split
    ·exact h
    ·rename_i h0
     simp only [Bool.false_eq_true,if_false]
     exact h.delete hr hN hn (List.eq_nil_of_length_eq_zero (by omega))
   ·split
    ·simp only [Bool.false_eq_true,if_false]
     exact h.same hn rfl rfl rfl
    ·exact h
theorem SoundP.doP {K:Nat} {room:Int} {t:Pt} (h:SoundP room t) (hK:PtK K t) (hN:PtN t) (o:OpV) (sess z:Int):SoundP room (doP room t o sess z false).1:=by
 have hr:∀ p n,mget t p=some n→Rising n.names:=fun p n hp=>(hK.2 _ (mget_mem hp)).rise
 have hn:∀ p n,mget t p=some n→∀ x∈n.names,(47:UInt8)∉x:=fun p n hp=>hN _ (mget_mem hp)
 unfold Proofs.YtnlefnhdhigecaaGreatDoor.doP
 split
 ·exact h
 ·rename_i h0
  split
  ·exact h
  ·split
   ·refine h.create o ?_ sess z
    have h1:goodO o=0:=by simpa using h0
    unfold goodO at h1
    split at h1
    ·rename_i h2
     unfold formedB at h2
     simp only [Bool.and_eq_true] at h2
     exact h2.2.2.1
    ·cases h1
   ·split
    ·exact h.change hr hn o z
    ·exact h
end Go.Proofs.YtnlefnhdhigecaaGreatDoor

namespace Go.Proofs.YtnlefnhdhigecaaGreatDoor
set_option maxRecDepth 100000
open Go.RowKit Av
end Go.Proofs.YtnlefnhdhigecaaGreatDoor

namespace Go.Proofs.YtnlefnhdhigecaaGreatDoor
set_option maxRecDepth 100000
open Go.RowKit Av
def AllN (Pr:NodeV→Prop) (t:Pt):Prop:=∀ p n,mget t p=some n→Pr n
theorem AllN.nil (Pr:NodeV→Prop):AllN Pr []:=fun p n h=>by cases h
theorem AllN.set {Pr:NodeV→Prop} {t:Pt} (h:AllN Pr t) (p:ByteArray) {n:NodeV} (hn:Pr n):AllN Pr (mset t p n):=fun q m hm=>by
 rw [mget_mset] at hm
 split at hm
 ·simp only [Option.some.injEq] at hm
  subst hm
  exact hn
 ·exact h q m hm
theorem AllN.del {Pr:NodeV→Prop} {t:Pt} (h:AllN Pr t) (p:ByteArray):AllN Pr (mdel t p):=fun q m hm=>by
 rw [mget_mdel] at hm
 split at hm
 ·cases hm
 ·exact h q m hm
theorem AllN.tell {Pr:NodeV→Prop} {t:Pt} (h:AllN Pr t) {f:NodeV→Bs→NodeV} {p:ByteArray} (hf:∀ n,parentL p.data.toList≠none→Pr n→Pr (f n (lastL p.data.toList))):AllN Pr (tellP f t p):=by
 unfold tellP
 split
 ·exact h
 ·rename_i up hu
  split
  ·exact h
  ·rename_i n hn
   exact h.set _ (hf n (by rw [hu];simp) (h _ n hn))
structure NodeInv (Pr:NodeV→Prop) (o:OpV) (sess z:Int):Prop where
 new:goodO o=0→1≤sess→Pr (ndNew z (ownF o.flags sess) o.data)
 add:∀ n (q:Bs),goodL q=true→parentL q≠none→Pr n→Pr (ndAdd n (lastL q))
 rem:∀ n x,Pr n→Pr (ndRem n x)
 write:∀ n,goodO o=0→Pr n→Pr (ndWrite n z o.data)
theorem par_good {q:Bs} (h:parentL q≠none):goodL q=true:=by
 refine (good_iff_parts q).2 fun e=>h ?_
 unfold parentL
 rw [e];rfl
theorem AllN.doP {Pr:NodeV→Prop} {t:Pt} (h:AllN Pr t) {o:OpV} {sess z:Int} (hi:NodeInv Pr o sess z) (room:Int) (only:Bool):AllN Pr (doP room t o sess z only).1:=by
 unfold Proofs.YtnlefnhdhigecaaGreatDoor.doP
 split
 ·exact h
 ·rename_i hg
  have hg0:goodO o=0:=by simpa using hg
  split
  ·exact h
  ·rename_i hs
   split
   ·unfold createP
    simp only
    split
    ·exact h
    ·split
     ·exact h
     ·exact (h.set _ (hi.new hg0 (by omega))).tell (fun n hp hn=>hi.add n _ (par_good hp) hp hn)
   ·split
    ·unfold changeP
     split
     ·exact h
     ·rename_i n hn
      split
      ·exact h
      ·split
       ·split
        ·exact h
        ·show AllN Pr (if _ then _ else _)
         split
         ·exact h
         ·exact (h.del _).tell (fun n _ hn=>hi.rem n _ hn)
       ·split
        ·show AllN Pr (if _ then _ else _)
         split
         ·exact h
         ·exact h.set _ (hi.write n hg0 (h _ n hn))
        ·exact h
    ·exact h
def OwnedBy (S:List Int) (n:NodeV):Prop:=n.own=0∨(1≤n.own∧n.own∈S)
def nameOk (x:Bs):Prop:=nameL x=true∧(47:UInt8)∉x
def PartsOk (n:NodeV):Prop:=n.len=n.data.size∧n.cnt=n.names.length∧n.data.size≤1000∧∀ x∈n.names,nameOk x
theorem goodO_data {o:OpV} (h:goodO o=0):o.data.size≤1000:=by
 unfold goodO at h
 split at h
 ·split at h
  ·simp at h
  ·omega
 ·simp at h
theorem last_name {q:Bs} (h:goodL q=true):nameOk (lastL q):=by
 have hne:=(good_iff_parts q).1 h
 have e:lastL q=(partsL q).getLast hne:=by
  unfold lastL
  rw [List.getLastD_eq_getLast?,List.getLast?_eq_some_getLast hne];rfl
 rw [e]
 exact parts_name q _ (List.getLast_mem hne)
theorem partsOk_inv (o:OpV) (sess z:Int):NodeInv PartsOk o sess z:=by
 refine ⟨fun h _=>⟨rfl,rfl,goodO_data h,by simp [ndNew]⟩,fun n q hq _ h=>?_,fun n x h=>?_,fun n hg h=>⟨rfl,h.2.1,goodO_data hg,h.2.2.2⟩⟩
 ·refine ⟨?_,add_cnt h.2.1 _, ?_,fun x hx=>?_⟩
  ·unfold ndAdd;split<;>exact h.1
  ·unfold ndAdd;split<;>exact h.2.2.1
  ·rcases add_mem.1 hx with hx|rfl
   ·exact h.2.2.2 x hx
   ·exact last_name hq
 ·refine ⟨?_,rem_cnt h.2.1 _, ?_,fun y hy=>?_⟩
  ·unfold ndRem;split<;>exact h.1
  ·unfold ndRem;split<;>exact h.2.2.1
  ·refine h.2.2.2 y ?_
   unfold ndRem at hy
   split at hy
   ·exact (delN_sub _ _).subset hy
   ·exact hy
theorem name_len {x:Bs} (h:nameOk x):x.length≤40:=by
 have h3:=h.1
 unfold nameL at h3
 simp only [Bool.and_eq_true,decide_eq_true_eq] at h3
 exact h3.1.1.2
def ownI (t:Pt) (x:Bs):Int:=match mget t ⟨x.toArray⟩ with
 | none=>0
 | some n=>n.own
end Go.Proofs.YtnlefnhdhigecaaGreatDoor

