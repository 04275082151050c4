/- Texts put together: AvOwnL, AvRefD, AvWatLaw, AvOps, AvSoloP, AvSoloQ, AvSortI. -/
import Derived.Test.YtnlefnhdhigecaaGreatDoorAvG8
import Derived.Test.YtnlefnhdhigecaaGreatDoorAvG11
import Derived.Test.YtnlefnhdhigecaaGreatDoorAvG1
import Derived.Test.YtnlefnhdhigecaaGreatDoorAvG6
import Derived.Lib.Strings
namespace Go.Proofs.YtnlefnhdhigecaaGreatDoor
set_option maxRecDepth 100000
open Go.RowKit Av
abbrev RL:=List (ByteArray×NodeV)
def keysR (L:RL):List Bs:=L.map (·.1.data.toList)
def entOf (t:Pt) (x:Bs):ByteArray×NodeV:=(⟨x.toArray⟩,(nodeP t ⟨x.toArray⟩).1)
def ownL (t:Pt):RL:=(pathsP t).map (entOf t)
theorem mget_append (A B:RL) (q:ByteArray):mget (A++B) q=(mget A q).or (mget B q):=by
 induction A with
 | nil=>rfl
 | cons a r ih=>
   show (if q=a.1 then some a.2 else mget (r++B) q)=(if q=a.1 then some a.2 else mget r q).or (mget B q)
   split
   ·rfl
   ·exact ih
theorem mget_cons (a:ByteArray×NodeV) (B:RL) (q:ByteArray):mget (a::B) q=if q=a.1 then some a.2 else mget B q:=rfl
structure SortedAs (L:RL) (t:Pt):Prop where
 rise:Rising (keysR L)
 get:∀ p,mget L p=mget t p
theorem rise_nodup {L:RL} (h:Rising (keysR L)):(L.map (·.1)).Nodup:=by
 unfold keysR at h
 have h1:=List.pairwise_map.1 h
 exact List.pairwise_map.2 (h1.imp fun {a b} hab e=>by rw [e] at hab;exact List.lt_irrefl _ hab)
theorem keys_mem {L:RL} {x:Bs}:x∈keysR L↔mget L ⟨x.toArray⟩≠none:=by
 rw [ne_eq,mget_none,Classical.not_not]
 unfold keysR
 rw [List.mem_map,List.mem_map]
 constructor
 ·rintro ⟨e,he,rfl⟩
  exact ⟨e,he,by rw [bytes_self]⟩
 ·rintro ⟨e,he,hx⟩
  exact ⟨e,he,by rw [hx]⟩
theorem paths_mem {t:Pt} {x:Bs}:x∈pathsP t↔mget t ⟨x.toArray⟩≠none:=by
 rw [pathsP_mem,ne_eq,mget_none,Classical.not_not,List.mem_map]
 constructor
 ·rintro ⟨e,he,rfl⟩
  exact ⟨e,he,by rw [bytes_self]⟩
 ·rintro ⟨e,he,hx⟩
  exact ⟨e,he,by rw [hx]⟩
theorem self_own:∀ {L:RL},(L.map (·.1)).Nodup→∀ t:Pt,(∀ e∈L,mget t e.1=some e.2)→L=(keysR L).map (entOf t)
 | [],_,_,_=>rfl
 | a::L,hn,t,h=>by
   have h1:=List.pairwise_cons.1 hn
   have ha:=h a (by simp)
   show a::L=entOf t a.1.data.toList::(keysR L).map (entOf t)
   rw [← self_own h1.2 t (fun e he=>h e (by simp [he]))]
   congr 1
   unfold entOf nodeP
   rw [bytes_self,ha]
theorem SortedAs.own {L:RL} {t:Pt} (h:SortedAs L t) (ht:(t.map (·.1)).Nodup):L=ownL t:=by
 have hn:=rise_nodup h.rise
 have h1:=self_own hn t (fun e he=>by rw [← h.get];exact mget_of_mem hn (k:=e.1) he)
 have h2:keysR L=pathsP t:=rising_ext h.rise (pathsP_rising ht) (fun x=>by rw [keys_mem,paths_mem,h.get])
 rw [h1,h2];rfl
theorem keys_own (t:Pt):keysR (ownL t)=pathsP t:=by
 unfold keysR ownL
 rw [List.map_map]
 refine (List.map_congr_left (fun x _=>?_)).trans (List.map_id _)
 show (entOf t x).1.data.toList=x
 unfold entOf
 simp
theorem own_sorted {t:Pt} (ht:(t.map (·.1)).Nodup):SortedAs (ownL t) t:=by
 have hr:Rising (keysR (ownL t)):=by rw [keys_own];exact pathsP_rising ht
 refine ⟨hr,fun p=>?_⟩
 cases hg:mget t p with
 | none=>
   refine mget_none.2 fun hm=>?_
   obtain ⟨e,he,rfl⟩:=List.mem_map.1 hm
   unfold ownL at he
   obtain ⟨x,hx,rfl⟩:=List.mem_map.1 he
   exact paths_mem.1 hx hg
 | some n=>
   refine mget_of_mem (rise_nodup hr) ?_
   unfold ownL
   refine List.mem_map.2 ⟨p.data.toList,paths_mem.2 (by rw [bytes_self,hg];simp), ?_⟩
   unfold entOf nodeP
   rw [bytes_self,hg]
theorem SortedAs.congr {L:RL} {t u:Pt} (h:SortedAs L t) (e:∀ p,mget t p=mget u p):SortedAs L u:=⟨h.rise,fun p=>(h.get p).trans (e p)⟩
theorem own_same {t u:Pt} (ht:(t.map (·.1)).Nodup) (hu:(u.map (·.1)).Nodup) (e:∀ p,mget t p=mget u p):ownL t=ownL u:=((own_sorted ht).congr e).own hu
theorem own_len (t:Pt):(ownL t).length=t.length:=by unfold ownL;rw [List.length_map,pathsP_len]
def putR (L:RL) (k:Nat) (e:ByteArray×NodeV):RL:=L.take k++e::L.drop k
def delR (L:RL) (k:Nat):RL:=L.take k++L.drop (k+1)
def atR (L:RL) (p:ByteArray):Nat:=lessN p.data.toList (keysR L)
theorem split_at {L:RL} {k:Nat} {e:ByteArray×NodeV} (h:L[k]? = some e):L=L.take k++e::L.drop (k+1):=by
 obtain ⟨hk,rfl⟩:=List.getElem?_eq_some_iff.1 h
 conv=>lhs;rw [← List.take_append_drop k L,List.drop_eq_getElem_cons hk]
theorem at_some {L:RL} (hr:Rising (keysR L)) {p:ByteArray} {n:NodeV} (h:mget L p=some n):L[atR L p]? = some (p,n):=by
 have hm:=mget_mem h
 obtain ⟨j,hj,he⟩:=List.getElem_of_mem hm
 have hj2:j<(keysR L).length:=by unfold keysR;simpa using hj
 have hkj:(keysR L)[j]=p.data.toList:=by
  have h3:(L.map fun x=>x.1.data.toList)[j]'(by simpa using hj)=p.data.toList:=by rw [List.getElem_map,he]
  exact h3
 have hl:atR L p=j:=lessN_at _ _ j hj2 (fun z hz=>by
  obtain ⟨i,hi,rfl⟩:=List.getElem_of_mem hz
  rw [List.getElem_take,← hkj]
  have hij:i<j:=by simp at hi;omega
  exact List.pairwise_iff_getElem.1 hr i j (by omega) hj2 hij) (by rw [hkj];exact List.lt_irrefl _)
 rw [hl,List.getElem?_eq_getElem hj,he]
theorem keys_split (A B:RL) (e:ByteArray×NodeV):keysR (A++e::B)=keysR A++e.1.data.toList::keysR B:=by simp [keysR]
theorem SortedAs.put {L:RL} {t:Pt} (h:SortedAs L t) {p:ByteArray} (n:NodeV) (hp:mget t p=none):SortedAs (putR L (atR L p) (p,n)) (mset t p n):=by
 have hnone:mget L p=none:=by rw [h.get,hp]
 have hsplit:=List.take_append_drop (atR L p) L
 refine ⟨?_,fun q=>?_⟩
 ·have hk:keysR (putR L (atR L p) (p,n))=insN (keysR L) (lessN p.data.toList (keysR L)) p.data.toList:=by
   unfold putR insN atR
   rw [keys_split]
   unfold keysR
   rw [List.map_take,List.map_drop]
  rw [hk]
  refine insN_rising h.rise fun e=>?_
  have hm:=List.mem_of_getElem? e
  rw [keys_mem,bytes_self] at hm
  exact hm hnone
 ·have hq:mget L q=(mget (L.take (atR L p)) q).or (mget (L.drop (atR L p)) q):=by rw [← mget_append,hsplit]
  unfold putR
  rw [mget_append,mget_cons,mget_mset,← h.get]
  by_cases e:q=p
  ·subst e
   rw [if_pos rfl,if_pos rfl]
   rw [hnone] at hq
   cases hA:mget (L.take (atR L q)) q with
   | none=>rfl
   | some x=>rw [hA] at hq;cases hq
  ·rw [if_neg e,if_neg e,hq]
theorem nodup_mid {A B:RL} {e:ByteArray×NodeV} (h:((A++e::B).map (·.1)).Nodup):mget A e.1=none∧mget B e.1=none:=by
 rw [List.map_append,List.map_cons] at h
 obtain ⟨_,h2,h3⟩:=List.nodup_append.1 h
 exact ⟨mget_none.2 fun hm=>h3 _ hm _ (by simp) rfl,mget_none.2 (List.nodup_cons.1 h2).1⟩
theorem SortedAs.set {L:RL} {t:Pt} (h:SortedAs L t) {p:ByteArray} {n0:NodeV} (n:NodeV) (hp:mget t p=some n0):SortedAs (L.set (atR L p) (p,n)) (mset t p n):=by
 have hat:=at_some h.rise ((h.get p).trans hp)
 have hsp:=split_at hat
 obtain ⟨hk,_⟩:=List.getElem?_eq_some_iff.1 hat
 have hset:L.set (atR L p) (p,n)=L.take (atR L p)++(p,n)::L.drop (atR L p+1):=List.set_eq_take_append_cons_drop.trans (if_pos hk)
 have hnd:=rise_nodup h.rise
 rw [hsp] at hnd
 have hmid:=nodup_mid hnd
 refine ⟨?_,fun q=>?_⟩
 ·have e:keysR (L.set (atR L p) (p,n))=keysR L:=by
   rw [hset]
   conv=>rhs;rw [hsp]
   rw [keys_split,keys_split]
  rw [e];exact h.rise
 ·rw [hset,mget_append,mget_cons,mget_mset,← h.get]
  conv=>rhs;rw [hsp,mget_append,mget_cons]
  by_cases e:q=p
  ·subst e
   rw [if_pos rfl,if_pos rfl,hmid.1];rfl
  ·simp only
   rw [if_neg e,if_neg e,if_neg e]
theorem SortedAs.del {L:RL} {t:Pt} (h:SortedAs L t) {p:ByteArray} {n0:NodeV} (hp:mget t p=some n0):SortedAs (delR L (atR L p)) (mdel t p):=by
 have hat:=at_some h.rise ((h.get p).trans hp)
 have hsp:=split_at hat
 have hnd:=rise_nodup h.rise
 rw [hsp] at hnd
 have hmid:=nodup_mid hnd
 refine ⟨?_,fun q=>?_⟩
 ·have hr:=h.rise
  rw [hsp,keys_split] at hr
  have h1:=List.pairwise_append.1 hr
  unfold delR keysR
  rw [List.map_append]
  exact List.pairwise_append.2 ⟨h1.1,(List.pairwise_cons.1 h1.2.1).2,fun a ha b hb=>h1.2.2 a ha b (by unfold keysR;simp only [List.mem_cons];exact .inr hb)⟩
 ·unfold delR
  rw [mget_append,mget_mdel,← h.get]
  conv=>rhs;rw [hsp,mget_append,mget_cons]
  by_cases e:q=p
  ·subst e
   rw [if_pos rfl,hmid.1,hmid.2];rfl
  ·simp only
   rw [if_neg e,if_neg e]
end Go.Proofs.YtnlefnhdhigecaaGreatDoor

namespace Go.Proofs.YtnlefnhdhigecaaGreatDoor
set_option maxRecDepth 100000
open Go.RowKit Av
def isAt (L:RL) (p:ByteArray):Bool:=decide ((keysR L)[atR L p]? = some p.data.toList)
def tellL (f:NodeV→Bs→NodeV) (L:RL) (p:ByteArray):RL:=match parentL p.data.toList with
 | none=>L
 | some up=>match mget L ⟨up.toArray⟩ with
   | none=>L
   | some n=>L.set (atR L ⟨up.toArray⟩) (⟨up.toArray⟩,f n (lastL p.data.toList))
theorem isAt_some {L:RL} (hr:Rising (keysR L)) {p:ByteArray} {n:NodeV} (h:mget L p=some n):isAt L p=true:=by
 unfold isAt
 rw [decide_eq_true_iff]
 have:=at_some hr h
 unfold keysR
 rw [List.getElem?_map,this];rfl
theorem tellL_sorted {f:NodeV→Bs→NodeV} {L:RL} {t:Pt} (h:SortedAs L t) (p:ByteArray):SortedAs (tellL f L p) (tellP f t p):=by
 unfold tellL tellP
 cases parentL p.data.toList with
 | none=>exact h
 | some up=>
   simp only
   rw [h.get]
   cases hg:mget t ⟨up.toArray⟩ with
   | none=>exact h
   | some n=>exact h.set _ hg
theorem place_sorted {L:RL} {t:Pt} (h:SortedAs L t) (hl:L.length=t.length) (room:Int) (p:ByteArray) (f:Int):placeP room L p f=placeP room t p f:=by
 have hf:∀ q,finQ room L q=finQ room t q:=fun q=>by unfold finQ;rw [h.get,hl]
 unfold placeP
 cases parentL p.data.toList with
 | none=>exact hf p
 | some up=>
   simp only
   rw [h.get]
   cases mget t ⟨up.toArray⟩ with
   | none=>rfl
   | some n=>simp only [hf]
def createL (room:Int) (L:RL) (o:OpV) (sess z:Int):RL×Rp:=
 let q:=placeP room L o.path o.flags
 if q.2≠0 then (L,failR q.2) else
 let n:=ndNew z (ownF o.flags sess) o.data
 (putR (tellL ndAdd L q.1) (atR (tellL ndAdd L q.1) q.1) (q.1,n),⟨0,q.1,⟨#[]⟩,[],n⟩)
def changeL (L:RL) (o:OpV) (z:Int):RL×Rp:=match mget L o.path with
 | none=>(L,failR 4)
 | some n=>if wrongB o n=true then (L,failR 6)
   else if o.kind=2 then (if 0<n.names.length then (L,failR 7) else (tellL ndRem (delR L (atR L o.path)) o.path,⟨0,o.path,⟨#[]⟩,[],ndZ⟩))
   else if o.kind=3 then (L.set (atR L o.path) (o.path,ndWrite n z o.data),⟨0,o.path,⟨#[]⟩,[],ndWrite n z o.data⟩)
   else (L,⟨0,o.path,⟨#[]⟩,[],ndZ⟩)
def doL (room:Int) (L:RL) (o:OpV) (sess z:Int):RL×Rp:=
 if goodO o≠0 then (L,failR (goodO o)) else
 if sess<1∨z<0 then (L,failR 1) else
 if o.kind=1 then createL room L o sess z else
 if o.kind=2∨o.kind=3∨o.kind=4 then changeL L o z else (L,readP L o)
theorem parent_neq {q up:Bs} (h:parentL q=some up):up≠q:=fun e=>by
 have h1:=child_of h
 have h2:=congrArg List.length h1
 rw [e] at h2
 simp at h2
theorem tell_set {t:Pt} {q:ByteArray} (n:NodeV) (f:NodeV→Bs→NodeV) (p:ByteArray):mget (mset (tellP f t q) q n) p=mget (tellP f (mset t q n) q) p:=by
 unfold tellP
 cases hu:parentL q.data.toList with
 | none=>rfl
 | some up=>
   have hne:(⟨up.toArray⟩:ByteArray)≠q:=fun e=>parent_ne hu (by rw [← e])
   have e:mget (mset t q n) ⟨up.toArray⟩=mget t ⟨up.toArray⟩:=by rw [mget_mset,if_neg hne]
   simp only
   rw [e]
   cases mget t ⟨up.toArray⟩ with
   | none=>rfl
   | some m=>
     simp only
     rw [mget_mset,mget_mset,mget_mset,mget_mset]
     by_cases h1:p=q
     ·rw [if_pos h1,if_neg (fun h=>hne (by rw [← h,h1])),if_pos h1]
     ·rw [if_neg h1,if_neg h1]
theorem place_okP {room:Int} {t:Pt} {p q:ByteArray} {f:Int} (h:placeP room t p f=(q,0)):mget t q=none∧(t.length:Int)<room:=by
 have hf:∀ {a:ByteArray},finQ room t a=(q,0)→mget t q=none∧(t.length:Int)<room:=fun {a} h=>by
  unfold finQ at h
  split at h
  ·simp at h
  ·split at h
   ·simp at h
   ·rename_i h1 h2
    simp only [Prod.mk.injEq,and_true] at h
    subst h
    exact ⟨by simpa using h1,by omega⟩
 unfold placeP at h
 split at h
 ·exact hf h
 ·split at h
  ·simp at h
  ·split at h
   ·simp at h
   ·split at h
    ·split at h
     ·simp at h
     ·exact hf h
    ·exact hf h
theorem doL_doP {room:Int} {L:RL} {t:Pt} (h:SortedAs L t) (ht:(t.map (·.1)).Nodup) (o:OpV) (sess z:Int) :
  (doL room L o sess z).2=(doP room t o sess z false).2∧SortedAs (doL room L o sess z).1 (doP room t o sess z false).1:=by
 have hl:L.length=t.length:=by
  rw [h.own ht,own_len]
 unfold doL doP
 split
 ·exact ⟨rfl,h⟩
 ·split
  ·exact ⟨rfl,h⟩
  ·split
   ·unfold createL createP
    simp only
    rw [place_sorted h hl]
    split
    ·exact ⟨rfl,h⟩
    ·rename_i hq
     refine ⟨rfl, ?_⟩
     rw [if_neg (by decide)]
     obtain ⟨q,hqq⟩:∃ q,placeP room t o.path o.flags=q:=⟨_,rfl⟩
     rw [hqq] at hq ⊢
     have hq0:placeP room t o.path o.flags=(q.1,0):=by rw [hqq];exact Prod.ext rfl (Classical.not_not.1 hq)
     have hnone:mget t q.1=none:=(place_okP hq0).1
     have h1:=tellL_sorted (f:=ndAdd) h q.1
     have hn2:mget (tellP ndAdd t q.1) q.1=none:=by
      unfold tellP
      cases hu:parentL q.1.data.toList with
      | none=>exact hnone
      | some up=>
        have hne:q.1≠(⟨up.toArray⟩:ByteArray):=fun e=>parent_neq hu (by rw [e])
        simp only
        cases mget t ⟨up.toArray⟩ with
        | none=>exact hnone
        | some m=>simp only;rw [mget_mset,if_neg hne];exact hnone
     exact (h1.put (ndNew z (ownF o.flags sess) o.data) hn2).congr (fun p=>tell_set _ ndAdd p)
   ·split
    ·unfold changeL changeP
     rw [h.get]
     cases hg:mget t o.path with
     | none=>exact ⟨rfl,h⟩
     | some n=>
       simp only
       split
       ·exact ⟨rfl,h⟩
       ·split
        ·split
         ·exact ⟨rfl,h⟩
         ·refine ⟨rfl, ?_⟩
          rw [if_neg (by decide)]
          exact tellL_sorted (h.del hg) _
        ·split
         ·refine ⟨rfl, ?_⟩
          rw [if_neg (by decide)]
          exact h.set _ hg
         ·exact ⟨rfl,h⟩
    ·unfold readP
     rw [h.get]
     exact ⟨rfl,h⟩
end Go.Proofs.YtnlefnhdhigecaaGreatDoor

namespace Av
set_option maxRecDepth 100000
open Go
structure Wt where
 sess:Int
 path:ByteArray
 kind:Int
deriving DecidableEq,Inhabited
abbrev Wt.bs (a:Wt):Bs:=a.path.data.toList
theorem bs_inj {a b:ByteArray} (h:a.data.toList=b.data.toList):a=b:=by
 cases a;cases b;congr 1;exact Array.toList_inj.1 h
def ltW (a b:Wt):Bool:=decide (a.sess<b.sess)||(decide (a.sess=b.sess)&&(decide (a.kind<b.kind)||(decide (a.kind=b.kind)&&decide (a.bs<b.bs))))
theorem ltW_iff (a b:Wt):ltW a b=true↔a.sess<b.sess∨(a.sess=b.sess∧(a.kind<b.kind∨(a.kind=b.kind∧a.bs<b.bs))):=by simp [ltW]
theorem ltW_irrefl (a:Wt):ltW a a=false:=by
 rw [Bool.eq_false_iff];intro h
 rcases (ltW_iff _ _).1 h with h|⟨_,h|⟨_,h⟩⟩
 ·omega
 ·omega
 ·exact List.lt_irrefl _ h
theorem ltW_trans {a b c:Wt} (h1:ltW a b=true) (h2:ltW b c=true):ltW a c=true:=by
 rw [ltW_iff] at *
 rcases h1 with h1|⟨e1,h1|⟨f1,h1⟩⟩<;>rcases h2 with h2|⟨e2,h2|⟨f2,h2⟩⟩
 ·exact .inl (by omega)
 ·exact .inl (by omega)
 ·exact .inl (by omega)
 ·exact .inl (by omega)
 ·exact .inr ⟨by omega, .inl (by omega)⟩
 ·exact .inr ⟨by omega, .inl (by omega)⟩
 ·exact .inl (by omega)
 ·exact .inr ⟨by omega, .inl (by omega)⟩
 ·exact .inr ⟨by omega, .inr ⟨by omega,List.lt_trans h1 h2⟩⟩
theorem ltW_total {a b:Wt} (h1:ltW a b=false) (h2:ltW b a=false):a=b:=by
 rw [Bool.eq_false_iff,ne_eq,ltW_iff] at h1 h2
 have e1:a.sess=b.sess:=by
  apply Int.le_antisymm
  ·exact Int.not_lt.1 fun h=>h2 (.inl h)
  ·exact Int.not_lt.1 fun h=>h1 (.inl h)
 have e2:a.kind=b.kind:=by
  apply Int.le_antisymm
  ·exact Int.not_lt.1 fun h=>h2 (.inr ⟨e1.symm, .inl h⟩)
  ·exact Int.not_lt.1 fun h=>h1 (.inr ⟨e1, .inl h⟩)
 have e3:a.path=b.path:=bs_inj (List.le_antisymm (fun h=>h2 (.inr ⟨e1.symm, .inr ⟨e2.symm,h⟩⟩)) (fun h=>h1 (.inr ⟨e1, .inr ⟨e2,h⟩⟩)))
 cases a;cases b;simp_all
theorem ltW_asymm {a b:Wt} (h:ltW a b=true):ltW b a=false:=by
 cases hb:ltW b a with
 | false=>rfl
 | true=>have:=ltW_trans h hb;rw [ltW_irrefl] at this;cases this
theorem ltW_or {a b:Wt} (hne:a≠b) (h:ltW a b=false):ltW b a=true:=by
 cases hb:ltW b a with
 | true=>rfl
 | false=>exact absurd (ltW_total h hb) hne
theorem ltW_ntrans {a b c:Wt} (h1:ltW a b=false) (h2:ltW b c=false):ltW a c=false:=by
 cases hc:ltW a c with
 | false=>rfl
 | true=>
   by_cases e1:a=b
   ·subst e1;rw [h2] at hc;cases hc
   ·have:=ltW_trans (ltW_or e1 h1) hc
    rw [h2] at this;cases this
def cmpV (l g:Bool):Int:=match l,g with
 | true,_=>-1
 | false,true=>1
 | false,false=>0
def orI:List Int→Int
 | []=>0
 | x::r=>bif x == 0 then orI r else x
def cmpI (x y:Int):Int:=cmpV (decide (x<y)) (decide (y<x))
def cmpS (x y:ByteArray):Int:=cmpV (decide (x.data.toList<y.data.toList)) (decide (y.data.toList<x.data.toList))
def ordW (a b:Wt):Int:=orI [cmpI a.sess b.sess,cmpI a.kind b.kind,cmpS a.path b.path]
theorem cmpI_lt (x y:Int):(x<y→cmpI x y=-1)∧(x=y→cmpI x y=0)∧(y<x→cmpI x y=1):=by
 refine ⟨fun h=>?_,fun h=>?_,fun h=>?_⟩
 ·simp [cmpI,h,cmpV]
 ·subst h;simp [cmpI,cmpV]
 ·have:¬ x<y:=by omega
  simp [cmpI,h,this,cmpV]
theorem ordW_lt (a b:Wt):decide (ordW a b<0)=ltW a b:=by
 rw [Bool.eq_iff_iff,decide_eq_true_iff,ltW_iff]
 unfold ordW
 rcases Int.lt_trichotomy a.sess b.sess with h|h|h
 ·rw [(cmpI_lt _ _).1 h];simp [orI,h]
 ·rw [(cmpI_lt _ _).2.1 h]
  rcases Int.lt_trichotomy a.kind b.kind with h2|h2|h2
  ·rw [(cmpI_lt _ _).1 h2];simp [orI,h,h2]
  ·rw [(cmpI_lt _ _).2.1 h2]
   unfold cmpS
   by_cases h3:a.bs<b.bs
   ·simp [orI,h,h2,h3,cmpV]
   ·by_cases h4:b.bs<a.bs<;>simp [orI,h,h2,h3,h4,cmpV]
  ·rw [(cmpI_lt _ _).2.2 h2];simp [orI,h];omega
 ·rw [(cmpI_lt _ _).2.2 h];simp [orI];omega
abbrev RisW (l:List Wt):Prop:=l.Pairwise (fun a b=>ltW a b=true)
def befN (s:Wt):List Wt→Nat
 | []=>0
 | t::r=>if ltW t s then befN s r+1 else 0
theorem befN_le (s:Wt):∀ (l:List Wt),befN s l≤l.length
 | []=>Nat.le_refl _
 | t::r=>by unfold befN;split<;>simp [befN_le s r]
def wtOk (x:Wt):Bool:=decide (1≤x.sess)&&(goodL x.bs&&(decide (x.kind=1)||decide (x.kind=2)))
def evG (p up:ByteArray) (ch:Int) (x:Wt):Int:=
 if x.kind=1∧x.path=p then ch else if (x.kind=2∧ch=2)∧x.path=p then ch else if ((x.kind=2∧ch≠3)∧up≠⟨#[]⟩)∧x.path=up then 4 else 0
def toldW (f:Wt→Int) (l:List Wt):List Wt:=l.filterMap fun x=>if f x=0 then none else some { x with kind:=f x }
def restW (f:Wt→Int) (l:List Wt):List Wt:=l.filter fun x=>decide (f x=0)
theorem toldW_snoc (f:Wt→Int) (l:List Wt) (x:Wt):toldW f (l++[x])=if f x=0 then toldW f l else toldW f l++[{ x with kind:=f x }]:=by
 unfold toldW
 rw [List.filterMap_append]
 by_cases h:f x=0<;>simp [h]
theorem told_rest_len (f:Wt→Int):∀ (l:List Wt),(toldW f l).length+(restW f l).length=l.length
 | []=>rfl
 | x::l=>by
   have:=told_rest_len f l
   unfold toldW restW at *
   by_cases h:f x=0
   ·simp [h];omega
   ·simp [h];omega
def sortW (l:List Wt):List Wt:=l.mergeSort fun x y=>!ltW y x
theorem sortW_mem {l:List Wt} {x:Wt}:x∈sortW l↔x∈l:=(List.mergeSort_perm l _).mem_iff
theorem sortW_perm (l:List Wt):(sortW l).Perm l:=List.mergeSort_perm l _
theorem sortW_len (l:List Wt):(sortW l).length=l.length:=(sortW_perm l).length_eq
structure AsW (l m:List Wt):Prop where
 nod:l.Nodup
 ris:RisW m
 mem:∀ x,x∈m↔x∈l
 ok:∀ x∈l,wtOk x=true
theorem wtOk_iff (x:Wt):wtOk x=true↔1≤x.sess∧goodL x.bs=true∧(x.kind=1∨x.kind=2):=by simp [wtOk]
def armE (room:Nat) (l:List Wt) (x:Wt):Int:=if wtOk x=false then 1 else if x∈l then 0 else if room≤l.length then 9 else 0
def armG (room:Nat) (l:List Wt) (x:Wt):List Wt:=if wtOk x=true∧x∉l∧l.length<room then l++[x] else l
def fireOk (p:ByteArray) (ch:Int):Bool:=goodL p.data.toList&&(decide (1≤ch)&&decide (ch≤3))
def fireT (p:ByteArray) (ch:Int) (l:List Wt):List Wt:=if fireOk p ch then toldW (evG p (optS (parentL p.data.toList)) ch) (sortW l) else []
def fireG (p:ByteArray) (ch:Int) (l:List Wt):List Wt:=if fireOk p ch then restW (evG p (optS (parentL p.data.toList)) ch) (sortW l) else l
def dropW (s:Int) (l:List Wt):List Wt:=l.filter fun x=>decide (x.sess≠s)
theorem fireOk_iff (p:ByteArray) (ch:Int):fireOk p ch=true↔goodL p.data.toList=true∧1≤ch∧ch≤3:=by simp [fireOk]
theorem armG_len (room:Nat) (l:List Wt) (x:Wt):l.length≤(armG room l x).length∧(armG room l x).length≤l.length+1:=by
 unfold armG;split<;>simp
theorem fire_len (p:ByteArray) (ch:Int) (l:List Wt):(fireT p ch l).length+(fireG p ch l).length=l.length:=by
 unfold fireT fireG
 split
 ·rw [told_rest_len,sortW_len]
 ·simp
end Av

namespace Av
set_option maxRecDepth 100000
open Go Go.RowKit
theorem rows_cell {α:Type} (f:α→List Value) (K:Nat) (hf:∀ x,(f x).length=K):∀ (xs:List α) (k:Nat) (hk:k<xs.length) (j:Nat),j<K→(xs.flatMap f)[k*K+j]? = (f xs[k])[j]?
 | [],_,hk,_,_=>by simp at hk
 | a::xs,0,_,j,hj=>by
   simp only [List.flatMap_cons,List.getElem_cons_zero,Nat.zero_mul,Nat.zero_add]
   rw [List.getElem?_append_left (by rw [hf];exact hj)]
 | a::xs,k+1,hk,j,hj=>by
   simp only [List.flatMap_cons,List.getElem_cons_succ]
   rw [List.getElem?_append_right (by rw [hf,Nat.succ_mul];omega)]
   have:=rows_cell f K hf xs k (by simpa using hk) j hj
   rw [← this,hf]
   congr 1
   rw [Nat.succ_mul]
   omega
def OpsAt (w:World) (v:Value) (xs:List OpV):Prop:=Sl w 5 v xs.length (xs.flatMap OpV.cells)∧Shp v
theorem OpsAt.ext {w w':World} {v:Value} {xs:List OpV} (h:OpsAt w v xs) (k:Ext w w'):OpsAt w' v xs:=⟨h.1.ext k,h.2⟩
theorem OpsAt.kp {S:Nat→Prop} {w w':World} {v:Value} {xs:List OpV} (h:OpsAt w v xs) (k:Kp S w w') (hs:∀ b,v.ownBlock=some b→b<w.heap.size→¬ S b):OpsAt w' v xs:=⟨h.1.kp k hs,h.2⟩
theorem OpsAt.open {w:World} {v:Value} {xs:List OpV} (h:OpsAt w v xs) :
  ∃ a c,v=.slice a xs.length c∧xs.length≤c∧xs.length≤maxLen∧(0<xs.length→∃ b off,a=some ⟨b,off,none⟩∧b<w.heap.size∧∀ k (hk:k<xs.length),
    w.cell? ⟨b,off+k*5,none⟩=some (.int .i64 xs[k].kind)∧w.cell? ⟨b,off+k*5+1,none⟩=some (.string xs[k].path)∧w.cell? ⟨b,off+k*5+2,none⟩=some (.string xs[k].data)∧
    w.cell? ⟨b,off+k*5+3,none⟩=some (.int .i64 xs[k].ver)∧w.cell? ⟨b,off+k*5+4,none⟩=some (.int .i64 xs[k].flags)):=by
 obtain ⟨a,c,rfl,hcc,h1,_,h3⟩:=Sl.open h.1
 refine ⟨a,c,rfl,hcc,h1,fun hn=>?_⟩
 obtain ⟨b,off,rfl,hb,hc⟩:=h3 hn
 have key:∀ k (hk:k<xs.length) j x,j<5→(xs[k].cells)[j]? = some x→w.cell? ⟨b,off+(k*5+j),none⟩=some x:=fun k hk j x hj hx=>
  hc (k*5+j) x (by rw [rows_cell OpV.cells 5 (fun _=>rfl) xs k hk j hj];exact hx)
 refine ⟨b,off,rfl,hb,fun k hk=>⟨?_, ?_, ?_, ?_, ?_⟩⟩
 ·have:=key k hk 0 _ (by omega) rfl;rwa [Nat.add_zero] at this
 ·have:=key k hk 1 _ (by omega) rfl;rwa [← Nat.add_assoc] at this
 ·have:=key k hk 2 _ (by omega) rfl;rwa [← Nat.add_assoc] at this
 ·have:=key k hk 3 _ (by omega) rfl;rwa [← Nat.add_assoc] at this
 ·have:=key k hk 4 _ (by omega) rfl;rwa [← Nat.add_assoc] at this
def OpsSz (xs:List OpV):Prop:=∀ o∈xs,o.path.size≤maxLen∧o.data.size≤maxLen
def mayR (sess num:Int) (xs:List OpV):Int:=
 if sess<1∨num<1∨xs.length=0 then 1 else if 16<xs.length then 2 else
  match xs.find? fun o=>decide (goodO o≠0) with
  | some o=>goodO o
  | none=>if 1<xs.length∧xs.any (fun o=>readsB o.kind)=true then 1 else 0
def idxI (p:OpV→Bool) (xs:List OpV):Int:=match xs.findIdx? p with
 | some i=>i
 | none=>-1
theorem idxI_at {p:OpV→Bool} {xs:List OpV} {k:Nat} (hk:k<xs.length) (h:∀ x∈xs.take k,p x=false) (hp:p xs[k]=true):idxI p xs=k:=by
 unfold idxI
 have:xs.findIdx? p=some k:=by
  rw [List.findIdx?_eq_some_iff_getElem]
  refine ⟨hk,hp,fun j hj=>?_⟩
  have:=h (xs[j]) (by rw [List.mem_take_iff_getElem];exact ⟨j,by omega,rfl⟩)
  simp [this]
 rw [this]
theorem idxI_none {p:OpV→Bool} {xs:List OpV} (h:∀ x∈xs,p x=false):idxI p xs=-1:=by
 unfold idxI
 have:xs.findIdx? p=none:=by rw [List.findIdx?_eq_none_iff];exact h
 rw [this]
theorem idxI_any (p:OpV→Bool) (xs:List OpV):decide (0≤idxI p xs)=xs.any p:=by
 unfold idxI
 cases h:xs.findIdx? p with
 | none=>
   have:xs.any p=false:=by rw [List.any_eq_false];intro x hx;simp [List.findIdx?_eq_none_iff.1 h x hx]
   rw [this]
   rfl
 | some i=>
   obtain ⟨hi,hp,_⟩:=List.findIdx?_eq_some_iff_getElem.1 h
   have:xs.any p=true:=List.any_eq_true.2 ⟨_,List.getElem_mem hi,hp⟩
   rw [this]
   simp
theorem take_allP {α:Type} {p:α→Prop} {l:List α} {k:Nat} (hk:k<l.length) (h:∀ x∈l.take k,p x) (hp:p l[k]):∀ x∈l.take (k+1),p x:=by
 intro x hx
 rw [List.take_succ_eq_append_getElem hk] at hx
 rcases List.mem_append.1 hx with hx|hx
 ·exact h x hx
 ·simp at hx;subst hx;exact hp
theorem find_atP {α:Type} (f:α→Bool) (l:List α) (k:Nat) (hk:k<l.length) (h:∀ x∈l.take k,f x=false) (hf:f l[k]=true):l.find? f=some l[k]:=by
 rw [List.find?_eq_some_iff_getElem]
 refine ⟨hf,k,hk,rfl,fun j hj=>?_⟩
 have:=h (l[j]) (by rw [List.mem_take_iff_getElem];exact ⟨j,by omega,rfl⟩)
 simp [this]
theorem mayR_few {sess num:Int} {xs:List OpV} (h:sess<1∨num<1∨xs.length=0):mayR sess num xs=1:=by unfold mayR;rw [if_pos h]
theorem mayR_many {sess num:Int} {xs:List OpV} (h:¬ (sess<1∨num<1∨xs.length=0)) (h2:16<xs.length):mayR sess num xs=2:=by unfold mayR;rw [if_neg h,if_pos h2]
theorem mayR_bad {sess num:Int} {xs:List OpV} (h:¬ (sess<1∨num<1∨xs.length=0)) (h2:¬ 16<xs.length) {k:Nat} (hk:k<xs.length) (h3:∀ x∈xs.take k,goodO x=0) (h4:goodO xs[k]≠0):mayR sess num xs=goodO xs[k]:=by
 unfold mayR
 rw [if_neg h,if_neg h2,find_atP _ xs k hk (fun x hx=>by simp [h3 x hx]) (by simpa using h4)]
theorem mayR_all {sess num:Int} {xs:List OpV} (h:¬ (sess<1∨num<1∨xs.length=0)) (h2:¬ 16<xs.length) (h3:∀ x∈xs,goodO x=0):mayR sess num xs=if 1<xs.length∧xs.any (fun o=>readsB o.kind)=true then 1 else 0:=by
 unfold mayR
 have:xs.find? (fun o=>decide (goodO o≠0))=none:=by rw [List.find?_eq_none];intro x hx;simp [h3 x hx]
 rw [if_neg h,if_neg h2,this]
end Av

namespace Go.Proofs.YtnlefnhdhigecaaGreatDoor
set_option maxRecDepth 100000
open Go.RowKit Av
structure SeV where
 id:Int
 span:Int
 till:Int
abbrev scell (e:SeV):List Value:=[.int .i64 e.id, .int .i64 e.span, .int .i64 e.till]
structure SsV where
 room:Int
 now:Int
 next:Int
 l:List SeV
def isS (id:Int) (x:SeV):Bool:=decide (x.id=id)
def findS (l:List SeV) (id:Int):Option Nat:=l.findIdx? (isS id)
def liveS (s:SsV) (id:Int):Bool:=(findS s.l id).isSome
def openS (s:SsV) (span:Int):SsV×Int×Int:=
 if span<1∨10000<span then (s,0,1) else if s.room≤(s.l.length:Int) then (s,0,9)
 else (⟨s.room,s.now,s.next+1,s.l++[⟨s.next,span,s.now+span⟩]⟩,s.next,0)
def setTill (l:List SeV) (k:Nat) (now:Int):List SeV:=match l[k]? with
 | none=>l
 | some x=>l.set k ⟨x.id,x.span,now+x.span⟩
def touchS (s:SsV) (id:Int):SsV×Int:=match findS s.l id with
 | none=>(s,11)
 | some k=>(⟨s.room,s.now,s.next,setTill s.l k s.now⟩,0)
def closeS (s:SsV) (id:Int):SsV×Int:=match findS s.l id with
 | none=>(s,11)
 | some k=>(⟨s.room,s.now,s.next,s.l.take k++s.l.drop (k+1)⟩,0)
def overS (now:Int) (x:SeV):Bool:=decide (x.till≤now)
def tickS (s:SsV):SsV×List Int:=(⟨s.room,s.now+1,s.next,s.l.filter fun x=>!overS (s.now+1) x⟩,(s.l.filter (overS (s.now+1))).map (·.id))
theorem findS_at {l:List SeV} {id:Int} {k:Nat} (hk:k<l.length) (h:∀ x∈l.take k,isS id x=false) (hp:isS id l[k]=true):findS l id=some k:=by
 unfold findS
 rw [List.findIdx?_eq_some_iff_getElem]
 refine ⟨hk,hp,fun j hj=>?_⟩
 have:=h (l[j]) (by rw [List.mem_take_iff_getElem];exact ⟨j,by omega,rfl⟩)
 simp [this]
theorem findS_none {l:List SeV} {id:Int} (h:∀ x∈l,isS id x=false):findS l id=none:=by
 unfold findS
 rw [List.findIdx?_eq_none_iff];exact h
theorem findS_lt {l:List SeV} {id:Int} {k:Nat} (h:findS l id=some k):∃ hk:k<l.length,l[k].id=id:=by
 unfold findS at h
 rw [List.findIdx?_eq_some_iff_getElem] at h
 obtain ⟨hk,hp,_⟩:=h
 exact ⟨hk,of_decide_eq_true hp⟩
structure SsOk (N:Nat) (s:SsV):Prop where
 room:s.room=64
 now:0≤s.now∧s.now≤N
 next:1≤s.next∧s.next≤N+1
 len:s.l.length≤64
 ids:∀ x∈s.l,1≤x.id∧x.id<s.next
 span:∀ x∈s.l,1≤x.span∧x.span≤10000
theorem SsOk.mono {N M:Nat} {s:SsV} (h:SsOk N s) (hm:N≤M):SsOk M s:=⟨h.room,⟨h.now.1,by have:=h.now.2;omega⟩,⟨h.next.1,by have:=h.next.2;omega⟩,h.len,h.ids,h.span⟩
theorem SsOk.open {N:Nat} {s:SsV} (h:SsOk N s) (span:Int):SsOk (N+1) (openS s span).1:=by
 unfold openS
 split
 ·exact h.mono (by omega)
 ·split
  ·exact h.mono (by omega)
  ·rename_i h1 h2
   have hr:=h.room
   have hn:=h.next
   refine ⟨hr,⟨h.now.1,by have:=h.now.2;show s.now≤_;omega⟩,⟨by show 1≤s.next+1;omega,by show s.next+1≤_;omega⟩,by show (s.l++_).length≤64;rw [List.length_append,List.length_singleton];omega, ?_, ?_⟩
   ·intro x hx
    rcases List.mem_append.1 hx with hx|hx
    ·have:=h.ids x hx;exact ⟨this.1,by show x.id<s.next+1;omega⟩
    ·simp only [List.mem_singleton] at hx;subst hx;exact ⟨hn.1,by show s.next<s.next+1;omega⟩
   ·intro x hx
    rcases List.mem_append.1 hx with hx|hx
    ·exact h.span x hx
    ·simp only [List.mem_singleton] at hx;subst hx;exact ⟨by show 1≤span;omega,by show span≤10000;omega⟩
theorem SsOk.sub {N:Nat} {s:SsV} (h:SsOk N s) {now:Int} {l:List SeV} (hl:l.length≤s.l.length) (hs:∀ x∈l,∃ y∈s.l,x.id=y.id∧x.span=y.span) (hn:0≤now∧now≤N):SsOk N ⟨s.room,now,s.next,l⟩:=
 ⟨h.room,hn,h.next,Nat.le_trans hl h.len,fun x hx=>by obtain ⟨y,hy,e,_⟩:=hs x hx;rw [e];exact h.ids y hy,fun x hx=>by obtain ⟨y,hy,_,e⟩:=hs x hx;rw [e];exact h.span y hy⟩
theorem setTill_mem {l:List SeV} {k:Nat} {now:Int} {x:SeV} (h:x∈setTill l k now):∃ y∈l,x.id=y.id∧x.span=y.span:=by
 unfold setTill at h
 split at h
 ·exact ⟨x,h,rfl,rfl⟩
 ·rename_i y hy
  rcases List.mem_or_eq_of_mem_set h with h|rfl
  ·exact ⟨x,h,rfl,rfl⟩
  ·exact ⟨y,List.mem_of_getElem? hy,rfl,rfl⟩
theorem setTill_len (l:List SeV) (k:Nat) (now:Int):(setTill l k now).length=l.length:=by
 unfold setTill
 split
 ·rfl
 ·rw [List.length_set]
theorem SsOk.touch {N:Nat} {s:SsV} (h:SsOk N s) (id:Int):SsOk N (touchS s id).1:=by
 unfold touchS
 split
 ·exact h
 ·exact h.sub (by rw [setTill_len];exact Nat.le_refl _) (fun x hx=>setTill_mem hx) h.now
theorem SsOk.close {N:Nat} {s:SsV} (h:SsOk N s) (id:Int):SsOk N (closeS s id).1:=by
 unfold closeS
 split
 ·exact h
 ·refine h.sub (by rw [List.length_append,List.length_take,List.length_drop];omega) (fun x hx=>⟨x, ?_,rfl,rfl⟩) h.now
  rcases List.mem_append.1 hx with hx|hx
  ·exact List.mem_of_mem_take hx
  ·exact List.mem_of_mem_drop hx
theorem SsOk.tick {N:Nat} {s:SsV} (h:SsOk N s):SsOk (N+1) (tickS s).1:=
 (h.mono (Nat.le_succ N)).sub (List.length_filter_le _ _) (fun x hx=>⟨x,(List.mem_filter.1 hx).1,rfl,rfl⟩) ⟨by have:=h.now;omega,by have:=h.now;omega⟩
structure RpV where
 num:Int
 zxid:Int
 err:Int
 at_:Int
 res:List Rp
def failRs (e:Int) (at_:Int) (n:Nat):List Rp:=(List.range n).map fun (i:Nat)=>failR (if (i:Int)=at_ then e else 14)
def failRp (num e at_ n:Int):RpV:=⟨num,0,e,at_,if n<0∨16<n then [] else failRs e at_ n.toNat⟩
theorem failRs_len (e at_:Int) (n:Nat):(failRs e at_ n).length=n:=by simp [failRs]
def runL (room sess z:Int):RL→List OpV→RL×List Rp×Int
 | L,[]=>(L,[],0)
 | L,o::os=>if (doL room L o sess z).2.err≠0 then ((doL room L o sess z).1,[],(doL room L o sess z).2.err)
   else ((runL room sess z (doL room L o sess z).1 os).1,(doL room L o sess z).2::(runL room sess z (doL room L o sess z).1 os).2.1,(runL room sess z (doL room L o sess z).1 os).2.2)
def multiL (room:Int) (L:RL) (sess z:Int) (ops:List OpV):RL×RpV×Bool:=
 if 16<ops.length then (L,failRp 0 2 (-1) 0,false) else if ops.length=0 then (L,failRp 0 1 (-1) 0,false) else
 if (runL room sess z L ops).2.2≠0 then (L,failRp 0 (runL room sess z L ops).2.2 (runL room sess z L ops).2.1.length ops.length,false)
 else ((runL room sess z L ops).1,⟨0,z,0, -1,(runL room sess z L ops).2.1⟩,true)
def requestL (room:Int) (L:RL) (sess num z:Int) (ops:List OpV):RL×RpV:=
 if mayR sess num ops≠0 then (L,failRp num (mayR sess num ops) (-1) 0) else
 ((multiL room L sess z ops).1,{ (multiL room L sess z ops).2.1 with num:=num,zxid:=z })
theorem runL_len (room sess z:Int):∀ (L:RL) (ops:List OpV),(runL room sess z L ops).2.2=0→(runL room sess z L ops).2.1.length=ops.length
 | _,[],_=>rfl
 | L,o::os,h=>by
   unfold runL at h ⊢
   split at h
   ·rename_i h1;exact absurd h h1
   ·rename_i h1
    rw [if_neg h1]
    simp only [List.length_cons]
    rw [runL_len room sess z _ os h]
theorem runL_snoc (room sess z:Int):∀ (L:RL) (ops:List OpV) (o:OpV),(runL room sess z L ops).2.2=0→runL room sess z L (ops++[o]) =
  if (doL room (runL room sess z L ops).1 o sess z).2.err≠0 then ((doL room (runL room sess z L ops).1 o sess z).1,(runL room sess z L ops).2.1,(doL room (runL room sess z L ops).1 o sess z).2.err)
  else ((doL room (runL room sess z L ops).1 o sess z).1,(runL room sess z L ops).2.1++[(doL room (runL room sess z L ops).1 o sess z).2],0)
 | L,[],o,_=>by
   show runL room sess z L [o]=_
   unfold runL
   rfl
 | L,a::os,o,h=>by
   rw [List.cons_append]
   unfold runL at h ⊢
   split at h
   ·rename_i h1;exact absurd h h1
   ·rename_i h1
    rw [if_neg h1,if_neg h1]
    rw [runL_snoc room sess z _ os o h]
    split<;>rfl
theorem runL_stop (room sess z:Int) {L:RL} {ops:List OpV} {j:Nat} (hj:j<ops.length) (h:(runL room sess z L (ops.take j)).2.2=0) (he:(doL room (runL room sess z L (ops.take j)).1 ops[j] sess z).2.err≠0) :
  (runL room sess z L ops).2.2=(doL room (runL room sess z L (ops.take j)).1 ops[j] sess z).2.err∧(runL room sess z L ops).2.1.length=j:=by
 have h1:=runL_snoc room sess z L (ops.take j) ops[j] h
 rw [if_pos he,← List.take_succ_eq_append_getElem hj] at h1
 have key:∀ (a b:List OpV) (L:RL),(runL room sess z L a).2.2≠0→runL room sess z L (a++b)=runL room sess z L a:=by
  intro a b
  induction a with
  | nil=>intro L h;exact absurd rfl h
  | cons x a ih=>
    intro L h
    rw [List.cons_append]
    unfold runL at h ⊢
    split
    ·rfl
    ·rename_i h1
     rw [if_neg h1] at h
     rw [ih _ h]
 have h2:=key (ops.take (j+1)) (ops.drop (j+1)) L (by rw [h1];exact he)
 rw [List.take_append_drop] at h2
 rw [h2,h1]
 refine ⟨rfl, ?_⟩
 simp only
 rw [runL_len _ _ _ _ _ h,List.length_take]
 omega
end Go.Proofs.YtnlefnhdhigecaaGreatDoor

namespace Go.Proofs.YtnlefnhdhigecaaGreatDoor
set_option maxRecDepth 100000
open Go.RowKit Av
def remL (L:RL) (p:ByteArray):RL:=tellL ndRem (match mget L p with
 | none=>L
 | some _=>delR L (atR L p)) p
def ofBL (L:RL) (sess:Int):List ByteArray:=(L.filter fun e=>decide (0<sess∧e.2.own=sess)).map (·.1)
def deepB (p:ByteArray):Nat:=(partsL p.data.toList).length
def sortD (l:List ByteArray):List ByteArray:=l.mergeSort fun a b=>decide (deepB b≤deepB a)
def purgeL (L:RL) (sess:Int):RL×List ByteArray:=((sortD (ofBL L sess)).foldl remL L,sortD (ofBL L sess))
theorem sortD_perm (l:List ByteArray):(sortD l).Perm l:=List.mergeSort_perm l _
structure SoV where
 room:Int
 tr:RL
 ss:SsV
 wl:List Wt
 zx:Int
 last:List (Int×RpV)
 ev:Int→List Wt
def soZ (room:Int):SoV:=⟨room,[],⟨64,0,1,[]⟩,[],0,[],fun _=>[]⟩
def addEv (ss:SsV) (ev:Int→List Wt) (e:Wt):Int→List Wt:=if liveS ss e.sess=true then fun q=>if q=e.sess then ev q++[e] else ev q else ev
def fireS (s:SoV) (p:ByteArray) (ch:Int):SoV:={ s with wl:=fireG p ch s.wl,ev:=(fireT p ch s.wl).foldl (addEv s.ss) s.ev }
def goneS (s:SoV) (l:List ByteArray):SoV:=l.foldl (fun s p=>fireS s p 2) s
def endS (s:SoV) (id:Int):SoV:=
 let P:=purgeL s.tr id
 let s1:=goneS { s with zx:=s.zx+1,tr:=P.1 } P.2
 { s1 with wl:=dropW id s1.wl,ev:=fun q=>if q=id then [] else s1.ev q,last:=mdel s1.last id }
def openO (s:SoV) (span:Int):SoV×Int×Int:=({ s with ss:=(openS s.ss span).1 },(openS s.ss span).2)
def closeO (s:SoV) (id:Int):SoV×Int:=if (closeS s.ss id).2≠0 then (s,(closeS s.ss id).2) else (endS { s with ss:=(closeS s.ss id).1 } id,0)
def tickO (s:SoV):SoV×List Int:=((tickS s.ss).2.foldl endS { s with ss:=(tickS s.ss).1 },(tickS s.ss).2)
def chOf (k:Int):Int:=if k=1 then 1 else if k=2 then 2 else if k=3 then 3 else 0
def chStep (s:SoV) (x:OpV×Rp):SoV:=if chOf x.1.kind=0 then s else fireS s x.2.path (chOf x.1.kind)
def changedS (s:SoV) (ops:List OpV) (r:RpV):SoV:=if r.err≠0 then s else (ops.zip r.res).foldl chStep s
def doneS (s:SoV) (sess num:Int) (ops:List OpV):SoV×RpV:=
 let X:=requestL s.room s.tr sess num (s.zx+1) ops
 let s3:=changedS { s with zx:=s.zx+1,tr:=X.1 } ops X.2
 ({ s3 with last:=mset s3.last sess X.2 },X.2)
def askS (s:SoV) (sess num:Int) (ops:List OpV):SoV×RpV:=
 if mayR sess num ops≠0 then (s,failRp num (mayR sess num ops) (-1) 0) else
 if (touchS s.ss sess).2≠0 then (s,failRp num 11 (-1) ops.length) else
 match mget s.last sess with
 | none=>doneS { s with ss:=(touchS s.ss sess).1 } sess num ops
 | some r=>if num=r.num then ({ s with ss:=(touchS s.ss sess).1 },r)
   else if num<r.num then ({ s with ss:=(touchS s.ss sess).1 },failRp num 1 (-1) ops.length)
   else doneS { s with ss:=(touchS s.ss sess).1 } sess num ops
def watchO (s:SoV) (x:Wt):SoV×Int:=if liveS s.ss x.sess=false then (s,11) else ({ s with wl:=armG 1000 s.wl x },armE 1000 s.wl x)
def eventsO (s:SoV) (id:Int):SoV×List Wt:=({ s with ev:=fun q=>if q=id then [] else s.ev q },s.ev id)
end Go.Proofs.YtnlefnhdhigecaaGreatDoor

namespace Go.Proofs.YtnlefnhdhigecaaGreatDoor
set_option maxRecDepth 100000
open Go.RowKit Av
def insI {α:Type} (le:α→α→Bool) (a:α):List α→List α
 | []=>[a]
 | b::l=>if le a b then a::b::l else b::insI le a l
def msI {α:Type} (le:α→α→Bool):List α→List α
 | []=>[]
 | a::l=>insI le a (msI le l)
theorem insI_at {α:Type} {le:α→α→Bool} {a:α}:∀ (l m:List α),(∀ b∈l,(!le a b)=true)→(∀ b∈m,le a b=true)→insI le a (l++m)=l++a::m
 | [],[],_,_=>rfl
 | [],b::m,_,h=>by
   show (if le a b then _ else _)=_
   rw [if_pos (h b (by simp))];rfl
 | b::l,m,h1,h2=>by
   have hb:=h1 b (by simp)
   show (if le a b then _ else _)=_
   rw [if_neg (by simpa using hb)]
   show b::insI le a (l++m)=_
   rw [insI_at l m (fun x hx=>h1 x (by simp [hx])) h2];rfl
theorem ms_eq {α:Type} {le:α→α→Bool} (trans:∀ a b c,le a b=true→le b c=true→le a c=true) (total:∀ a b,(le a b||le b a)=true):∀ l:List α,l.mergeSort le=msI le l
 | []=>by simp [msI]
 | a::l=>by
   obtain ⟨l1,l2,h1,h2,h3⟩:=List.mergeSort_cons (le:=le) trans total a l
   have hs:=List.pairwise_mergeSort trans total (a::l)
   rw [h1] at hs
   have hs2:=(List.pairwise_cons.1 (List.pairwise_append.1 hs).2.1).1
   show _=insI le a (msI le l)
   rw [← ms_eq trans total l,h2,h1,insI_at l1 l2 h3 hs2]
def sortWi (l:List Wt):List Wt:=msI (fun x y=>!ltW y x) l
theorem sortW_i (l:List Wt):sortW l=sortWi l:=ms_eq (fun a b c h1 h2=>by simp only [Bool.not_eq_true'] at *;exact ltW_ntrans h2 h1) (fun a b=>by
  cases h1:ltW a b<;>cases h2:ltW b a<;>simp
  have:=ltW_asymm h1;rw [h2] at this;cases this) l
def sortDi (l:List ByteArray):List ByteArray:=msI (fun a b=>decide (deepB b≤deepB a)) l
theorem sortD_i (l:List ByteArray):sortD l=sortDi l:=ms_eq (fun a b c h1 h2=>by simp only [decide_eq_true_eq] at *;omega) (fun a b=>by simp only [Bool.or_eq_true,decide_eq_true_eq];omega) l
def fireTi (p:ByteArray) (ch:Int) (l:List Wt):List Wt:=if fireOk p ch then toldW (evG p (optS (parentL p.data.toList)) ch) (sortWi l) else []
def fireGi (p:ByteArray) (ch:Int) (l:List Wt):List Wt:=if fireOk p ch then restW (evG p (optS (parentL p.data.toList)) ch) (sortWi l) else l
theorem fireT_i (p:ByteArray) (ch:Int) (l:List Wt):fireT p ch l=fireTi p ch l:=by unfold fireT fireTi;rw [sortW_i]
theorem fireG_i (p:ByteArray) (ch:Int) (l:List Wt):fireG p ch l=fireGi p ch l:=by unfold fireG fireGi;rw [sortW_i]
def fireSi (s:SoV) (p:ByteArray) (ch:Int):SoV:={ s with wl:=fireGi p ch s.wl,ev:=(fireTi p ch s.wl).foldl (addEv s.ss) s.ev }
theorem fireS_i:fireS=fireSi:=by
 funext s p ch
 unfold fireS fireSi
 rw [fireT_i,fireG_i]
def goneSi (s:SoV) (l:List ByteArray):SoV:=l.foldl (fun s p=>fireSi s p 2) s
theorem goneS_i:goneS=goneSi:=by
 funext s l
 unfold goneS goneSi
 rw [fireS_i]
def purgeLi (L:RL) (sess:Int):RL×List ByteArray:=((sortDi (ofBL L sess)).foldl remL L,sortDi (ofBL L sess))
theorem purgeL_i:purgeL=purgeLi:=by
 funext L sess
 unfold purgeL purgeLi
 rw [sortD_i]
def endSi (s:SoV) (id:Int):SoV:=
 let P:=purgeLi s.tr id
 let s1:=goneSi { s with zx:=s.zx+1,tr:=P.1 } P.2
 { s1 with wl:=dropW id s1.wl,ev:=fun q=>if q=id then [] else s1.ev q,last:=mdel s1.last id }
theorem endS_i:endS=endSi:=by
 funext s id
 unfold endS endSi
 rw [purgeL_i,goneS_i]
def closeOi (s:SoV) (id:Int):SoV×Int:=if (closeS s.ss id).2≠0 then (s,(closeS s.ss id).2) else (endSi { s with ss:=(closeS s.ss id).1 } id,0)
theorem closeO_i:closeO=closeOi:=by
 funext s id
 unfold closeO closeOi
 rw [endS_i]
def tickOi (s:SoV):SoV×List Int:=((tickS s.ss).2.foldl endSi { s with ss:=(tickS s.ss).1 },(tickS s.ss).2)
theorem tickO_i:tickO=tickOi:=by
 funext s
 unfold tickO tickOi
 rw [endS_i]
def chStepi (s:SoV) (x:OpV×Rp):SoV:=if chOf x.1.kind=0 then s else fireSi s x.2.path (chOf x.1.kind)
theorem chStep_i:chStep=chStepi:=by
 funext s x
 unfold chStep chStepi
 rw [fireS_i]
def changedSi (s:SoV) (ops:List OpV) (r:RpV):SoV:=if r.err≠0 then s else (ops.zip r.res).foldl chStepi s
theorem changedS_i:changedS=changedSi:=by
 funext s ops r
 unfold changedS changedSi
 rw [chStep_i]
def doneSi (s:SoV) (sess num:Int) (ops:List OpV):SoV×RpV:=
 let X:=requestL s.room s.tr sess num (s.zx+1) ops
 let s3:=changedSi { s with zx:=s.zx+1,tr:=X.1 } ops X.2
 ({ s3 with last:=mset s3.last sess X.2 },X.2)
theorem doneS_i:doneS=doneSi:=by
 funext s sess num ops
 unfold doneS doneSi
 rw [changedS_i]
def askSi (s:SoV) (sess num:Int) (ops:List OpV):SoV×RpV:=
 if mayR sess num ops≠0 then (s,failRp num (mayR sess num ops) (-1) 0) else
 if (touchS s.ss sess).2≠0 then (s,failRp num 11 (-1) ops.length) else
 match mget s.last sess with
 | none=>doneSi { s with ss:=(touchS s.ss sess).1 } sess num ops
 | some r=>if num=r.num then ({ s with ss:=(touchS s.ss sess).1 },r)
   else if num<r.num then ({ s with ss:=(touchS s.ss sess).1 },failRp num 1 (-1) ops.length)
   else doneSi { s with ss:=(touchS s.ss sess).1 } sess num ops
theorem askS_i:askS=askSi:=by
 funext s sess num ops
 unfold askS askSi
 (rw [doneS_i])<;>rfl
end Go.Proofs.YtnlefnhdhigecaaGreatDoor

