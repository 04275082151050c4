/- Texts put together: AvSoA, AvSoB, AvSoC, AvSoD. -/
import Derived.Test.YtnlefnhdhigecaaGreatDoorAvG19
import Derived.Test.YtnlefnhdhigecaaGreatDoorAvG21
import Derived.Test.YtnlefnhdhigecaaGreatDoorAvG23
namespace Go.Proofs.YtnlefnhdhigecaaGreatDoor
set_option maxRecDepth 100000
open Go.RowKit Av
abbrev soT:TypeId:=141
abbrev mI:Int→Value:=Value.int .i64
structure LastR (w:World) (lm:Nat) (M:List (Int×Value)) (l:List (Int×RpV)):Prop where
 map:MapK mI w lm M
 get:∀ q,match mget l q with
  | none=>mget M q=none
  | some r=>∃ u,mget M q=some (.agg (rplA r u))∧RpAt w 0 u r
structure SoB where
 b:Nat
 m:Nat
 t:Tr
 sb:Nat
 sr:Option Nat
 wb:Nat
 wr:Option Nat
 lm:Nat
 em:Nat
 M:List (Int×Value)
 E:List (Int×Value)
def SoFr (g:Nat) (B:SoB) (i:Nat):Prop:=i=g∨TOwn B.b B.m B.t i∨(i=B.sb∨B.sr=some i)∨(i=B.wb∨B.wr=some i)∨i=B.lm∨i=B.em∨∃ q,(Av.rowAt B.E q).ownBlock=some i
abbrev evRows (w:World) (em:Nat) (E:List (Int×Value)) (ev:Int→List Wt):Prop:=MapRows w 0 em mI evT 3 wcell E ev
structure SoOk (N:Nat) (s:SoV):Prop where
 ss:SsOk N s.ss
 zx:0≤s.zx∧s.zx≤N
 ev:∀ q,(s.ev q).length+s.wl.length≤N
 last:∀ q r,mget s.last q=some r→r.res.length≤16∧∀ x∈r.res,x.names.length≤100000
structure SoR (w0 w:World) (g K:Nat) (B:SoB) (s:SoV):Prop where
 blk:Blk w g #[.pointer (some ⟨B.b,0,none⟩), .pointer (some ⟨B.sb,0,none⟩), .pointer (some ⟨B.wb,0,none⟩), .int .i64 s.zx, .map (some B.lm), .map (some B.em)] soT
 tr:TrA w0 w B.b B.m s.room K B.t s.tr
 ss:SesR w B.sb B.sr s.ss
 wl:WL w B.wb B.wr 1000 s.wl
 lm:LastR w B.lm B.M s.last
 ev:evRows w B.em B.E s.ev
 ne:B.lm≠B.em∧B.m≠B.lm∧B.m≠B.em
 low:∀ i,SoFr g B i→w0.heap.size≤i
 ex:Ext w0 w
theorem LastR.ext {w w':World} {lm:Nat} {M:List (Int×Value)} {l:List (Int×RpV)} (h:LastR w lm M l) (k:Ext w w'):LastR w' lm M l:=⟨h.map.ext k,fun q=>by
 have:=h.get q
 cases hg:mget l q with
 | none=>rw [hg] at this;exact this
 | some r=>
   rw [hg] at this
   obtain ⟨u,h1,h2⟩:=this
   exact ⟨u,h1,h2.ext k⟩⟩
theorem SoR.ext {w0 w w':World} {g K:Nat} {B:SoB} {s:SoV} (h:SoR w0 w g K B s) (k:Ext w w'):SoR w0 w' g K B s:=
 ⟨h.blk.kp k (fun f=>f),h.tr.ext k,h.ss.ext k,h.wl.ext k,h.lm.ext k,h.ev.ext k,h.ne,h.low,h.ex.trans k⟩
theorem SoR.mono {w0 w:World} {g K L:Nat} {B:SoB} {s:SoV} (h:SoR w0 w g K B s) (k:K≤L):SoR w0 w g L B s:=⟨h.blk,h.tr.mono k,h.ss,h.wl,h.lm,h.ev,h.ne,h.low,h.ex⟩
structure Safe (w0 w:World) (S:Nat→Prop) (Ts:List TypeId) (ms:List Nat):Prop where
 ty:∀ i,S i→i<w.heap.size→(∃ cur T f,w.heap[i]? = some (.cells cur T f)∧T∈Ts)∨(∃ es c,w.heap[i]? = some (.map es c)∧i∈ms)
 low:∀ i,S i→w0.heap.size≤i
theorem Safe.blk {w0 w:World} {S:Nat→Prop} {Ts:List TypeId} {ms:List Nat} (h:Safe w0 w S Ts ms) {r:Nat} {A:Array Value} {T:TypeId} (hb:Blk w r A T) (hT:T∉Ts):¬ S r:=fun hs=>by
 have h1:w.heap[r]? = some (.cells A T (0,0)):=hb
 rcases h.ty r hs hb.lt with ⟨cur,T',f,h2,h3⟩|⟨es,c,h2,_⟩
 ·rw [h1] at h2
  simp only [Option.some.injEq,Obj.cells.injEq] at h2
  rw [h2.2.1] at hT
  exact hT h3
 ·rw [h1] at h2;simp at h2
theorem Safe.row {w0 w:World} {S:Nat→Prop} {Ts:List TypeId} {ms:List Nat} (h:Safe w0 w S Ts ms) {base k n:Nat} {T:TypeId} {v:Value} {xs:List Value} (ho:w.ownsRow base T k v n xs) (hT:T∉Ts) {i:Nat} (hi:v.ownBlock=some i):¬ S i:=fun hs=>by
 obtain ⟨cur,f,h1⟩:=own_type ho hi
 rcases h.ty i hs (Array.getElem?_eq_some_iff.1 h1).1 with ⟨cur',T',f',h2,h3⟩|⟨es,c,h2,_⟩
 ·rw [h1] at h2
  simp only [Option.some.injEq,Obj.cells.injEq] at h2
  rw [h2.2.1] at hT
  exact hT h3
 ·rw [h1] at h2;simp at h2
theorem Safe.map {κ:Type} [DecidableEq κ] {mk:κ→Value} {w0 w:World} {S:Nat→Prop} {Ts:List TypeId} {ms:List Nat} (h:Safe w0 w S Ts ms) {m:Nat} {es:List (κ×Value)} (hm:MapK mk w m es) (hn:m∉ms):¬ S m:=fun hs=>by
 have hlt:=hm.lt
 obtain ⟨L,c,hr,_⟩:=hm
 have h1:=hr.1
 rcases h.ty m hs hlt with ⟨cur,T',f,h2,_⟩|⟨es,c,_,h3⟩
 ·rw [h1] at h2;simp at h2
 ·exact hn h3
theorem Safe.noT {w0 w:World} {S:Nat→Prop} {Ts:List TypeId} {ms:List Nat} (h:Safe w0 w S Ts ms) {T:TypeId} (hT:T∉Ts):NoT w S T:=fun i hs cur f hc=>by
 rcases h.ty i hs (Array.getElem?_eq_some_iff.1 hc).1 with ⟨cur',T',f',h2,h3⟩|⟨es,c,h2,_⟩
 ·rw [hc] at h2
  simp only [Option.some.injEq,Obj.cells.injEq] at h2
  rw [h2.2.1] at hT
  exact hT h3
 ·rw [hc] at h2;simp at h2
theorem TrA.safe {w0 w w':World} {S:Nat→Prop} {Ts:List TypeId} {ms:List Nat} {b m:Nat} {room:Int} {K:Nat} {t:Tr} {L:RL} (h:TrA w0 w b m room K t L) (k:Kp S w w') (hS:Safe w0 w S Ts ms) (h1:trT∉Ts) (h2:ndT∉Ts) (h3:strT∉Ts) (h4:m∉ms):TrA w0 w' b m room K t L:=by
 refine ⟨⟨h.ts.tr.apart k (fun i hi hs=>?_) (fun i hs _ cur f=>hS.noT h3 i hs cur f),h.ts.pk,h.ts.ex.next k (fun i hi hs=>by have:=hS.low i hs;omega)⟩,h.srt,h.good⟩
 rcases hi with rfl|rfl|⟨e,he,rfl⟩
 ·exact hS.blk h.ts.tr.blk h1 hs
 ·exact hS.map h.ts.tr.map h4 hs
 ·obtain ⟨nv,h5,_⟩:=h.ts.tr.nod e he
  exact hS.blk h5 h2 hs
theorem SesR.safe {w0 w w':World} {S:Nat→Prop} {Ts:List TypeId} {ms:List Nat} {b:Nat} {ro:Option Nat} {s:SsV} (h:SesR w b ro s) (k:Kp S w w') (hS:Safe w0 w S Ts ms) (h1:ssT∉Ts) (h2:seT∉Ts):SesR w' b ro s:=by
 obtain ⟨v,e1,e2,e3,e4⟩:=h
 exact SesR.kp ⟨v,e1,e2,e3,e4⟩ k (hS.blk e1 h1) (fun i hi=>hS.row e2 h2 (by rw [e3,hi]))
theorem WL.safe {w0 w w':World} {S:Nat→Prop} {Ts:List TypeId} {ms:List Nat} {b:Nat} {ro:Option Nat} {room:Nat} {l:List Wt} (h:WL w b ro room l) (k:Kp S w w') (hS:Safe w0 w S Ts ms) (h1:wlT∉Ts) (h2:arT∉Ts):WL w' b ro room l:=by
 obtain ⟨v,e1,e2,e3,e4⟩:=h
 exact WL.kp ⟨v,e1,e2,e3,e4⟩ k (hS.blk e1 h1) (fun i hi=>hS.row e2 h2 (by rw [e3,hi]))
theorem LastR.safe {w0 w w':World} {S:Nat→Prop} {Ts:List TypeId} {ms:List Nat} {lm:Nat} {M:List (Int×Value)} {l:List (Int×RpV)} (h:LastR w lm M l) (k:Kp S w w') (hS:Safe w0 w S Ts ms) (h1:rsuT∉Ts) (h2:strT∉Ts) (h3:lm∉ms):LastR w' lm M l:=⟨h.map.kp k (hS.map h.map h3),fun q=>by
 have:=h.get q
 cases hg:mget l q with
 | none=>rw [hg] at this;exact this
 | some r=>
   rw [hg] at this
   obtain ⟨u,e1,e2⟩:=this
   exact ⟨u,e1,e2.kpT k (hS.noT h1) (hS.noT h2)⟩⟩
theorem evRows.safe {w0 w w':World} {S:Nat→Prop} {Ts:List TypeId} {ms:List Nat} {em:Nat} {E:List (Int×Value)} {ev:Int→List Wt} (h:evRows w em E ev) (k:Kp S w w') (hS:Safe w0 w S Ts ms) (h1:evT∉Ts) (h2:em∉ms):evRows w' em E ev:=
 h.kp k (hS.map h.map h2) (fun q _ hi=>hS.row (h.row q) h1 hi)
variable {w0 w w':World} {g K:Nat} {B:SoB} {s:SoV}
theorem SoR.ids (h:SoR w0 w g K B s):B.m∉[B.lm]∧B.m∉[B.em]∧B.lm∉[B.m]∧B.lm∉[B.em]∧B.em∉[B.m]∧B.em∉[B.lm]:=by
 obtain ⟨h1,h2,h3⟩:=h.ne
 simp only [List.mem_singleton]
 exact ⟨h2,h3,fun e=>h2 e.symm,h1,fun e=>h3 e.symm,fun e=>h1 e.symm⟩
theorem SoR.safeT (h:SoR w0 w g K B s):Safe w0 w (nodeFr B.m B.t) [ndT] [B.m]:=by
 refine ⟨fun _ hs _=>?_,fun i hs=>h.low i (.inr (.inl (.inr hs)))⟩
 rcases hs with rfl|⟨e,he,rfl⟩
 ·obtain ⟨L,c,hr,_⟩:=h.tr.ts.tr.map
  exact .inr ⟨_,_,hr.1,by simp⟩
 ·obtain ⟨nv,h5,_⟩:=h.tr.ts.tr.nod e he
  exact .inl ⟨_,_,_,h5,by simp⟩
theorem SoR.safeB (h:SoR w0 w g K B s):Safe w0 w (fun i=>i=B.b) [trT] []:=by
 refine ⟨fun i hs _=>?_,fun i hs=>h.low i (.inr (.inl (.inl hs)))⟩
 have e:i=B.b:=hs
 subst e
 exact .inl ⟨_,_,_,h.tr.ts.tr.blk,by simp⟩
theorem SoR.safeS (h:SoR w0 w g K B s):Safe w0 w (fun i=>i=B.sb∨B.sr=some i) [ssT,seT] []:=by
 refine ⟨fun i hs _=>?_,fun i hs=>h.low i (.inr (.inr (.inl hs)))⟩
 obtain ⟨v,e1,e2,e3,e4⟩:=h.ss
 rcases hs with rfl|hs
 ·exact .inl ⟨_,_,_,e1,by simp⟩
 ·obtain ⟨cur,f,h1⟩:=own_type e2 (by rw [e3,hs])
  exact .inl ⟨_,_,_,h1,by simp⟩
theorem SoR.safeW (h:SoR w0 w g K B s):Safe w0 w (fun i=>i=B.wb∨B.wr=some i) [wlT,arT] []:=by
 refine ⟨fun i hs _=>?_,fun i hs=>h.low i (.inr (.inr (.inr (.inl hs))))⟩
 obtain ⟨v,e1,e2,e3,e4⟩:=h.wl
 rcases hs with rfl|hs
 ·exact .inl ⟨_,_,_,e1,by simp⟩
 ·obtain ⟨cur,f,h1⟩:=own_type e2 (by rw [e3,hs])
  exact .inl ⟨_,_,_,h1,by simp⟩
theorem SoR.safeL (h:SoR w0 w g K B s):Safe w0 w (fun i=>i=B.lm) [] [B.lm]:=by
 refine ⟨fun i hs _=>?_,fun i hs=>h.low i (.inr (.inr (.inr (.inr (.inl hs)))))⟩
 have e:i=B.lm:=hs
 subst e
 obtain ⟨L,c,hr,_⟩:=h.lm.map
 exact .inr ⟨_,_,hr.1,by simp⟩
theorem SoR.safeE (h:SoR w0 w g K B s):Safe w0 w (fun i=>i=B.em) [] [B.em]:=by
 refine ⟨fun i hs _=>?_,fun i hs=>h.low i (.inr (.inr (.inr (.inr (.inr (.inl hs))))))⟩
 have e:i=B.em:=hs
 subst e
 obtain ⟨L,c,hr,_⟩:=h.ev.map
 exact .inr ⟨_,_,hr.1,by simp⟩
theorem SoR.safeR (h:SoR w0 w g K B s) (q:Int):Safe w0 w (fun i=>(Av.rowAt B.E q).ownBlock=some i) [evT] []:=by
 refine ⟨fun i hs _=>?_,fun i hs=>h.low i (.inr (.inr (.inr (.inr (.inr (.inr ⟨q,hs⟩))))))⟩
 obtain ⟨cur,f,h1⟩:=own_type (h.ev.row q) hs
 exact .inl ⟨_,_,_,h1,by simp⟩
theorem SoR.safeG (h:SoR w0 w g K B s):Safe w0 w (fun i=>i=g) [soT] []:=by
 refine ⟨fun i hs _=>?_,fun i hs=>h.low i (.inl hs)⟩
 have e:i=g:=hs
 subst e
 exact .inl ⟨_,_,_,h.blk,by simp⟩
theorem SoR.safeA (h:SoR w0 w g K B s):Safe w0 w (SoFr g B) [soT,trT,ndT,ssT,seT,wlT,arT,evT] [B.m,B.lm,B.em]:=by
 refine ⟨fun i hs hlt=>?_,h.low⟩
 rcases hs with hs|hs|hs|hs|hs|hs|⟨q,hs⟩
 ·rcases h.safeG.ty i hs hlt with ⟨a,b,c,h1,h2⟩|⟨_,_,_,h2⟩
  ·exact .inl ⟨a,b,c,h1,by simp only [List.mem_singleton] at h2;simp [h2]⟩
  ·simp at h2
 ·rcases hs with hs|hs
  ·rcases h.safeB.ty i hs hlt with ⟨a,b,c,h1,h2⟩|⟨_,_,_,h2⟩
   ·exact .inl ⟨a,b,c,h1,by simp only [List.mem_singleton] at h2;simp [h2]⟩
   ·simp at h2
  ·rcases h.safeT.ty i hs hlt with ⟨a,b,c,h1,h2⟩|⟨a,b,h1,h2⟩
   ·exact .inl ⟨a,b,c,h1,by simp only [List.mem_singleton] at h2;simp [h2]⟩
   ·exact .inr ⟨a,b,h1,by simp only [List.mem_singleton] at h2;simp [h2]⟩
 ·rcases h.safeS.ty i hs hlt with ⟨a,b,c,h1,h2⟩|⟨_,_,_,h2⟩
  ·refine .inl ⟨a,b,c,h1, ?_⟩
   simp only [List.mem_cons,List.not_mem_nil,or_false] at h2
   rcases h2 with rfl|rfl<;>simp
  ·simp at h2
 ·rcases h.safeW.ty i hs hlt with ⟨a,b,c,h1,h2⟩|⟨_,_,_,h2⟩
  ·refine .inl ⟨a,b,c,h1, ?_⟩
   simp only [List.mem_cons,List.not_mem_nil,or_false] at h2
   rcases h2 with rfl|rfl<;>simp
  ·simp at h2
 ·rcases h.safeL.ty i hs hlt with ⟨_,_,_,_,h2⟩|⟨a,b,h1,h2⟩
  ·simp at h2
  ·exact .inr ⟨a,b,h1,by simp only [List.mem_singleton] at h2;simp [h2]⟩
 ·rcases h.safeE.ty i hs hlt with ⟨_,_,_,_,h2⟩|⟨a,b,h1,h2⟩
  ·simp at h2
  ·exact .inr ⟨a,b,h1,by simp only [List.mem_singleton] at h2;simp [h2]⟩
 ·rcases (h.safeR q).ty i hs hlt with ⟨a,b,c,h1,h2⟩|⟨_,_,_,h2⟩
  ·exact .inl ⟨a,b,c,h1,by simp only [List.mem_singleton] at h2;simp [h2]⟩
  ·simp at h2
def SoPost (w0 w:World) (g K:Nat) (B:SoB) (s':SoV) (w':World):Prop:=∃ B',SoR w0 w' g K B' s'∧Kp (SoFr g B) w w'∧∀ i,SoFr g B' i→SoFr g B i∨w.heap.size≤i
theorem SoPost.refl (h:SoR w0 w g K B s):SoPost w0 w g K B s w:=⟨B,h,Kp.refl _ _,fun _ hi=>.inl hi⟩
theorem SoPost.ext {w1:World} {s':SoV} (h:SoPost w0 w g K B s' w1) (k:Ext w1 w'):SoPost w0 w g K B s' w':=by
 obtain ⟨B',h1,h2,h3⟩:=h
 exact ⟨B',h1.ext k,h2.next k (fun _ _ f=>f.elim),h3⟩
theorem SoPost.before {w1:World} {s':SoV} (hx:Ext w w1) (h:SoPost w0 w1 g K B s' w'):SoPost w0 w g K B s' w':=by
 obtain ⟨B',h1,h2,h3⟩:=h
 refine ⟨B',h1,(Ext.kp hx).trans h2,fun i hi=>?_⟩
 rcases h3 i hi with h|h
 ·exact .inl h
 ·exact .inr (Nat.le_trans hx.size h)
theorem SoPost.trans {w1:World} {L:Nat} {B1:SoB} {s2:SoV} (k1:Kp (SoFr g B) w w1) (o1:∀ i,SoFr g B1 i→SoFr g B i∨w.heap.size≤i) (h:SoPost w0 w1 g L B1 s2 w'):SoPost w0 w g L B s2 w':=by
 obtain ⟨B',h3,h4,h5⟩:=h
 refine ⟨B',h3,k1.next h4 (fun i hi hs=>?_),fun i hi=>?_⟩
 ·rcases o1 i hs with h|h
  ·exact h
  ·omega
 ·rcases h5 i hi with h|h
  ·exact o1 i h
  ·exact .inr (Nat.le_trans k1.size h)
end Go.Proofs.YtnlefnhdhigecaaGreatDoor

namespace Go.Proofs.YtnlefnhdhigecaaGreatDoor
set_option maxRecDepth 100000
open Go.RowKit Av
variable {w0 w w':World} {g K:Nat} {B:SoB} {s:SoV}
theorem SoR.sess (h:SoR w0 w g K B s) {ss':SsV} (k:Kp (fun i=>i=B.sb∨B.sr=some i) w w') (h2:∃ ro',SesR w' B.sb ro' ss'∧∀ i,ro'=some i→B.sr=some i∨w.heap.size≤i):SoPost w0 w g K B { s with ss:=ss' } w':=by
 obtain ⟨ro',h3,h4⟩:=h2
 have hS:=h.safeS
 have hex:Ext w0 w':=h.ex.next k (fun i hi hs=>by have:=hS.low i hs;omega)
 refine ⟨{ B with sr:=ro' },⟨h.blk.kp k (hS.blk h.blk (by decide)),h.tr.safe k hS (by decide) (by decide) (by decide) (by simp),h3,h.wl.safe k hS (by decide) (by decide),h.lm.safe k hS (by decide) (by decide) (by simp),h.ev.safe k hS (by decide) (by simp),h.ne,fun i hi=>?_,hex⟩,k.mono (fun i _ hs=>.inr (.inr (.inl hs))),fun i hi=>?_⟩
 ·rcases hi with hi|hi|hi|hi
  ·exact h.low i (.inl hi)
  ·exact h.low i (.inr (.inl hi))
  ·rcases hi with hi|hi
   ·exact h.low i (.inr (.inr (.inl (.inl hi))))
   ·rcases h4 i hi with h5|h5
    ·exact h.low i (.inr (.inr (.inl (.inr h5))))
    ·have:=h.ex.size;omega
  ·exact h.low i (.inr (.inr (.inr hi)))
 ·rcases hi with hi|hi|hi|hi
  ·exact .inl (.inl hi)
  ·exact .inl (.inr (.inl hi))
  ·rcases hi with hi|hi
   ·exact .inl (.inr (.inr (.inl (.inl hi))))
   ·rcases h4 i hi with h5|h5
    ·exact .inl (.inr (.inr (.inl (.inr h5))))
    ·exact .inr h5
  ·exact .inl (.inr (.inr (.inr hi)))
theorem SoR.watch (h:SoR w0 w g K B s) {wl':List Wt} (k:Kp (fun i=>i=B.wb∨B.wr=some i) w w') (h2:∃ ro',WL w' B.wb ro' 1000 wl'∧∀ i,ro'=some i→B.wr=some i∨w.heap.size≤i):SoPost w0 w g K B { s with wl:=wl' } w':=by
 obtain ⟨ro',h3,h4⟩:=h2
 have hS:=h.safeW
 have hex:Ext w0 w':=h.ex.next k (fun i hi hs=>by have:=hS.low i hs;omega)
 refine ⟨{ B with wr:=ro' },⟨h.blk.kp k (hS.blk h.blk (by decide)),h.tr.safe k hS (by decide) (by decide) (by decide) (by simp),h.ss.safe k hS (by decide) (by decide),h3,h.lm.safe k hS (by decide) (by decide) (by simp),h.ev.safe k hS (by decide) (by simp),h.ne,fun i hi=>?_,hex⟩,k.mono (fun i _ hs=>.inr (.inr (.inr (.inl hs)))),fun i hi=>?_⟩
 ·rcases hi with hi|hi|hi|hi|hi
  ·exact h.low i (.inl hi)
  ·exact h.low i (.inr (.inl hi))
  ·exact h.low i (.inr (.inr (.inl hi)))
  ·rcases hi with hi|hi
   ·exact h.low i (.inr (.inr (.inr (.inl (.inl hi)))))
   ·rcases h4 i hi with h5|h5
    ·exact h.low i (.inr (.inr (.inr (.inl (.inr h5)))))
    ·have:=h.ex.size;omega
  ·exact h.low i (.inr (.inr (.inr (.inr hi))))
 ·rcases hi with hi|hi|hi|hi|hi
  ·exact .inl (.inl hi)
  ·exact .inl (.inr (.inl hi))
  ·exact .inl (.inr (.inr (.inl hi)))
  ·rcases hi with hi|hi
   ·exact .inl (.inr (.inr (.inr (.inl (.inl hi)))))
   ·rcases h4 i hi with h5|h5
    ·exact .inl (.inr (.inr (.inr (.inl (.inr h5)))))
    ·exact .inr h5
  ·exact .inl (.inr (.inr (.inr (.inr hi))))
theorem SoR.tree (h:SoR w0 w g K B s) {S:Nat→Prop} {Ts:List TypeId} {ms:List Nat} {L:Nat} {m':Nat} {t':Tr} {tr':RL} (k:Kp S w w') (hS:Safe w0 w S Ts ms) (hSo:∀ i,S i→TOwn B.b B.m B.t i) (hT:∀ T∈Ts,T=trT∨T=ndT) (hm:∀ i∈ms,i=B.m) (h2:TrA w0 w' B.b m' s.room L t' tr') (hmn:m'=B.m∨w.heap.size≤m') (h3:∀ i,TOwn B.b m' t' i→TOwn B.b B.m B.t i∨w.heap.size≤i):SoPost w0 w g L B { s with tr:=tr' } w':=by
 have hex:Ext w0 w':=h.ex.next k (fun i hi hs=>by have:=hS.low i hs;omega)
 have hn:∀ T,T≠trT→T≠ndT→T∉Ts:=fun T h4 h5 h6=>by
  rcases hT T h6 with e|e
  ·exact h4 e
  ·exact h5 e
 have hlm:B.lm∉ms:=fun h6=>h.ne.2.1 (hm _ h6).symm
 have hem:B.em∉ms:=fun h6=>h.ne.2.2 (hm _ h6).symm
 have hl1:=h.lm.map.lt
 have hl2:=h.ev.map.lt
 refine ⟨{ B with m:=m',t:=t' },⟨h.blk.kp k (hS.blk h.blk (hn _ (by decide) (by decide))),h2,h.ss.safe k hS (hn _ (by decide) (by decide)) (hn _ (by decide) (by decide)),h.wl.safe k hS (hn _ (by decide) (by decide)) (hn _ (by decide) (by decide)),h.lm.safe k hS (hn _ (by decide) (by decide)) (hn _ (by decide) (by decide)) hlm,h.ev.safe k hS (hn _ (by decide) (by decide)) hem,⟨h.ne.1, ?_, ?_⟩,fun i hi=>?_,hex⟩,k.mono (fun i _ hs=>.inr (.inl (hSo i hs))),fun i hi=>?_⟩
 ·rcases hmn with e|e
  ·rw [e];exact h.ne.2.1
  ·show m'≠B.lm;omega
 ·rcases hmn with e|e
  ·rw [e];exact h.ne.2.2
  ·show m'≠B.em;omega
 ·rcases hi with hi|hi|hi
  ·exact h.low i (.inl hi)
  ·rcases h3 i hi with h5|h5
   ·exact h.low i (.inr (.inl h5))
   ·have:=h.ex.size;omega
  ·exact h.low i (.inr (.inr hi))
 ·rcases hi with hi|hi|hi
  ·exact .inl (.inl hi)
  ·rcases h3 i hi with h5|h5
   ·exact .inl (.inr (.inl h5))
   ·exact .inr h5
  ·exact .inl (.inr (.inr hi))
theorem SoR.lasts (h:SoR w0 w g K B s) {M':List (Int×Value)} {l':List (Int×RpV)} (k:Kp (fun i=>i=B.lm) w w') (h2:LastR w' B.lm M' l'):SoPost w0 w g K B { s with last:=l' } w':=by
 have hS:=h.safeL
 have hi:=h.ids
 have hex:Ext w0 w':=h.ex.next k (fun i hi hs=>by have:=hS.low i hs;omega)
 exact ⟨{ B with M:=M' },⟨h.blk.kp k (hS.blk h.blk (by simp)),h.tr.safe k hS (by simp) (by simp) (by simp) hi.1,h.ss.safe k hS (by simp) (by simp),h.wl.safe k hS (by simp) (by simp),h2,h.ev.safe k hS (by simp) hi.2.2.2.2.2,h.ne,h.low,hex⟩,k.mono (fun i _ hs=>.inr (.inr (.inr (.inr (.inl hs))))),fun i hi=>.inl hi⟩
theorem SoR.zxid (h:SoR w0 w g K B s) (z:Int):SoR w0 (w.setCell ⟨g,3,none⟩ (.int .i64 z)) g K B { s with zx:=z }∧Kp (SoFr g B) w (w.setCell ⟨g,3,none⟩ (.int .i64 z)):=by
 have k:Kp (fun i=>i=g) w (w.setCell ⟨g,3,none⟩ (.int .i64 z)):=Kp.set1 (S:=fun i=>i=g) (Kp.refl _ _) _ 3 _ rfl
 have hS:=h.safeG
 have hex:Ext w0 (w.setCell ⟨g,3,none⟩ (.int .i64 z)):=h.ex.next k (fun i hi hs=>by have:=hS.low i hs;omega)
 exact ⟨⟨h.blk.set 3 _,h.tr.safe k hS (by decide) (by decide) (by decide) (by simp),h.ss.safe k hS (by decide) (by decide),h.wl.safe k hS (by decide) (by decide),h.lm.safe k hS (by decide) (by decide) (by simp),h.ev.safe k hS (by decide) (by simp),h.ne,h.low,hex⟩,k.mono (fun i _ hs=>.inl hs)⟩
end Go.Proofs.YtnlefnhdhigecaaGreatDoor

namespace Go.Proofs.YtnlefnhdhigecaaGreatDoor
set_option maxRecDepth 100000
open Go.RowKit Av
theorem soOk_new (room:Int):SoOk 0 (soZ room):=⟨⟨rfl,⟨Int.le_refl _,Int.le_refl _⟩,⟨Int.le_refl _,Int.le_refl _⟩,Nat.zero_le _,fun x hx=>(by cases hx),fun x hx=>(by cases hx)⟩,⟨Int.le_refl _,Int.le_refl _⟩,fun _=>Nat.le_refl _,fun q r h=>(by cases h)⟩
set_option maxHeartbeats 3200000 in
theorem soNew_any (room:Int) (w:World) (h1:1≤room) (h2:room≤500):Calls Tryz.prog 31 #[.int .i64 room] w fun e w'=>∃ g B,e=.returned (.tuple #[.pointer (some ⟨g,0,none⟩), .int .i64 0])∧SoR w w' g 0 B (soZ room)∧Ext w w':=by
 have hmm:=@run_makeMap Tryz.prog
 go_enter Tryz.func31,Tryz.ntmps31
 go_wp2_with (fail)
 refine (trNew room w w (Kp.refl _ _) h1 h2).mono ?_
 rintro e w1 ⟨b,m,rfl,ht,hx1,hb,hm⟩
 have HT:=Lib.hid ht
 have HX1:=Lib.hid hx1
 clear ht hx1
 go_wp2_with (fail)
 refine (sesNew_any w1).mono ?_
 rintro e w2 ⟨rfl,hs,hx2⟩
 have HS:=Lib.hid hs
 have HX2:=Lib.hid hx2
 clear hs hx2
 go_wp2_with (fail)
 refine (watNew_any 1000 w2 (by decide) (by decide)).mono ?_
 rintro e w3 ⟨rfl,hw,hx3⟩
 have HW:=Lib.hid hw
 have HX3:=Lib.hid hx3
 clear hw hx3
 go_wp2_with (fail)
 go_ret2
 obtain ⟨w4,hw4⟩:∃ w4,w3.alloc (.map #[] 0)=w4:=⟨_,rfl⟩
 have hx4:Ext w3 w4:=by rw [← hw4];exact (Kp.refl _ _).alloc _
 have hs4:w4.heap.size=w3.heap.size+1:=by rw [← hw4];simp
 have hm4:MapK mI w4 w3.heap.size []:=by rw [← hw4];exact MapK.new w3
 rw [hw4]
 obtain ⟨w5,hw5⟩:∃ w5,w4.alloc (.map #[] 0)=w5:=⟨_,rfl⟩
 have hx5:Ext w4 w5:=by rw [← hw5];exact (Kp.refl _ _).alloc _
 have hs5:w5.heap.size=w4.heap.size+1:=by rw [← hw5];simp
 have hm5:evRows w5 (w3.heap.size+1) [] (fun _=>[]):=by rw [← hw5,← hs4];exact MapRows.new w4 0 evT 3 wcell
 rw [hw5]
 obtain ⟨w6,hw6⟩:∃ w6,w5.alloc (.cells #[.pointer (some ⟨b,0,none⟩), .pointer (some ⟨w1.heap.size,0,none⟩), .pointer (some ⟨w2.heap.size,0,none⟩), .int .i64 0, .map (some w3.heap.size), .map (some (w3.heap.size+1))] soT)=w6:=⟨_,rfl⟩
 have hx6:Ext w5 w6:=by rw [← hw6];exact (Kp.refl _ _).alloc _
 have hb6:Blk w6 w5.heap.size #[.pointer (some ⟨b,0,none⟩), .pointer (some ⟨w1.heap.size,0,none⟩), .pointer (some ⟨w2.heap.size,0,none⟩), .int .i64 0, .map (some w3.heap.size), .map (some (w3.heap.size+1))] soT:=by rw [← hw6];exact heap_alloc_new w5 _
 have h12:=HX1.out.size
 have h23:=HX2.out.size
 have h34:=HX3.out.size
 have hbl:=HT.out.ts.tr.blk.lt
 have hml:=HT.out.ts.tr.map.lt
 have hxs:Ext w3 w6:=(hx4.trans hx5).trans hx6
 have hex:Ext w w6:=((HX1.out.trans HX2.out).trans HX3.out).trans hxs
 refine ⟨w5.heap.size,⟨b,m,[],w1.heap.size,none,w2.heap.size,none,w3.heap.size,w3.heap.size+1,[],[]⟩,by simp [hs5,hs4], ?_,by first|exact hex|(rw [hw6];exact hex)⟩
 have hSo:SoR w w6 w5.heap.size 0 ⟨b,m,[],w1.heap.size,none,w2.heap.size,none,w3.heap.size,w3.heap.size+1,[],[]⟩ (soZ room):=by
  refine ⟨hb6,HT.out.ext (((HX2.out.trans HX3.out).trans hxs)),HS.out.ext (HX3.out.trans hxs),HW.out.ext hxs,⟨hm4.ext (hx5.trans hx6),fun q=>rfl⟩,hm5.ext hx6,⟨by show w3.heap.size≠w3.heap.size+1;omega,by show m≠w3.heap.size;omega,by show m≠w3.heap.size+1;omega⟩,fun i hi=>?_,hex⟩
  rcases hi with hi|hi|hi|hi|hi|hi|⟨q,hi⟩
  ·omega
  ·rcases hi with rfl|rfl|⟨e,he,_⟩
   ·exact hb
   ·exact hm
   ·cases he
  ·rcases hi with rfl|hi
   ·show w.heap.size≤w1.heap.size;omega
   ·cases hi
  ·rcases hi with rfl|hi
   ·show w.heap.size≤w2.heap.size;omega
   ·cases hi
  ·have e:i=w3.heap.size:=hi
   omega
  ·have e:i=w3.heap.size+1:=hi
   omega
  ·simp [Av.rowAt,mget,Value.ownBlock] at hi
 first|exact hSo|(rw [hw6];exact hSo)
variable {w0 w:World} {g K N:Nat} {B:SoB} {s:SoV}
set_option maxHeartbeats 1600000 in
theorem soOpen_any (h:SoR w0 w g K B s) (hok:SoOk N s) (hN:N≤1000000000) (span:Int):Calls Tryz.prog 32 #[.pointer (some ⟨g,0,none⟩), .int .i64 span] w fun e w'=>e=.returned (.tuple #[.int .i64 (openO s span).2.1, .int .i64 (openO s span).2.2])∧SoPost w0 w g K B (openO s span).1 w':=by
 have c1:=h.blk.cell 1 _ rfl
 have HC:=Lib.hid (sesOpen_any N B.sb B.sr s.ss span w h.ss hok.ss hN)
 have HH:=Lib.hid h
 unfold openO
 simp only
 generalize (openS s.ss span)=X at HC ⊢
 clear h
 go_enter Tryz.func32,Tryz.ntmps32
 go_wp2_with (fail)
 refine HC.out.mono ?_
 rintro e w1 ⟨rfl,h2,h3⟩
 have HP:=Lib.hid (HH.out.sess h3 h2)
 clear h2 h3
 go_wp2_with (fail)
 go_ret2
 exact ⟨rfl,HP.out⟩
set_option maxHeartbeats 800000 in
theorem soTree_any (h:SoR w0 w g K B s) (hK:K≤100000):Calls Tryz.prog 40 #[.pointer (some ⟨g,0,none⟩)] w fun e w'=>∃ b' m' c,e=.returned (.pointer (some ⟨b',0,none⟩))∧TrA w w' b' m' s.room K c s.tr∧Ext w w':=by
 have c0:=h.blk.cell 0 _ rfl
 have HC:=Lib.hid (trCopy h.tr hK)
 clear h
 go_enter Tryz.func40,Tryz.ntmps40
 go_wp2_with (fail)
 refine HC.out.mono ?_
 rintro e w1 ⟨b',m',c,rfl,h1,_,h3⟩
 have H1:=Lib.hid h1
 have H3:=Lib.hid h3
 clear h1 h3
 go_wp2_with (fail)
 go_ret
 exact ⟨b',m',c,rfl,H1.out,H3.out⟩
set_option maxHeartbeats 1600000 in
theorem soWatch_any (h:SoR w0 w g K B s) (hok:SoOk N s) (hN:N≤100000) (hG:GL w) (x:Wt) (hp:x.path.size≤maxLen):Calls Tryz.prog 36 #[.pointer (some ⟨g,0,none⟩), .int .i64 x.sess, .string x.path, .int .i64 x.kind] w fun e w'=>e=.returned (.int .i64 (watchO s x).2)∧SoPost w0 w g K B (watchO s x).1 w':=by
 have c1:=h.blk.cell 1 _ rfl
 have HL:=Lib.hid (sesLive_any B.sb B.sr s.ss x.sess w h.ss (by have:=hok.ss.len;omega))
 have HA:=Lib.hid (fun w1 (hx:Ext w w1)=>watArm_any B.wb B.wr 1000 s.wl x w1 (h.wl.ext hx) (hG.ext hx) hp (by have:=hok.ev 0;omega))
 have HH:=Lib.hid h
 obtain ⟨l,hl⟩:∃ l,liveS s.ss x.sess=l:=⟨_,rfl⟩
 rw [hl] at HL
 cases l with
 | false=>
   have HE:Hid (watchO s x=(s,11)):=by show _=_;unfold watchO;rw [if_pos hl]
   clear h hl
   go_enter Tryz.func36,Tryz.ntmps36
   go_wp2_with (fail)
   refine HL.out.mono ?_
   rintro e w1 ⟨rfl,hx1⟩
   have HX1:=Lib.hid hx1
   clear hx1
   go_wp2_with (fail)
   go_ret
   rw [HE.out]
   exact ⟨rfl,(SoPost.refl HH.out).ext HX1.out⟩
 | true=>
   have HE:Hid (watchO s x=({ s with wl:=armG 1000 s.wl x },armE 1000 s.wl x)):=by show _=_;unfold watchO;rw [if_neg (by rw [hl];decide)]
   clear h hl
   go_enter Tryz.func36,Tryz.ntmps36
   go_wp2_with (fail)
   refine HL.out.mono ?_
   rintro e w1 ⟨rfl,hx1⟩
   have HX1:=Lib.hid hx1
   clear c1
   have c2:=(HH.out.blk.kp hx1 (fun f=>f)).cell 2 _ rfl
   clear hx1
   go_wp2_with (fail)
   refine (HA.out w1 HX1.out).mono ?_
   rintro e w2 ⟨rfl,h2,h3⟩
   have HP:=Lib.hid (SoPost.before HX1.out ((HH.out.ext HX1.out).watch h3 h2))
   clear h2 h3
   go_wp2_with (fail)
   go_ret
   rw [HE.out]
   exact ⟨rfl,HP.out⟩
end Go.Proofs.YtnlefnhdhigecaaGreatDoor

namespace Go.Proofs.YtnlefnhdhigecaaGreatDoor
set_option maxRecDepth 100000
open Go.RowKit Av
theorem kI64:KOk Tryz.prog 2 mI:=KOk.int Tryz.underlying2
theorem tEvs:Tryz.prog.underlying 139=some (.map 2 75):=Tryz.underlying139
theorem zEvs (w:World):(zeroValue 75).run Tryz.prog w=.ok (.slice none 0 0) w:=Tryz.zeroValue75 w
variable {w0 w w':World} {g K N:Nat} {B:SoB} {s:SoV}
theorem ev_look {em:Nat} {E:List (Int×Value)} {ev:Int→List Wt} (h:evRows w em E ev) (q:Int):(Instr.lookup 139 (.map (some em)) (.int .i64 q) false).run Tryz.prog w=.ok (Av.rowAt E q) w:=MapK.lookup kI64 tEvs h.map (.slice none 0 0) zEvs q false
theorem SoR.lt (h:SoR w0 w g K B s) {i:Nat} (hi:SoFr g B i):i<w.heap.size:=by
 rcases hi with hi|hi|hi|hi|hi|hi|⟨q,hi⟩
 ·subst hi;exact h.blk.lt
 ·exact (h.tr.ts.tr.ownLt hi).2
 ·rcases hi with rfl|hi
  ·exact h.ss.lt.1
  ·exact h.ss.lt.2 _ hi
 ·rcases hi with rfl|hi
  ·exact h.wl.lt.1
  ·exact h.wl.lt.2 _ hi
 ·subst hi;exact h.lm.map.lt
 ·subst hi;exact h.ev.map.lt
 ·exact (own_atS (h.ev.row q) hi).2
theorem SoR.rowOff (h:SoR w0 w g K B s) {q:Int} {i:Nat} (hi:(Av.rowAt B.E q).ownBlock=some i):i≠g∧¬ TOwn B.b B.m B.t i∧¬ (i=B.sb∨B.sr=some i)∧¬ (i=B.wb∨B.wr=some i)∧i≠B.lm∧i≠B.em:=by
 have hr:=h.ev.row q
 refine ⟨h.safeG.row hr (by decide) hi,fun hs=>?_,h.safeS.row hr (by decide) hi,h.safeW.row hr (by decide) hi,h.safeL.row hr (by simp) hi,h.safeE.row hr (by simp) hi⟩
 rcases hs with hs|hs
 ·exact h.safeB.row hr (by decide) hi hs
 ·exact h.safeT.row hr (by decide) hi hs
theorem SoR.safeA_noT (h:SoR w0 w g K B s) {w1:World} (hx:Ext w w1) {T:TypeId} (hT:T∉[soT,trT,ndT,ssT,seT,wlT,arT,evT]):NoT w1 (SoFr g B) T:=(h.ext hx).safeA.noT hT
def EvsPost (w0 w:World) (g K:Nat) (B:SoB) (s:SoV) (id:Int) (e:Ending) (w':World):Prop:=
 ∃ v B',e=.returned v∧w'.ownsRow 0 evT 3 v (eventsO s id).2.length ((eventsO s id).2.flatMap wcell)∧SoR w0 w' g K B' (eventsO s id).1∧Kp (SoFr g B) w w'∧(∀ i,SoFr g B' i→SoFr g B i)∧∀ i,v.ownBlock=some i→i<w.heap.size∧¬ SoFr g B' i
set_option maxHeartbeats 1600000 in
theorem soEvents_any (h:SoR w0 w g K B s) (id:Int):Calls Tryz.prog 37 #[.pointer (some ⟨g,0,none⟩), .int .i64 id] w (EvsPost w0 w g K B s id):=by
 have c5:=h.blk.cell 5 _ rfl
 have hlk:=ev_look h.ev id
 have hrow:=h.ev.row id
 obtain ⟨ra,rc,hra⟩:=owns_slice hrow
 rw [hra] at hlk
 obtain ⟨wM,u1,u2,u3,u4⟩:=MapK.delete kI64 tEvs h.ev.map id
 have hS:=h.safeE
 have hi:=h.ids
 have hex:Ext w0 wM:=h.ex.next u3 (fun i hi hs=>by have:=hS.low i hs;omega)
 have hE:=h.ev.del id u2 u3 (fun q i hq=>h.ev.off q i hq)
 have hP:EvsPost w0 w g K B s id (.returned (.slice ra (s.ev id).length rc)) wM:=by
  refine ⟨_,{ B with E:=mdel B.E id },rfl, ?_,⟨h.blk.kp u3 (hS.blk h.blk (by simp)),h.tr.safe u3 hS (by simp) (by simp) (by simp) hi.2.1,h.ss.safe u3 hS (by simp) (by simp),h.wl.safe u3 hS (by simp) (by simp),h.lm.safe u3 hS (by simp) (by simp) hi.2.2.2.1,hE,h.ne,fun i hs=>?_,hex⟩,u3.mono (fun i _ hs=>.inr (.inr (.inr (.inr (.inr (.inl hs)))))),fun i hs=>?_,fun i hq=>⟨(own_atS hrow (by rw [hra];exact hq)).2,fun hs=>?_⟩⟩
  ·rw [← hra]
   exact ownsRow.kp hrow u3 (fun i hq e=>h.ev.off id i hq e)
  ·refine h.low i ?_
   rcases hs with hs|hs|hs|hs|hs|hs|⟨q,hs⟩
   ·exact .inl hs
   ·exact .inr (.inl hs)
   ·exact .inr (.inr (.inl hs))
   ·exact .inr (.inr (.inr (.inl hs)))
   ·exact .inr (.inr (.inr (.inr (.inl hs))))
   ·exact .inr (.inr (.inr (.inr (.inr (.inl hs)))))
   ·refine .inr (.inr (.inr (.inr (.inr (.inr ⟨q, ?_⟩)))))
    have hs:(Av.rowAt (mdel B.E id) q).ownBlock=some i:=hs
    rw [rowAt_del] at hs
    split at hs
    ·simp [Value.ownBlock] at hs
    ·exact hs
  ·rcases hs with hs|hs|hs|hs|hs|hs|⟨q,hs⟩
   ·exact .inl hs
   ·exact .inr (.inl hs)
   ·exact .inr (.inr (.inl hs))
   ·exact .inr (.inr (.inr (.inl hs)))
   ·exact .inr (.inr (.inr (.inr (.inl hs))))
   ·exact .inr (.inr (.inr (.inr (.inr (.inl hs)))))
   ·refine .inr (.inr (.inr (.inr (.inr (.inr ⟨q, ?_⟩)))))
    have hs:(Av.rowAt (mdel B.E id) q).ownBlock=some i:=hs
    rw [rowAt_del] at hs
    split at hs
    ·simp [Value.ownBlock] at hs
    ·exact hs
  ·have hq2:(Av.rowAt B.E id).ownBlock=some i:=by rw [hra];exact hq
   obtain ⟨o1,o2,o3,o4,o5,o6⟩:=h.rowOff hq2
   rcases hs with hs|hs|hs|hs|hs|hs|⟨q,hs⟩
   ·exact o1 hs
   ·exact o2 hs
   ·exact o3 hs
   ·exact o4 hs
   ·exact o5 hs
   ·exact o6 hs
   ·have hs:(Av.rowAt (mdel B.E id) q).ownBlock=some i:=hs
    rw [rowAt_del] at hs
    split at hs
    ·simp [Value.ownBlock] at hs
    ·rename_i hne
     exact h.ev.apart id q i (fun e=>hne e.symm) hq2 hs
 have HP:=Lib.hid hP
 have u1':∀ ty,(Builtin.delete_ #[139,2] ty #[.map (some B.em), .int .i64 id]).run Tryz.prog w=.ok (.tuple #[]) wM:=u1
 clear h hrow hra u1 u2 u3 u4 hS hi hex hE hP
 go_enter Tryz.func37,Tryz.ntmps37
 go_wp2_with (fail)
 go_ret
 exact HP.out
end Go.Proofs.YtnlefnhdhigecaaGreatDoor

