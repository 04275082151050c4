/- Texts put together: AvWHeavy, AvActW, AvWTreeN, AvWTreeM, AvRefT, AvWSame, AvCut, AvDagApp. -/
import Derived.Test.YtnlefnhdhigecaaGreatDoorAvG13
import Derived.Test.YtnlefnhdhigecaaGreatDoorAvG6
import Derived.Test.YtnlefnhdhigecaaGreatDoorAvG11
import Derived.Test.YtnlefnhdhigecaaGreatDoorAvG8
import Derived.Test.YtnlefnhdhigecaaGreatDoorAvG12
import Derived.Test.YtnlefnhdhigecaaGreatDoorAvG10
import Derived.Laws.StructEq
import Derived.Test.YtnlefnhdhigecaaGreatDoorAvG1
import Derived.Test.YtnlefnhdhigecaaGreatDoorAvG3
namespace Go.Proofs.YtnlefnhdhigecaaGreatDoor
set_option maxRecDepth 100000
open Go.RowKit Av
structure Light (a:ActN):Prop where
 path:a.o.path.size≤300
 data:a.o.data.size≤1100
 few:a.n.names.length≤20
 ndata:a.n.data.size≤1100
 short:∀ s∈a.n.names,s.length≤60
end Go.Proofs.YtnlefnhdhigecaaGreatDoor

namespace Go.Proofs.YtnlefnhdhigecaaGreatDoor
set_option maxRecDepth 100000
open Go.RowKit Av
structure GoodT (room:Int) (S:List Int) (P:Pt):Prop where
 snd:SoundP room P
 free:PtN P
 parts:AllN PartsOk P
 owned:AllN (OwnedBy S) P
end Go.Proofs.YtnlefnhdhigecaaGreatDoor

namespace Go.Proofs.YtnlefnhdhigecaaGreatDoor
set_option maxRecDepth 100000
open Go.RowKit Av
theorem iter_obj {w:World} {r m:Nat} {es left:List (ByteArray×Value)} (h:Iter Value.string w r m es left):(∀ cur T f,w.heap[r]?≠some (Obj.cells cur T f))∧∀ e c,w.heap[r]?≠some (Obj.map e c):=by
 obtain ⟨L,c,s,sn,_,_,h2,_⟩:=h
 exact ⟨fun cur T f e=>by rw [h2] at e;simp at e,fun q c e=>by rw [h2] at e;simp at e⟩
theorem TreeR.iter {w w':World} {base b m:Nat} {room:Int} {t:Tr} (h:TreeR w base b m room t) {r m0:Nat} {es left:List (ByteArray×Value)} (hit:Iter Value.string w r m0 es left) (k:Kp (fun i=>i=r) w w'):TreeR w' base b m room t:=by
 obtain ⟨h1,h2⟩:=iter_obj hit
 refine h.apart k (fun i hi (hs:i=r)=>?_) (fun i (hs:i=r) _ cur f=>by rw [hs];exact h1 _ _ _)
 rw [← hs] at h1 h2
 rcases hi with rfl|rfl|⟨e,he,rfl⟩
 ·exact h1 _ _ _ (show w.heap[i]? = some (Obj.cells #[.int .i64 room, .map (some m)] trT (0,0)) from h.blk)
 ·obtain ⟨L,clock,hr,_⟩:=h.map
  exact h2 _ _ hr.1
 ·obtain ⟨nv,h4,_⟩:=h.nod e he
  exact h1 _ _ _ (show w.heap[e.2.1]? = some (Obj.cells (ndA e.2.2 nv) ndT (0,0)) from h4)
def CopyRel (w:World) (t:Tr) (room:Int) (m b2 m2 r:Nat) (wr:World):Prop:=
 ∃ left t2,Iter Value.string wr r m (ptrs t) left∧TreeR wr w.heap.size b2 m2 room t2∧(∀ p,mget (pl t2) p=if p∈left.map (·.1) then none else mget (pl t) p)∧Ext w wr∧w.heap.size+2≤r
def CopyPost (w:World) (room:Int) (t:Tr) (e:Ending) (w':World):Prop:=
 ∃ b' m' t',e=.returned (.pointer (some ⟨b',0,none⟩))∧TreeR w' w.heap.size b' m' room t'∧(∀ p,mget (pl t') p=mget (pl t) p)∧Ext w w'
set_option maxHeartbeats 3200000 in
theorem treeCopy_any (base b m:Nat) (room:Int) (t:Tr) (w:World) (hT:TreeR w base b m room t) (hok:TrOk t) :
  Calls Tryz.prog 88 #[.pointer (some ⟨b,0,none⟩)] w fun e w'=>CopyPost w room t e w':=by
 have hmm:=@run_makeMap Tryz.prog
 obtain ⟨wB,hWB⟩:∃ wB,(w.alloc (.map #[] 0)).alloc (.cells #[.int .i64 room, .map (some w.heap.size)] trT)=wB:=⟨_,rfl⟩
 have hxB:Ext w wB:=by rw [← hWB];exact ((Kp.refl _ _).alloc _).alloc _
 have h2:TreeR wB w.heap.size (w.heap.size+1) w.heap.size room []:=by
  refine ⟨⟨by omega,by omega,fun e he=>by (cases he)⟩, ?_, ?_,fun e he=>by (cases he),fun e he=>by (cases he)⟩
  ·rw [← hWB]
   have:=heap_alloc_new (w.alloc (.map #[] 0)) (.cells #[.int .i64 room, .map (some w.heap.size)] trT)
   rw [World.size_alloc] at this
   exact this
  ·rw [← hWB]
   exact (MapK.new w).kp ((Kp.refl (fun _=>False) _).alloc _) (fun f=>f)
 have hTB:=hT.ext hxB
 have c0:=hT.blk.cell 0 _ rfl
 have c1:=hTB.blk.cell 1 _ rfl
 obtain ⟨w3,hrun,hit,hx3,hsz⟩:=MapK.range tNodes hTB.map
 have HIT:=Lib.hid hit
 have H2:=Lib.hid (h2.ext hx3)
 have HX3:=Lib.hid (hxB.ext hx3)
 have HT:=Lib.hid hT
 have HOK:=Lib.hid hok
 have hrs:w.heap.size+2≤wB.heap.size:=by rw [← hWB];simp
 generalize hr:wB.heap.size=r at hrun HIT hrs
 have HRS:=Lib.hid hrs
 have HWB:=Lib.hid hWB
 clear hWB hxB h2 hTB hT hok hit hx3 hsz hr hrs
 go_enter Tryz.func88,Tryz.ntmps88
 go_upto_region 2 with (fail)
 rw [HWB.out]
 go_wp2_with (fail)
 go_loopw [] (fun wr=>CopyRel w t room m (w.heap.size+1) w.heap.size r wr) (fun wr=>itLeft wr r m)
 case atStart=>
  refine ⟨_,[],HIT.out,H2.out,fun p=>?_,HX3.out,HRS.out⟩
  show none=_
  split
  ·rfl
  ·rename_i h
   symm
   rw [pl_get]
   have:mget t p=none:=mget_none.2 (fun hm=>h (by unfold ptrs;rw [List.map_map];exact hm))
   rw [this];rfl
 case round=>
  obtain ⟨left,t2,hit,ht2,hget,hxr,hwr⟩:=hrel
  rcases hit.next (P:=Tryz.prog) with ⟨rfl,hnx⟩|⟨q,v,w',hmem,hnx,hit',hkp,hsz,hen⟩
  ·have HR2:=Lib.hid ht2
   have HG:=Lib.hid hget
   have HXR:=Lib.hid hxr
   clear hit ht2 hget hxr
   go_wp2_with (fail)
   go_ret
   exact ⟨_,_,t2,rfl,HR2.out,fun p=>by rw [HG.out];simp,HXR.out⟩
  ·obtain ⟨e0,he0,hev⟩:=List.mem_map.1 (hit.sub.subset hmem)
   obtain ⟨q',g,n⟩:=e0
   simp only [Prod.mk.injEq] at hev
   obtain ⟨rfl,rfl⟩:=hev
   have hxq:Ext w w':=hxr.next hkp (fun i hi e=>by omega)
   have ht2':TreeR w' w.heap.size (w.heap.size+1) w.heap.size room t2:=ht2.iter hit hkp
   obtain ⟨nv,hnb,hno⟩:NdAt w' g n:=(HT.out.ext hxq).nod _ he0
   obtain ⟨na,nc,rfl⟩:=owns_slice hno
   have HCP:=Lib.hid (statCopied_any n (.slice na n.names.length nc) w' (names_own hno) (HOK.out _ he0).few)
   have HGET:Hid (∀ p,(if p=q' then some n else mget (pl t2) p)=if p∈(mdel left q').map (·.1) then none else mget (pl t) p):=by
    intro p
    have hmd:p∈(mdel left q').map (·.1)↔p∈left.map (·.1)∧p≠q':=by
     unfold mdel
     simp only [List.mem_map,List.mem_filter,decide_eq_true_eq]
     constructor
     ·rintro ⟨e,⟨he,hne⟩,rfl⟩
      exact ⟨⟨e,he,rfl⟩,fun h=>hne h.symm⟩
     ·rintro ⟨⟨e,he,rfl⟩,hne⟩
      exact ⟨e,⟨he,fun h=>hne h.symm⟩,rfl⟩
    by_cases hp:p=q'
    ·rw [if_pos hp,if_neg (fun h=>(hmd.1 h).2 hp),hp,pl_get,mget_of_mem HT.out.keys he0];rfl
    ·rw [if_neg hp,hget]
     by_cases hl:p∈left.map (·.1)
     ·rw [if_pos hl,if_pos (hmd.2 ⟨hl,hp⟩)]
     ·rw [if_neg hl,if_neg (fun h=>hl (hmd.1 h).1)]
   have HML:Hid (∀ {W:World},Iter Value.string W r m (ptrs t) (mdel left q')→itLeft W r m<itLeft wr r m):=fun h=>by rw [hit.left,h.left];exact mdel_length hmem
   have HT2:=Lib.hid ht2'
   have HIT2:=Lib.hid hit'
   have HXQ:=Lib.hid hxq
   have HWR:Hid (w.heap.size+2≤r∧m<w.heap.size):=⟨hwr,HT.out.map.lt⟩
   unfold ndA at hnb HCP
   have j0:=hnb.cell 0 _ rfl
   have j1:=hnb.cell 1 _ rfl
   have j2:=hnb.cell 2 _ rfl
   have j3:=hnb.cell 3 _ rfl
   have j4:=hnb.cell 4 _ rfl
   have j5:=hnb.cell 5 _ rfl
   have j6:=hnb.cell 6 _ rfl
   have j7:=hnb.cell 7 _ rfl
   have j8:=hnb.cell 8 _ rfl
   have j9:=hnb.cell 9 _ rfl
   clear hno hnb hxq ht2' hget hit hit' hmem he0 hxr ht2 hkp hsz hwr
   go_wp2_with (fail)
   refine HCP.out.mono ?_
   rintro e1 w5 ⟨nv5,rfl,ho5,hx5⟩
   obtain ⟨na5,nc5,rfl⟩:=owns_slice ho5
   obtain ⟨wN,hWN⟩:∃ wN,w5.alloc (.cells #[.int .i64 n.made, .int .i64 n.chg, .int .i64 n.ver, .int .i64 n.kids, .int .i64 n.own, .int .i64 n.len, .int .i64 n.cnt, .string n.data, .int .i64 n.next, .slice na5 n.names.length nc5] ndT)=wN:=⟨_,rfl⟩
   have hxN:Ext w5 wN:=by rw [← hWN];exact (Kp.refl _ _).alloc _
   have hN:Blk wN w5.heap.size (ndA n (.slice na5 n.names.length nc5)) ndT:=by rw [← hWN];exact heap_alloc_new w5 _
   have hnd:NdAt wN w5.heap.size n:=⟨_,hN,owns_zero (ownsRow.ext ho5 hxN)⟩
   have hxx:=hx5.ext hxN
   have hTN:=HT2.out.ext hxx
   obtain ⟨wM,u1,u2,u3,u4⟩:=MapK.update kStr tNodes hTN.map q' (.pointer (some ⟨w5.heap.size,0,none⟩))
   have hfr:∀ e∈t2,e.2.1≠w5.heap.size:=fun e he e2=>by
    have h1:=(HT2.out.nod e he).lt
    have h2:=hx5.size
    omega
   have HTM:=Lib.hid (hTN.lay (by have h1:=HXQ.out.size;have h2:=hx5.size;omega) hnd hfr u2 u3)
   have HITM:=Lib.hid ((HIT2.out.ext hxx).kp u3 (by have:=HWR.out;omega) (by have:=HWR.out;omega))
   have HXM:Hid (Ext w wM):=(HXQ.out.ext hxx).next u3 (fun i hi e=>by omega)
   have c1:=hTN.blk.cell 1 _ rfl
   have HWN:=Lib.hid hWN
   clear hWN hxN hN hnd hxx hTN u2 u3 u4 hfr hx5 ho5 HCP j0 j1 j2 j3 j4 j5 j6 j7 j8 j9 hnx hen
   go_upto_region 6 with (fail)
   rw [HWN.out]
   go_wp2_with (fail)
   go_light
   exact ⟨⟨_,_,HITM.out,HTM.out,fun p=>by rw [pl_set,mget_mset];exact HGET.out p,HXM.out,HWR.out.1⟩,HML.out HITM.out⟩
end Go.Proofs.YtnlefnhdhigecaaGreatDoor

namespace Go.Proofs.YtnlefnhdhigecaaGreatDoor
set_option maxRecDepth 100000
open Go.RowKit Av
end Go.Proofs.YtnlefnhdhigecaaGreatDoor

namespace Go.Proofs.YtnlefnhdhigecaaGreatDoor
set_option maxRecDepth 100000
open Go.RowKit Av
abbrev entT:TypeId:=122
abbrev rtT:TypeId:=31
structure Ent where
 p:ByteArray
 n:NodeV
 nv:Value
def entC (e:Ent):List Value:=[.string e.p, .int .i64 e.n.made, .int .i64 e.n.chg, .int .i64 e.n.ver, .int .i64 e.n.kids, .int .i64 e.n.own, .int .i64 e.n.len, .int .i64 e.n.cnt, .string e.n.data, .int .i64 e.n.next,e.nv]
def entL (E:List Ent):RL:=E.map fun e=>(e.p,e.n)
def EntOk (w:World) (e:Ent):Prop:=w.ownsRow 0 strT 1 e.nv e.n.names.length (e.n.names.map encStr)
def NoT (w:World) (S:Nat→Prop) (T:TypeId):Prop:=∀ i,S i→∀ cur f,w.heap[i]?≠some (.cells cur T f)
theorem own_type {w:World} {base k n:Nat} {e:TypeId} {v:Value} {xs:List Value} (h:w.ownsRow base e k v n xs) {i:Nat} (hi:v.ownBlock=some i):∃ cur f,w.heap[i]? = some (.cells cur e f):=by
 obtain ⟨_,⟨rfl,_⟩|⟨q,c,cur,rfl,_,hg,_⟩⟩:=h
 ·simp [Value.ownBlock] at hi
 ·simp only [Value.ownBlock,Option.some.injEq] at hi
  subst hi
  exact ⟨cur,_,hg⟩
theorem owns_kpT {S:Nat→Prop} {w w':World} {base k n:Nat} {e:TypeId} {v:Value} {xs:List Value} (h:w.ownsRow base e k v n xs) (x:Kp S w w') (hs:NoT w S e):w'.ownsRow base e k v n xs:=
 ownsRow.kp h x (fun i hi hsi=>by
  obtain ⟨cur,f,hc⟩:=own_type h hi
  exact hs i hsi cur f hc)
structure EntsR (w:World) (base:Nat) (v:Value) (E:List Ent):Prop where
 row:w.ownsRow base entT 11 v E.length (E.flatMap entC)
 ok:∀ e∈E,EntOk w e
structure RefT (w:World) (base g:Nat) (room:Int) (L:RL):Prop where
 low:base≤g
 ex:∃ v E,entL E=L∧Blk w g #[.int .i64 room,v] rtT∧EntsR w base v E
theorem TreeR.noT {w:World} {base b m:Nat} {room:Int} {t:Tr} (h:TreeR w base b m room t) {T:TypeId} (hT:T≠ndT):NoT w (nodeFr m t) T:=fun _ hi _ _ hc=>hT (h.types hi hc)
end Go.Proofs.YtnlefnhdhigecaaGreatDoor

namespace Go.Proofs.YtnlefnhdhigecaaGreatDoor
set_option maxRecDepth 100000
open Go.RowKit Av
def stB (x y:NodeV):Bool:=decide (x.made=y.made∧x.chg=y.chg∧x.ver=y.ver∧x.kids=y.kids∧x.own=y.own∧x.len=y.len∧x.cnt=y.cnt)
def sameB (x y:NodeV):Bool:=stB x y&&(decide (x.data=y.data)&&(decide (x.next=y.next)&&decide (x.names=y.names)))
theorem sameB_iff {x y:NodeV}:sameB x y=true↔x=y:=by
 unfold sameB stB
 obtain ⟨a1,a2,a3,a4,a5,a6,a7,a8,a9,a10⟩:=x
 obtain ⟨b1,b2,b3,b4,b5,b6,b7,b8,b9,b10⟩:=y
 simp only [Bool.and_eq_true,decide_eq_true_eq,NodeV.mk.injEq]
 constructor
 ·rintro ⟨⟨h1,h2,h3,h4,h5,h6,h7⟩,h8,h9,h10⟩
  exact ⟨h1,h2,h3,h4,h5,h6,h7,h8,h9,h10⟩
 ·rintro ⟨h1,h2,h3,h4,h5,h6,h7,h8,h9,h10⟩
  exact ⟨⟨h1,h2,h3,h4,h5,h6,h7⟩,h8,h9,h10⟩
instance:DecidableEq NodeV:=fun _ _=>decidable_of_iff _ sameB_iff
end Go.Proofs.YtnlefnhdhigecaaGreatDoor

namespace Av
set_option maxRecDepth 100000
open Go Go.RowKit
end Av

namespace Av
set_option maxRecDepth 100000
open Go Go.RowKit
def Fresh0 (base:Nat) (e:TypeId) (k:Nat) (v:Value) (w:World):Prop:=w.ownsRow base e k v 0 []∧∃ g,v=.slice (some ⟨g,0,none⟩) 0 0∧w.heap[g]? = some (.cells #[] e (0,0))
theorem Fresh0.new {base k:Nat} {e:TypeId} {w:World} (hb:base≤w.heap.size):Fresh0 base e k (.slice (some ⟨w.heap.size,0,none⟩) 0 0) (w.alloc (.cells #[] e)):=by
 refine ⟨⟨by simp, .inr ⟨w.heap.size,0,#[],rfl,hb, ?_,Nat.le_refl _,Nat.zero_le _,by simp,by simp⟩⟩,w.heap.size,rfl,heap_alloc_new w _⟩
 exact heap_alloc_new w _
def BoxL (base:Nat) (e:TypeId) (m:Nat) (ys:List Value) (u:Value) (w:World):Prop:=∃ g,base≤g∧u=.slice (some ⟨g,0,none⟩) m m∧w.heap[g]? = some (.cells ys.toArray e (0,0))
theorem BoxL.ext {base m:Nat} {e:TypeId} {ys:List Value} {u:Value} {w w':World} (h:BoxL base e m ys u w) (x:Ext w w'):BoxL base e m ys u w':=by
 obtain ⟨g,h1,rfl,h2⟩:=h
 exact ⟨g,h1,rfl,x.obj h2 (fun f=>f)⟩
theorem BoxL.new {base m:Nat} {e:TypeId} {ys:List Value} {w:World} (hb:base≤w.heap.size):BoxL base e m ys (.slice (some ⟨w.heap.size,0,none⟩) m m) (w.alloc (.cells ys.toArray e)):=
 ⟨w.heap.size,hb,rfl,heap_alloc_new w _⟩
theorem BoxL.sl {base m k:Nat} {e:TypeId} {ys:List Value} {u:Value} {w:World} (h:BoxL base e m ys u w) (hl:ys.length=m*k) (hm:m≤maxLen):Sl w k u m ys∧Shp u:=by
 obtain ⟨g,h1,rfl,h2⟩:=h
 exact ⟨Sl.of_block h2 hl hm (Nat.le_refl _),Shp.some⟩
theorem dUpon_app {P:Program} {o:Oper} {a:Act} {w:World} {K:Value→World→Prop} {d:Tmp} (hd:o.dst=.some d) (hlt:decide (d<a.tmps.size)=true) (t e:TypeId) (k:Nat) (hk:0<k) (hfacts:ElemOk P t e k)
  (hgd:o.guard=none) (s x:Operand) (ho:o.op=.call { callee:=.builtin .append,args:=#[s,x],argTypes:=#[t,t] })
  (base:Nat) (v:Value) (n:Nat) (xs:List Value) (hs:a.eval s=v) (hown:w.ownsRow base e k v n xs)
  (u:Value) (m:Nat) (ys:List Value) (hx:a.eval x=u) (hu:Sl w k u m ys) (hsh:Shp u) (hone:∀ y∈ys,y.oneCell'=true) (hn:n+m≤100000000000) (hbase:base≤w.heap.size)
  (h:∀ v' w',w'.ownsRow base e k v' (n+m) (xs++ys)→Kp (fun k=>v.ownBlock=some k) w w'→K v' w'):DUpon P K ((execOp a.eval o).run P w):=
 DUpon.of_list (ops:=#[]) hd (of_decide_eq_true hlt) hgd
  (wpList_appK t e k hk hfacts hgd s x ho base v n xs hs hown u m ys hx hu hsh hone hn hbase (fun v' w' h1 h2=>⟨rfl,v',rfl,h v' w' h1 h2⟩))
end Av

