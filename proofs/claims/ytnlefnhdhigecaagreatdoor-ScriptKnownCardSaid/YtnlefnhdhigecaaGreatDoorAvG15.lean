/- Texts put together: AvDagRow, AvWOwn, AvWOwn2, AvTreeW, AvWTreeK, AvOwners, AvRefP. -/
import Derived.Test.YtnlefnhdhigecaaGreatDoorAvG14
import Derived.Maps.AppendAt
import Derived.Test.YtnlefnhdhigecaaGreatDoorAvG13
import Derived.Test.YtnlefnhdhigecaaGreatDoorAvG11
import Derived.Test.YtnlefnhdhigecaaGreatDoorAvG3
import Derived.Test.YtnlefnhdhigecaaGreatDoorAvG8
namespace Av
set_option maxRecDepth 100000
open Go Go.RowKit
def Rr (base:Nat) (e:TypeId) (k:Nat) (v:Value) (n:Nat) (xs:List Value) (a b:World):Prop:=
 Kp (fun i=>base≤i∨v.ownBlock=some i) a b∧(a.ownsRow 0 e k v n xs→b.ownsRow 0 e k v n xs)
section
variable {base:Nat} {e:TypeId} {k:Nat} {v:Value} {n:Nat} {xs:List Value}
theorem Rr.refl (w:World):Rr base e k v n xs w w:=⟨Kp.refl _ _,fun h=>h⟩
theorem Rr.trans {a b c:World} (h:Rr base e k v n xs a b) (g:Rr base e k v n xs b c):Rr base e k v n xs a c:=⟨h.1.trans g.1,fun x=>g.2 (h.2 x)⟩
theorem Rr.ext {a b:World} (h:Ext a b):Rr base e k v n xs a b:=⟨Ext.kp h,fun x=>ownsRow.ext x h⟩
end
theorem append_keeps {P:Program} (w:World) (t ty e:TypeId) (i:TypeInfo) (z:Value) (ht:P.underlying t=some (.slice e)) (hi:P.info? e=some i) (hz:i.zero=some z)
  (v:Value) (n:Nat) (xs:List Value) (hown:w.ownsRow 0 e i.size v n xs) (ad:Addr) (m c:Nat) (news:List Value) (hl:news.length=m*i.size) (hnews:∀ j u,news[j]? = some u→w.cell? (ad.add j)=some u) (h1:∀ u∈news,u.oneCell'=true)
  (h63:n+m≤maxLen) (hbytes:(n+m)*i.bytes≤140737488355328) {v':Value} {w':World} (hr:(Builtin.append_ #[t,t] ty #[v, .slice (some ad) m c]).run P w=.ok v' w'):w'.ownsRow 0 e i.size v n xs:=by
 rcases hown.2 with ⟨rfl,rfl⟩|⟨g,cap,cur,rfl,hbg,hg,hnc,hcm,hcs,htake⟩
 ·exact ⟨hown.1, .inl ⟨rfl,rfl⟩⟩
 ·by_cases hroom:n+m≤cap
  ·have hfit:n*i.size+news.length≤cur.size:=by rw [hl,hcs,← Nat.add_mul];exact Nat.mul_le_mul_right _ hroom
   have hr2:=run_append_room (P:=P) w t ty e i ht hi g n cap cur hg ad m c news hl hnews h1 hroom hfit
   rw [hr2] at hr
   simp only [Result.ok.injEq] at hr
   rw [← hr.2]
   have hlt:(cur.toList.take (n*i.size)).length=n*i.size:=by rw [htake];exact hown.1
   refine ⟨hown.1, .inr ⟨g,cap,_,rfl,hbg,setRow_heap w g cur _ e _ hg,hnc,hcm, ?_, ?_⟩⟩
   ·simp only [List.size_toArray,List.length_append,List.length_take,List.length_drop,Array.length_toList]
    omega
   ·rw [List.append_assoc,List.take_append_of_le_length (by rw [hlt];exact Nat.le_refl _),List.take_of_length_le (by rw [hlt];exact Nat.le_refl _)]
    exact htake
  ·have holds:∀ j u,xs[j]? = some u→w.cell? ((⟨g,0,none⟩:Addr).add j)=some u:=hown.cells (g:=g) rfl
   have hr2:=run_append_grow (P:=P) w t ty e i z ht hi hz ⟨g,0,none⟩ n cap xs hown.1 holds ad m c news hl hnews (by omega) (by unfold maxLen at h63;omega) (growslice_fits (by omega) hbytes)
   rw [hr2] at hr
   simp only [Result.ok.injEq] at hr
   rw [← hr.2]
   exact ownsRow.ext hown ((Kp.refl _ _).drew.alloc _)
theorem dUpon_appR {P:Program} {o:Oper} {a:Act} {w:World} {K:Value→World→Prop} {d:Tmp} (hd:o.dst=.some d) (hlt:decide (d<a.tmps.size)=true) (t e:TypeId) (k:Nat) (hk:0<k) (hfacts:ElemOk P t e k)
  (hgd:o.guard=none) (s x:Operand) (ho:o.op=.call { callee:=.builtin .append,args:=#[s,x],argTypes:=#[t,t] })
  (v:Value) (n:Nat) (xs:List Value) (hs:a.eval s=v) (hown:w.ownsRow 0 e k v n xs)
  (u:Value) (m:Nat) (ys:List Value) (hx:a.eval x=u) (base:Nat) (hu:BoxL base e m ys u w) (hl:ys.length=m*k) (hone:∀ y∈ys,y.oneCell'=true) (hn:n+m≤1000000)
  (h:∀ v' w',w'.ownsRow 0 e k v' (n+m) (xs++ys)→w.grownBy w' v.ownBlock→w'.ownsRow 0 e k v n xs→(v'.ownBlock=v.ownBlock∨v'.ownBlock=some w.heap.size)→K v' w'):DUpon P K ((execOp a.eval o).run P w):=by
 obtain ⟨ht,hi⟩:=hfacts
 cases hie:P.info? e with
 | none=>simp [hie] at hi
 | some i=>
   simp only [hie,Option.map_some,Option.some.injEq,Prod.mk.injEq,decide_eq_true_eq] at hi
   obtain ⟨hz,hsz,hby⟩:=hi
   cases hze:i.zero with
   | none=>simp [hze] at hz
   | some z=>
     simp only [hze,Option.map_some,Option.some.injEq] at hz
     subst hsz
     obtain ⟨g,hg,rfl,hblk⟩:=hu
     have hnews:∀ j q,ys[j]? = some q→w.cell? ((⟨g,0,none⟩:Addr).add j)=some q:=by
      intro j q hj
      rw [show (⟨g,0,none⟩:Addr).add j=⟨g,j,none⟩ by by_cases h:j=0<;>simp [Addr.add,h]]
      exact Blk.cell hblk j q (by simpa using hj)
     have hnb:(n+m)*i.bytes≤140737488355328:=by
      have:=Nat.mul_le_mul hn hby
      omega
     obtain ⟨v',w',hr,h2,h3,_,h4⟩:=run_append_own_at (P:=P) w 0 t o.type e i z i.size i.bytes ht hie hze rfl rfl hz hk v n xs hown ⟨g,0,none⟩ m m ys hl hnews hone (by unfold maxLen;omega) hnb (Nat.zero_le _)
     have h5:=append_keeps w t o.type e i z ht hie hze v n xs hown ⟨g,0,none⟩ m m ys hl hnews hone (by unfold maxLen;omega) hnb hr
     refine DUpon.of_list (ops:=#[]) hd (of_decide_eq_true hlt) hgd ?_
     refine wpList_plain hgd fun _ hK=>?_
     unfold Oper.wp execOp
     simp only [ho,resolve,invoke,builtin,Sem.run_bind,Sem.run_pure,Result.andThen_ok,List.map_toArray,List.map_cons,List.map_nil,hs,hx,hr]
     exact hK _ _ ⟨rfl,v',rfl,h v' w' h2 h3 h5 h4⟩
theorem wp_region_dagQ (base:Nat) (e:TypeId) (ke:Nat) (v:Value) (m:Nat) (xs:List Value) {P:Program} {id:Nat} {Q:Exit→Act→World→Prop} {a:Act} {w:World} {l:List Oper} (n:Nat) (C:List (Tmp×List Tmp×List Tmp)) (S:List (Tmp×TSpec)) (hst:Stab (fun a b=>Ext a b) S) (hm:P.follows .mixedOrders=true) (hB:dagB .any l.toArray C n=true) (hsz:dstB l.toArray a.tmps.size=true)
  (h:WpD P l.toArray (fun a b=>Ext a b) (fun a b=>Rr base e ke v m xs a b) w S C (fun a'=>∀ w',Rr base e ke v m xs w w'→Ends l.toArray S C n a' w'→wpList P l.toArray Q (l.drop n) a' w') (l.take n) 0 a):(Code.region id l.toArray true).wp P Q a w:=
 wp_region_dagR n S C (fun a b=>Rr base e ke v m xs a b) (fun w=>Rr.refl w) (fun _ _ _ h k=>h.trans k) (Rr.ext (Kp.refl _ w).drew) hm hB hsz (h.out hst (fun _ _ h=>Rr.ext h))
end Av

namespace Go.Proofs.YtnlefnhdhigecaaGreatDoor
set_option maxRecDepth 100000
open Go.RowKit Av
end Go.Proofs.YtnlefnhdhigecaaGreatDoor

namespace Go.Proofs.YtnlefnhdhigecaaGreatDoor
set_option maxRecDepth 100000
open Go.RowKit Av
end Go.Proofs.YtnlefnhdhigecaaGreatDoor

namespace Go.Proofs.YtnlefnhdhigecaaGreatDoor
set_option maxRecDepth 100000
open Go.RowKit Av
def Apart (b m:Nat) (t:Tr) (b' m':Nat) (c:Tr):Prop:=∀ i,TOwn b m t i→TOwn b' m' c i→False
theorem TreeR.ownLt {w:World} {base b m:Nat} {room:Int} {t:Tr} (h:TreeR w base b m room t) {i:Nat} (hi:TOwn b m t i):base≤i∧i<w.heap.size:=by
 rcases hi with rfl|rfl|⟨e,he,rfl⟩
 ·exact ⟨h.low.1,h.blk.lt⟩
 ·exact ⟨h.low.2.1,h.map.lt⟩
 ·exact ⟨h.low.2.2 e he,(h.nod e he).lt⟩
theorem Apart.new {w w':World} {base base' b m b' m':Nat} {room room':Int} {t c:Tr} (ht:TreeR w base b m room t) (hc:TreeR w' base' b' m' room' c) (hb:w.heap.size≤base'):Apart b m t b' m' c:=fun i h1 h2=>by
 have:=(ht.ownLt h1).2
 have:=(hc.ownLt h2).1
 omega
theorem keys_pl (t:Tr):(pl t).map (·.1)=t.map (·.1):=by unfold pl;rw [List.map_map];rfl
theorem PtK.same {K:Nat} {t u:Pt} (h:PtK K t) (hu:(u.map (·.1)).Nodup) (e:∀ p,mget u p=mget t p):PtK K u:=⟨hu,fun x hx=>by
 have h1:=mget_of_mem hu (k:=x.1) hx
 rw [e] at h1
 exact h.2 _ (mget_mem h1)⟩
end Go.Proofs.YtnlefnhdhigecaaGreatDoor

namespace Go.Proofs.YtnlefnhdhigecaaGreatDoor
set_option maxRecDepth 100000
open Go.RowKit Av
def ownB (t:Tr) (sess:Int) (p:Bs):Bool:=decide (0<sess)&&(match mget t ⟨p.toArray⟩ with
 | none=>false
 | some e=>e.2.own == sess)
def OfLoop (w1:World) (t:Tr) (L:List Bs) (sess:Int) (s5 s11:Value) (wr:World):Prop:=∃ (k:Nat) (v:Value),k≤L.length∧s11=.int .i64 k∧s5=v∧wr.ownsRow w1.heap.size strT 1 v ((L.take k).filter (ownB t sess)).length (((L.take k).filter (ownB t sess)).map encStr)∧Ext w1 wr
theorem filter_yes {f:Bs→Bool} {L:List Bs} {k:Nat} (hk:k<L.length) (h:f L[k]=true):(L.take (k+1)).filter f=(L.take k).filter f++[L[k]]:=by
 rw [List.take_succ_eq_append_getElem hk,List.filter_append]
 simp [h]
theorem filter_no {f:Bs→Bool} {L:List Bs} {k:Nat} (hk:k<L.length) (h:f L[k]=false):(L.take (k+1)).filter f=(L.take k).filter f:=by
 rw [List.take_succ_eq_append_getElem hk,List.filter_append]
 simp [h]
set_option maxHeartbeats 1600000 in
theorem treeOf_any (base b m:Nat) (room:Int) (t:Tr) (sess:Int) (w:World) (hT:TreeR w base b m room t) (hs:∀ e∈t,e.1.size≤maxLen) (hn:t.length≤100000) :
  Calls Tryz.prog 28 #[.pointer (some ⟨b,0,none⟩), .int .i64 sess] w fun e w'=>PathsPost w ((pathsP (pl t)).filter (ownB t sess)) e w':=by
 have HP:=Lib.hid (treePaths_any base b m room t w hT hs (by omega))
 have HT:=Lib.hid hT
 have HM:Hid (∀ x∈pathsP (pl t),∃ g n,mget t ⟨x.toArray⟩=some (g,n)):=by
  intro x hx
  obtain ⟨e,he,rfl⟩:=pathsP_mem.1 hx
  obtain ⟨y,hy,rfl⟩:=List.mem_map.1 he
  refine ⟨y.2.1,y.2.2, ?_⟩
  rw [bytes_self]
  exact mget_of_mem hT.keys hy
 have hlen:(pathsP (pl t)).length≤100000:=by rw [pathsP_len,pl_len];exact hn
 generalize pathsP (pl t)=L at HP HM hlen ⊢
 clear hT hs hn
 go_enter Tryz.func28,Tryz.ntmps28
 go_wp2_with (fail)
 refine HP.out.mono ?_
 rintro e w1 ⟨v,rfl,ho,hx⟩
 obtain ⟨a,c,hsl,hop⟩:∃ a c,v=.slice a L.length c∧(0<L.length→∃ g off,a=some ⟨g,off,none⟩∧∀ k (hk:k<L.length),w1.cell? ⟨g,off+k,none⟩=some (encStr L[k])):=by
  obtain ⟨a,c,e,_,_,_,h⟩:=Sl.open (Sl.of_owns ho)
  refine ⟨a,c,e,fun h0=>?_⟩
  obtain ⟨g,off,e2,_,hc⟩:=h h0
  exact ⟨g,off,e2,fun k hk=>hc k _ (by rw [List.getElem?_map,List.getElem?_eq_getElem hk];rfl)⟩
 subst hsl
 have HOP:=Lib.hid hop
 have HX:=Lib.hid hx
 clear ho hop hx HP
 go_wp2_with (fail)
 go_loopw [5,11] (fun s5 s11 wr=>OfLoop w1 t L sess s5 s11 wr) (fun _ s11 _=>L.length - (intOf s11).toNat)
 case atStart=>exact ⟨0, .slice none 0 0,Nat.zero_le _,rfl,rfl,by simp;exact ⟨rfl, .inl ⟨rfl,rfl⟩⟩,Kp.refl _ _⟩
 case round=>
  obtain ⟨k,v,hk,rfl,rfl,how,hxr⟩:=hrel
  have HOW:=Lib.hid how
  have HXR:=Lib.hid hxr
  obtain ⟨va,vc,rfl⟩:=owns_slice how
  clear how hxr
  by_cases hlt:k<L.length
  ·obtain ⟨g,off,rfl,hcl⟩:=HOP.out (by omega)
   have hc:=HXR.out.cell (hcl k hlt) (fun f=>f)
   obtain ⟨gn,n,hg⟩:=HM.out L[k] (List.getElem_mem hlt)
   have hT:=(HT.out.ext HX.out).ext HXR.out
   have hlk:=tree_look hT ⟨(L[k]).toArray⟩
   rw [hg] at hlk
   simp only [Option.map_some,Option.getD_some] at hlk
   have c1:=hT.blk.cell 1 _ rfl
   obtain ⟨nv,hnb,_⟩:=hT.nod _ (mget_mem hg)
   have n4:wr.cell? ⟨gn,4,none⟩=some (.int .i64 n.own):=hnb.cell 4 _ rfl
   have HYES:=Lib.hid (fun h=>filter_yes (f:=ownB t sess) hlt h)
   have HNO:=Lib.hid (fun h=>filter_no (f:=ownB t sess) hlt h)
   have HOB:Hid (ownB t sess L[k]=(decide (0<sess)&&(n.own == sess))):=by show _=_;unfold ownB;rw [hg]
   have hflen:=Lib.hid (List.length_filter_le (ownB t sess) (L.take k))
   have HTK:Hid ((L.take k).length≤100000):=by show _≤_;rw [List.length_take];omega
   generalize L[k]=p at hc hlk HYES HNO HOB
   unfold encStr at hc
   clear hg hT hnb hcl
   by_cases h0:0<sess
   ·by_cases h1:n.own=sess
    ·have hb1:(n.own == sess)=true:=by simpa using h1
     have hyes:=HYES.out (by rw [HOB.out,hb1];simp [h0])
     have HY:=Lib.hid hyes
     clear hyes HYES HNO HOB
     generalize (L.take k).filter (ownB t sess)=F at *
     have hFl:F.length≤100000:=Nat.le_trans hflen.out HTK.out
     go_wp2_with (at_builtin;refine wpList_app1 36 strT str_facts rfl _ _ rfl w1.heap.size _ F.length (F.map encStr) rfl (ownsRow.ext HOW.out ((Kp.refl _ wr).alloc _)) wr.heap.size 1 (encStr p) rfl (Blk.cell (heap_alloc_new wr _) 0 _ rfl) rfl ?c1 ?c2 ?_)
     case c1=>omega
     case c2=>exact Nat.le_trans HXR.out.size (Nat.le_succ _)
     intro v' w' h1' h2'
     go_wp2_with (fail)
     go_light
     refine ⟨⟨k+1,v',by omega,by go_num,rfl, ?_, ?_⟩,by simp [intOf];omega⟩
     ·rw [HY.out,List.length_append,List.map_append]
      exact h1'
     ·exact (HXR.out.alloc _).next h2' (fun i hi e=>by have:=(own_in HOW.out e).1;omega)
    ·have hb1:(n.own == sess)=false:=by simpa using h1
     have hno:=HNO.out (by rw [HOB.out,hb1];simp)
     have HNX:=Lib.hid hno
     clear hno HYES HNO HOB
     go_wp2_with (fail)
     go_light
     exact ⟨⟨k+1,_,by omega,by go_num,rfl,by rw [HNX.out];exact HOW.out,HXR.out⟩,by simp [intOf];omega⟩
   ·have hno:=HNO.out (by rw [HOB.out];simp [h0])
    have HNX:=Lib.hid hno
    clear hno HYES HNO HOB
    go_wp2_with (fail)
    go_light
    exact ⟨⟨k+1,_,by omega,by go_num,rfl,by rw [HNX.out];exact HOW.out,HXR.out⟩,by simp [intOf];omega⟩
  ·have hk2:k=L.length:=by omega
   subst hk2
   rw [List.take_length] at HOW ⊢
   go_wp2_with (fail)
   go_ret
   exact ⟨_,rfl,own_less HOW.out HX.out.size,HX.out.trans HXR.out⟩
end Go.Proofs.YtnlefnhdhigecaaGreatDoor

namespace Go.Proofs.YtnlefnhdhigecaaGreatDoor
set_option maxRecDepth 100000
open Go.RowKit Av
def ofS (P:Pt) (L:List Bs) (s:Int):List Bs:=L.filter fun x=>decide (0<s)&&(ownI P x == s)
theorem ownB_pl (t:Tr) (s:Int) (x:Bs):ownB t s x=(decide (0<s)&&(ownI (pl t) x == s)):=by
 unfold ownB ownI
 rw [pl_get]
 cases mget t ⟨x.toArray⟩ with
 | none=>
   by_cases h:0<s
   ·have h2:¬ (0:Int)=s:=by omega
    simp [h2]
   ·simp [h]
 | some e=>rfl
theorem tsOf {w0 w:World} {b m:Nat} {room:Int} {K:Nat} {t:Tr} (h:TS w0 w b m room K t) (hs:SoundP room (pl t)) (hr:room≤100000) (s:Int) :
  Calls Tryz.prog 28 #[.pointer (some ⟨b,0,none⟩), .int .i64 s] w fun e w'=>PathsPost w (ofS (pl t) (pathsP (pl t)) s) e w':=by
 have e:ofS (pl t) (pathsP (pl t)) s=(pathsP (pl t)).filter (ownB t s):=by
  unfold ofS
  congr 1
  funext x
  rw [ownB_pl]
 rw [e]
 refine treeOf_any w0.heap.size b m room t s w h.tr (fun e he=>?_) ?_
 ·have h1:mget (pl t) e.1=some e.2.2:=by
   rw [pl_get,mget_of_mem h.tr.keys (k:=e.1) he];rfl
  have:=path_small e.1 (hs.good _ _ h1)
  unfold maxLen
  omega
 ·have:=hs.size
  rw [pl_len] at this
  omega
end Go.Proofs.YtnlefnhdhigecaaGreatDoor

namespace Go.Proofs.YtnlefnhdhigecaaGreatDoor
set_option maxRecDepth 100000
open Go.RowKit Av
end Go.Proofs.YtnlefnhdhigecaaGreatDoor

