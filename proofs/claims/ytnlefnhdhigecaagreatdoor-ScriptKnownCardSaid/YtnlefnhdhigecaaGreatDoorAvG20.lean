/- Texts put together: AvSesE, AvRoom, AvSesF, AvSesG. -/
import Derived.Test.YtnlefnhdhigecaaGreatDoorAvG19
import Derived.Test.YtnlefnhdhigecaaGreatDoorAvG15
import Derived.Test.YtnlefnhdhigecaaGreatDoorAvG1
import Derived.Test.YtnlefnhdhigecaaGreatDoorAvG16
import Derived.Deep.RegionHeld3
import Derived.Deep.AppendLies
namespace Go.Proofs.YtnlefnhdhigecaaGreatDoor
set_option maxRecDepth 100000
open Go.RowKit Av
theorem keptS_snoc {p:SeV→Bool} {xs:List SeV} {j:Nat} (hj:j<xs.length):(xs.take (j+1)).filter (fun x=>!p x)=(xs.take j).filter (fun x=>!p x)++(if p xs[j] then [] else [xs[j]]):=by
 rw [List.take_succ_eq_append_getElem hj,List.filter_append]
 cases h:p xs[j]<;>simp [h]
theorem keptS_start {p:SeV→Bool} {xs:List SeV} {k:Nat} (hk:k<xs.length) (hall:∀ x∈xs.take k,p x=false) (hp:p xs[k]=true):(xs.take (k+1)).filter (fun x=>!p x)=xs.take k:=by
 rw [keptS_snoc hk,hp,if_pos rfl,List.append_nil,List.filter_eq_self]
 intro x hx;rw [hall x hx];rfl
structure DelStS (p:SeV→Bool) (xs dk:List SeV) (i j:Nat):Prop where
 hj:j≤xs.length
 hi:i=((xs.take j).filter (fun x=>!p x)).length
 lt:i<j
 len:dk.length=xs.length
 low:dk.take i=(xs.take j).filter (fun x=>!p x)
 high:dk.drop j=xs.drop j
theorem DelStS.at {p:SeV→Bool} {xs dk:List SeV} {i j:Nat} (h:DelStS p xs dk i j) (hlt:j<xs.length):dk[j]'(by rw [h.len];exact hlt)=xs[j]:=by
 have h1:=h.high
 rw [List.drop_eq_getElem_cons (by rw [h.len];exact hlt),List.drop_eq_getElem_cons hlt] at h1
 exact (List.cons.inj h1).1
theorem DelStS.skip {p:SeV→Bool} {xs dk:List SeV} {i j:Nat} (h:DelStS p xs dk i j) (hlt:j<xs.length) (hp:p xs[j]=true):DelStS p xs dk i (j+1):=by
 have hk:(xs.take (j+1)).filter (fun x=>!p x)=(xs.take j).filter (fun x=>!p x):=by rw [keptS_snoc hlt,hp,if_pos rfl,List.append_nil]
 refine ⟨hlt,by rw [hk];exact h.hi,by have:=h.lt;omega,h.len,by rw [hk];exact h.low, ?_⟩
 have:=congrArg (List.drop 1) h.high
 simpa [List.drop_drop] using this
theorem DelStS.keep {p:SeV→Bool} {xs dk:List SeV} {i j:Nat} (h:DelStS p xs dk i j) (hlt:j<xs.length) (hp:p xs[j]=false):DelStS p xs (dk.set i xs[j]) (i+1) (j+1):=by
 have hk:(xs.take (j+1)).filter (fun x=>!p x)=(xs.take j).filter (fun x=>!p x)++[xs[j]]:=by rw [keptS_snoc hlt,hp];rfl
 have hlt2:=h.lt
 have hlen:=h.len
 refine ⟨hlt,by rw [hk,List.length_append,← h.hi];rfl,by omega,by rw [List.length_set];exact h.len, ?_, ?_⟩
 ·rw [hk,← h.low,List.take_set,List.take_succ_eq_append_getElem (by omega:i<dk.length),List.set_append_right _ _ (by rw [List.length_take];omega)]
  congr 1
  rw [List.length_take,Nat.min_eq_left (by omega),Nat.sub_self];rfl
 ·have h2:(dk.set i xs[j]).drop (j+1)=dk.drop (j+1):=by rw [List.drop_set_of_lt (by omega)]
  rw [h2]
  have:=congrArg (List.drop 1) h.high
  simpa [List.drop_drop] using this
def DFRelS (p:SeV→Bool) (S0:Nat→Prop) (base rb cap:Nat) (Inv:List SeV→Option Nat→World→Prop) (xs:List SeV) (w:World) (s5 s6:Value) (wr:World):Prop:=
 ∃ (i j:Nat) (dk:List SeV),s5=.int .i64 i∧s6=.int .i64 j∧DelStS p xs dk i j∧RowB wr rb 206 3 cap (dk.flatMap scell)∧(∃ cur,Inv (xs.take j) cur wr)∧Kp (fun i=>(S0 i∨base≤i)∨i=rb) w wr
def DeldS (p:SeV→Bool) (base:Nat) (Inv:List SeV→Option Nat→World→Prop) (xs:List SeV) (ad:Option Addr) (cap:Nat) (e:Ending) (w':World):Prop:=
 e=.returned (.slice ad (xs.filter fun x=>!p x).length cap)∧w'.ownsRow base 206 3 (.slice ad (xs.filter fun x=>!p x).length cap) (xs.filter fun x=>!p x).length ((xs.filter fun x=>!p x).flatMap scell)∧∃ cur,Inv xs cur w'
set_option maxHeartbeats 3200000 in
theorem deleteFuncS_any {g:Nat} {lb:Array Value} {p:SeV→Bool} {S0:Nat→Prop} {base rb:Nat} {Inv:List SeV→Option Nat→World→Prop} (hA:AskedS g lb p S0 base rb Inv) (rbase:Nat) (ad:Option Addr) (xs:List SeV) (cap:Nat) (w:World)
  (hown:w.ownsRow rbase 206 3 (.slice ad xs.length cap) xs.length (xs.flatMap scell)) (had:∀ a,ad=some a→a.block=rb) (hrb:ad≠none→rb<base) (hb:base≤w.heap.size) (hm:xs.length≤100000) (h0:∃ cur,Inv [] cur w) :
  Calls Tryz.prog 143 #[.slice ad xs.length cap, .func (.func g) #[] lb] w fun e w'=>DeldS p rbase Inv xs ad cap e w'∧Kp (fun i=>(S0 i∨base≤i)∨i=rb) w w':=by
 have hrow:∀ a,ad=some a→ad=some ⟨rb,0,none⟩∧RowB w rb 206 3 cap (xs.flatMap scell)∧xs.length≤cap∧cap≤maxLen∧rbase≤rb:=by
  intro a ha
  subst ha
  obtain ⟨b,rfl,h1,_,h3,h4,h5⟩:=RowB.of_owns hown
  have:=had _ rfl
  simp only at this
  subst this
  exact ⟨rfl,h1,h3,h4,h5⟩
 have hsome:xs≠[]→∃ a,ad=some a:=by
  intro hne
  cases ad with
  | some a=>exact ⟨a,rfl⟩
  | none=>
    exfalso
    obtain ⟨_,h2|⟨g,c,cur,hv,_⟩⟩:=hown
    ·exact hne (List.eq_nil_of_length_eq_zero h2.2)
    ·simp at hv
 have eg:=hA.eg
 have HIF:=Lib.hid (indexFuncS_any hA ad xs cap w (fun hne=>by
  obtain ⟨a,ha⟩:=hsome hne
  obtain ⟨h1,h2,_⟩:=hrow a ha
  exact ⟨h1,hrb (by rw [ha];simp),h2⟩) hm h0)
 have hown1:∀ w1,Kp (fun i=>S0 i∨base≤i) w w1→w1.ownsRow rbase 206 3 (.slice ad xs.length cap) xs.length (xs.flatMap scell):=by
  intro w1 hk
  refine ownsRow.kp hown hk ?_
  intro b hb h
  cases ad with
  | none=>simp [Value.ownBlock] at hb
  | some a=>
    have hab:a.block=b:=by simpa [Value.ownBlock] using hb
    have:=had a rfl
    rw [hab] at this
    subst this
    have hrb:=hrb (by simp)
    rcases h with h|h
    ·exact (hA.s0 _ h).1 rfl
    ·omega
 have HOWN:=Lib.hid hown1
 have HROW:=Lib.hid hrow
 have HSOME:=Lib.hid hsome
 have HA:=Lib.hid hA
 have HHB:=Lib.hid hb
 clear hown hown1 had hrow hsome hA h0
 go_enter Tryz.func143,Tryz.ntmps143
 go_wp2_with (fail)
 refine HIF.out.mono ?_
 rintro e w1 ⟨hf,hk1⟩
 have HK1:=Lib.hid hk1
 clear HIF hk1
 rcases hf with ⟨rfl,hall,hcur⟩|⟨k,hk,rfl,hall,hp,hcur⟩
 ·have HALL:=Lib.hid hall
  have HC:=Lib.hid hcur
  clear hall hcur
  go_wp2_with (fail)
  go_ret
  refine ⟨?_,HK1.out.mono (fun i _ h=>.inl h)⟩
  unfold DeldS
  rw [show xs.filter (fun x=>!p x)=xs from List.filter_eq_self.2 (fun x hx=>by rw [HALL.out x hx];rfl)]
  refine ⟨rfl, ?_,HC.out⟩
  exact HOWN.out _ HK1.out
 ·have hne:xs≠[]:=by rintro rfl;simp at hk
  obtain ⟨a,rfl⟩:=HSOME.out hne
  have hrb:=hrb (by simp)
  obtain ⟨h1,hrow,hcap,hcm,hrr⟩:=HROW.out a rfl
  simp only [Option.some.injEq] at h1
  subst h1
  have HC:=Lib.hid hcur
  have HROW1:Hid (RowB w1 rb 206 3 cap (xs.flatMap scell)):=hrow.kp HK1.out (fun f=>Or.elim f (fun h=>(HA.out.s0 rb h).1 rfl) (fun h=>by omega))
  have HD:Hid (DelStS p xs xs k (k+1)):=by
   show DelStS p xs xs k (k+1)
   have hks:=keptS_start hk hall hp
   exact ⟨hk,by rw [hks,List.length_take];omega,Nat.lt_succ_self _,rfl,by rw [hks],rfl⟩
  have HRR:=Lib.hid hrr
  have hne1:((k:Int) == -1)=false:=beq_eq_false_iff_ne.2 (by omega)
  unfold maxLen at hcm
  clear hall hp hcur hrow HROW HSOME HOWN hrr
  go_wp2_with (fail)
  go_loopw [5,6] (fun s5 s6 wr=>DFRelS p S0 base rb cap Inv xs w s5 s6 wr) (fun _ s6 _=>xs.length - (intOf s6).toNat)
  case atStart=>exact ⟨k,k+1,xs,rfl,by go_num,HD.out,HROW1.out,HC.out,HK1.out.mono (fun i _ h=>.inl h)⟩
  case round=>
   clear HD HROW1 HC HK1 hk hne1
   obtain ⟨i,j,dk,rfl,rfl,hd,hrow,⟨cur,hinv⟩,hkp⟩:=hrel
   have hij:=hd.lt
   have hjn:=hd.hj
   have HD:=Lib.hid hd
   have HK:=Lib.hid hkp
   have HI:=Lib.hid hinv
   have HR:=Lib.hid hrow
   clear hd hkp hinv hrow
   by_cases hlt:j<xs.length
   ·have hlt2:j<dk.length:=by rw [HD.out.len];exact hlt
    have hat:=HD.out.at hlt
    have c0:=HR.out.cell (i:=j*3) (v:=.int .i64 xs[j].id) (by rw [← hat];exact rowK_cell scell 3 (fun _=>rfl) dk j hlt2 0 (by decide))
    have c1:=HR.out.cell (i:=j*3+1) (v:=.int .i64 xs[j].span) (by rw [← hat];exact rowK_cell scell 3 (fun _=>rfl) dk j hlt2 1 (by decide))
    have c2:=HR.out.cell (i:=j*3+2) (v:=.int .i64 xs[j].till) (by rw [← hat];exact rowK_cell scell 3 (fun _=>rfl) dk j hlt2 2 (by decide))
    obtain ⟨x,hx⟩:∃ x,xs[j]=x:=⟨_,rfl⟩
    rw [hx] at c0 c1 c2
    have HX:=Lib.hid hx
    clear hx hat
    obtain ⟨W2,hW2⟩:∃ W2,wr.alloc (.cells #[.int .i64 x.id, .int .i64 x.span, .int .i64 x.till] 206)=W2:=⟨_,rfl⟩
    have hx2:Ext wr W2:=by rw [← hW2];exact (Kp.refl _ _).alloc _
    have hb2:Blk W2 wr.heap.size #[.int .i64 x.id, .int .i64 x.span, .int .i64 x.till] 206:=by rw [← hW2];exact heap_alloc_new wr _
    have hwr:w.heap.size≤wr.heap.size:=HK.out.size
    have hcon:Calls Tryz.prog g (#[.agg #[.int .i64 x.id, .int .i64 x.span, .int .i64 x.till]]++lb) W2 fun e w'=>e=.returned (.bool (p x))∧(∃ cur',Inv (xs.take (j+1)) cur' w')∧Kp (fun i=>(S0 i∨base≤i)∨i=rb) w w'∧RowB w' rb 206 3 cap (dk.flatMap scell)∧Blk w' wr.heap.size #[.int .i64 x.id, .int .i64 x.span, .int .i64 x.till] 206:=by
     have hi2:=HA.out.kp _ _ wr W2 HI.out hx2.kp
     have hcu:=HA.out.cur (xs.take j) cur wr
     refine (HA.out.call (xs.take j) cur x W2 (by rw [List.length_take];omega) hi2).mono ?_
     rintro e w' ⟨rfl,cur',h1,h2⟩
     refine ⟨rfl,⟨cur',by rw [List.take_succ_eq_append_getElem hlt,HX.out];exact h1⟩,(HK.out.ext hx2).next h2 ?_,(HR.out.kp hx2 (fun f=>f)).kp h2 ?_,hb2.kp h2 ?_⟩
     ·rintro i hi (h|h)
      ·exact .inl (.inl h)
      ·exact .inl (.inr (hcu i HI.out h).1)
     ·intro f
      rcases f with h|h
      ·exact (HA.out.s0 _ h).1 rfl
      ·exact (hcu rb HI.out h).2.2 rfl
     ·intro f
      rcases f with h|h
      ·have:=(HA.out.s0 _ h).2;have:=HHB.out;omega
      ·exact absurd (hcu _ HI.out h).2.1 (Nat.lt_irrefl _)
    have HCON:=Lib.hid hcon
    have hil:i<dk.length:=by omega
    have HD0:=Lib.hid (rowK_cell scell 3 (fun _=>rfl) dk i hil)
    have g0:=hb2.cell 0 _ rfl
    have g1:=hb2.cell 1 _ rfl
    have g2:=hb2.cell 2 _ rfl
    clear hcon hx2 hb2 hwr hlt2
    go_upto_region 8 with (fail)
    cases hp:p x with
    | true=>
      have HP:=Lib.hid hp
      rw [hp] at HCON
      clear hp hW2
      go_wp2_with (go_at_fn g;refine HCON.out.mono ?_;rintro e w2 ⟨rfl,h1,h2,h3,h4⟩;have H1:=Lib.hid h1;have H2:=Lib.hid h2;have H3:=Lib.hid h3;clear h1 h2 h3 h4)
      go_light
      exact ⟨⟨i,j+1,dk,rfl,by go_num,HD.out.skip hlt (by rw [HX.out];exact HP.out),H3.out,H1.out,H2.out⟩,by simp [intOf];omega⟩
    | false=>
      have HP:=Lib.hid hp
      rw [hp] at HCON
      clear hp hW2
      go_wp2_with (go_at_fn g;refine HCON.out.mono ?_;rintro e w2 ⟨rfl,h1,h2,h3,h4⟩;have H1:=Lib.hid h1;have H2:=Lib.hid h2;have H3:=Lib.hid h3;have e0:=h4.cell 0 _ rfl;have e1:=h4.cell 1 _ rfl;have e2:=h4.cell 2 _ rfl;have d0:=h3.cell (i:=i*3) (v:=.int .i64 dk[i].id) (HD0.out 0 (by decide));have d1:=h3.cell (i:=i*3+1) (v:=.int .i64 dk[i].span) (HD0.out 1 (by decide));have d2:=h3.cell (i:=i*3+2) (v:=.int .i64 dk[i].till) (HD0.out 2 (by decide));have r0:=h3.free (i*3);have r1:=h3.free (i*3+1);have r2:=h3.free (i*3+2);clear h1 h2 h3 h4)
      go_light
      obtain ⟨cur',hi'⟩:=H1.out
      refine ⟨⟨i+1,j+1,dk.set i x,by go_num,by go_num, ?_, ?_,⟨cur',HA.out.kp _ _ w2 _ hi' (kp_set3 (S:=fun i=>i=rb) (Kp.refl _ _) rb _ _ _ _ rfl)⟩,kp_set3 H2.out rb _ _ _ _ (.inr rfl)⟩,by simp [intOf];omega⟩
      ·have:=HD.out.keep hlt (by rw [HX.out];exact HP.out)
       rwa [HX.out] at this
      ·have:=((H3.out.set (i*3) (.int .i64 x.id)).set (i*3+1) (.int .i64 x.span)).set (i*3+2) (.int .i64 x.till)
       rwa [flat_set3 scell x _ _ _ rfl (fun _=>rfl)] at this
   ·have hj2:j=xs.length:=by omega
    subst hj2
    have hlen:=HD.out.len
    have hfl:=flat_len scell 3 (fun _=>rfl) dk
    obtain ⟨vs,hvl,hclr⟩:=run_clear_rows (P:=Tryz.prog) wr 199 206 _ 3 rfl (by decide) Tryz.underlying199 Tryz.zeroValue206 (by intro v hv;simp [Value.cells] at hv;rcases hv with rfl|rfl|rfl<;>rfl) rb (i*3) (xs.length - i) (cap - i) (by omega)
     (fun q hq=>by
       have:i*3+q<(dk.flatMap scell).length:=by rw [hfl];omega
       rw [HR.out.cell (List.getElem?_eq_getElem this)];rfl)
     (fun q _=>HR.out.free _)
    have HV:=Lib.hid hvl
    clear hlen hfl
    go_wp2_with (fail)
    go_ret
    obtain ⟨cur',hi'⟩:∃ cur',Inv xs cur' wr:=⟨cur,by have:=HI.out;rwa [List.take_length] at this⟩
    have hk:dk.take i=xs.filter (fun x=>!p x):=by have:=HD.out.low;rwa [List.take_length] at this
    have hil:i=(xs.filter fun x=>!p x).length:=by have:=HD.out.hi;rwa [List.take_length] at this
    have hrow:=RowB.setCells vs (i*3) HR.out
    have hlen:=HD.out.len
    have ho:=hrow.owns (m:=i) (base:=rbase) (by rw [setMs_len,flat_len scell 3 (fun _=>rfl)];omega) (by omega) (by unfold maxLen;omega) HRR.out
    rw [setMs_take _ _ _ _ (Nat.le_refl _),flat_take scell 3 (fun _=>rfl),hk] at ho
    refine ⟨⟨by rw [← hil];rfl, ?_,cur',HA.out.kp _ _ wr _ hi' (kp_setCells _ _ _)⟩,HK.out.next (kp_setCells vs wr (i*3)) (fun q _ e=>.inr e)⟩
    rw [← hil]
    exact ho
end Go.Proofs.YtnlefnhdhigecaaGreatDoor

namespace Av
set_option maxRecDepth 100000
open Go Go.RowKit
theorem set_same1 {l:List Value} {i:Nat} {v:Value} (h:l[i]? = some v):l.set i v=l:=by
 obtain ⟨hi,rfl⟩:=List.getElem?_eq_some_iff.1 h
 exact List.set_getElem_self hi
theorem dUpon_room {P:Program} {o:Oper} {a:Act} {w:World} {K:Value→World→Prop} {d:Tmp} (hd:o.dst=.some d) (hlt:decide (d<a.tmps.size)=true) (t e:TypeId) (k:Nat) (hfacts:ElemOk P t e k)
  (hgd:o.guard=none) (s x:Operand) (ho:o.op=.call { callee:=.builtin .append,args:=#[s,x],argTypes:=#[t,t] })
  (b n c:Nat) (xs:List Value) (hrow:RowB w b e k c xs) (hs:a.eval s=.slice (some ⟨b,0,none⟩) n c)
  (u:Option Addr) (m c2:Nat) (ys:List Value) (hx:a.eval x=.slice u m c2) (hu:∃ ad,u=some ad∧∀ j q,ys[j]? = some q→w.cell? (ad.add j)=some q) (hl:ys.length=m*k) (hone:∀ y∈ys,y.oneCell'=true) (hroom:n+m≤c) (hin:n*k+ys.length≤xs.length)
  (h:∀ w',RowB w' b e k c (xs.take (n*k)++ys++xs.drop (n*k+ys.length))→Kp (fun i=>i=b) w w'→K (.slice (some ⟨b,0,none⟩) (n+m) c) w'):DUpon P K ((execOp a.eval o).run P w):=by
 obtain ⟨ad,rfl,hys⟩:=hu
 obtain ⟨ht,hi⟩:=hfacts
 cases hie:P.info? e with
 | none=>simp [hie] at hi
 | some i=>
   simp only [hie,Option.map_some,Option.some.injEq,Prod.mk.injEq,decide_eq_true_eq] at hi
   obtain ⟨hz,hsz,hby⟩:=hi
   subst hsz
   obtain ⟨cur,hg,hcs,htake⟩:=hrow
   have hxl:xs.length≤cur.size:=by
    have:=congrArg List.length htake
    rw [List.length_take] at this
    simp at this;omega
   have hfit:n*i.size+ys.length≤cur.size:=by omega
   have hr:=run_append_room (P:=P) w t o.type e i ht hie b n c cur hg ad m c2 ys hl hys hone hroom hfit
   refine DUpon.of_list (ops:=#[]) hd (of_decide_eq_true hlt) hgd ?_
   refine wpList_plain hgd fun _ hK=>?_
   unfold Oper.wp execOp
   simp only [ho,resolve,invoke,builtin,Sem.run_bind,Sem.run_pure,Result.andThen_ok,List.map_toArray,List.map_cons,List.map_nil,hs,hx,hr]
   refine hK _ _ ⟨rfl,_,rfl,h _ ⟨_,setRow_heap w b cur _ e _ hg, ?_, ?_⟩ ?_⟩
   ·simp only [List.size_toArray,List.length_append,List.length_take,List.length_drop,Array.length_toList]
    omega
   ·have e1:xs.take (n*i.size)=cur.toList.take (n*i.size):=by rw [← htake,List.take_take,Nat.min_eq_left (by omega)]
    have e2:xs.drop (n*i.size+ys.length)=(cur.toList.drop (n*i.size+ys.length)).take (xs.length - (n*i.size+ys.length)):=by
     conv=>lhs;rw [← htake]
     rw [List.drop_take]
    have hlen:(xs.take (n*i.size)++ys++xs.drop (n*i.size+ys.length)).length=xs.length:=by
     simp only [List.length_append,List.length_take,List.length_drop];omega
    rw [hlen,e1,e2]
    rw [List.take_append,List.take_append]
    have l1:(cur.toList.take (n*i.size)).length=n*i.size:=by rw [List.length_take,Array.length_toList];omega
    have l2:(cur.toList.take (n*i.size)++ys).length=n*i.size+ys.length:=by rw [List.length_append,l1]
    rw [l1,l2,List.take_of_length_le (l:=cur.toList.take (n*i.size)) (by rw [l1];omega),List.take_of_length_le (l:=ys) (by omega)]
   ·exact (Kp.refl (fun i=>i=b) w).grown ⟨rfl,rfl,rfl,by simp,fun k _ hk=>setRow_other w b k _ (fun e=>hk (by rw [e]))⟩ (fun k hk _=>(Option.some.inj hk).symm)
end Av

namespace Go.Proofs.YtnlefnhdhigecaaGreatDoor
set_option maxRecDepth 100000
open Go.RowKit Av
abbrev ssT:TypeId:=201
abbrev seT:TypeId:=206
abbrev sesT:TypeId:=199
theorem se_facts:ElemOk Tryz.prog sesT seT 3:=⟨by kernel_rfl,by kernel_rfl⟩
def SesR (w:World) (b:Nat) (ro:Option Nat) (s:SsV):Prop:=
 ∃ v,Blk w b #[.int .i64 s.room, .int .i64 s.now, .int .i64 s.next,v] ssT∧w.ownsRow 0 seT 3 v s.l.length (s.l.flatMap scell)∧v.ownBlock=ro∧∀ i,ro=some i→i≠b
theorem SesR.kp {S:Nat→Prop} {w w':World} {b:Nat} {ro:Option Nat} {s:SsV} (h:SesR w b ro s) (k:Kp S w w') (hb:¬ S b) (hr:∀ i,ro=some i→¬ S i):SesR w' b ro s:=by
 obtain ⟨v,h1,h2,h3,h4⟩:=h
 exact ⟨v,h1.kp k hb,ownsRow.kp h2 k (fun i hi=>hr i (by rw [← h3,hi])),h3,h4⟩
theorem SesR.ext {w w':World} {b:Nat} {ro:Option Nat} {s:SsV} (h:SesR w b ro s) (k:Ext w w'):SesR w' b ro s:=h.kp k (fun f=>f) (fun _ _ f=>f)
theorem SesR.lt {w:World} {b:Nat} {ro:Option Nat} {s:SsV} (h:SesR w b ro s):b<w.heap.size∧∀ i,ro=some i→i<w.heap.size:=by
 obtain ⟨v,h1,h2,h3,h4⟩:=h
 refine ⟨h1.lt,fun i hi=>?_⟩
 subst h3
 obtain ⟨_,⟨rfl,_⟩|⟨g,cap,cur,rfl,_,hg,_⟩⟩:=h2
 ·simp [Value.ownBlock] at hi
 ·simp only [Value.ownBlock,Option.some.injEq] at hi
  subst hi
  exact (Array.getElem?_eq_some_iff.1 hg).1
theorem SesR.open {w:World} {b:Nat} {ro:Option Nat} {s:SsV} (h:SesR w b ro s):∃ a c,Blk w b #[.int .i64 s.room, .int .i64 s.now, .int .i64 s.next, .slice a s.l.length c] ssT∧w.ownsRow 0 seT 3 (.slice a s.l.length c) s.l.length (s.l.flatMap scell)∧(Value.slice a s.l.length c).ownBlock=ro∧(∀ i,ro=some i→i≠b)∧(∀ x,a=some x→ro=some x.block):=by
 obtain ⟨v,h1,h2,h3,h4⟩:=h
 obtain ⟨a,c,rfl,_⟩:=Sl.open (Sl.of_owns h2)
 refine ⟨a,c,h1,h2,h3,h4,fun x hx=>?_⟩
 subst hx
 rw [← h3];rfl
theorem SesR.mk {w:World} {b:Nat} {ro:Option Nat} {s:SsV} {v:Value} (h1:Blk w b #[.int .i64 s.room, .int .i64 s.now, .int .i64 s.next,v] ssT) (h2:w.ownsRow 0 seT 3 v s.l.length (s.l.flatMap scell)) (h3:v.ownBlock=ro) (h4:∀ i,ro=some i→i≠b):SesR w b ro s:=⟨v,h1,h2,h3,h4⟩
set_option maxHeartbeats 800000 in
theorem sesNew_any (w:World):Calls Tryz.prog 76 #[.int .i64 64] w fun e w'=>e=.returned (.tuple #[.pointer (some ⟨w.heap.size,0,none⟩), .int .i64 0])∧SesR w' w.heap.size none ⟨64,0,1,[]⟩∧Ext w w':=by
 go_enter Tryz.func76,Tryz.ntmps76
 go_wp2_with (fail)
 go_ret2
 refine ⟨by simp,SesR.mk (v:=.slice none 0 0) (heap_alloc_new w _) ⟨rfl, .inl ⟨rfl,rfl⟩⟩ rfl (by simp),(Kp.refl _ _).alloc _⟩
def FiInv (sb:Nat) (s:Int) (rb:Nat) (base:Nat) (_seen:List SeV) (cur:Option Nat) (W:World):Prop:=cur=none∧W.cell? ⟨sb,0,none⟩=some (.int .i64 s)∧sb≠rb∧base≤W.heap.size
set_option maxHeartbeats 800000 in
theorem findAsk (sb:Nat) (s:Int) (rb base:Nat):AskedS 169 #[.pointer (some ⟨sb,0,none⟩)] (isS s) (fun _=>False) base rb (FiInv sb s rb base):=by
 refine ⟨enters_of Tryz.func169 (by kernel_rfl) rfl, ?_, ?_, ?_, ?_⟩
 ·intro seen cur x W _ hI
  obtain ⟨rfl,hc,hne,hbs⟩:=hI
  obtain ⟨xi,xp,xt⟩:=x
  have hlt:=World.block_lt_of_cell? W _ hc
  have HH:=Lib.hid (show ∀ W',Ext W W'→FiInv sb s rb base (seen++[⟨xi,xp,xt⟩]) none W' from fun W' hx=>⟨rfl,hx.cell hc (fun f=>f),hne,Nat.le_trans hbs hx.size⟩)
  have hcX:∀ o:Obj,(W.alloc o).cell? ⟨sb,0,none⟩=some (.int .i64 s):=fun o=>Lib.cell?_alloc_some o hc
  clear hbs hne
  go_enter Tryz.func169,Tryz.ntmps169
  go_wp2_with (fail)
  go_ret
  go_light
  refine ⟨ret_bool ?_,⟨none,HH.out _ ((Kp.refl _ _).alloc _)⟩,(Kp.refl _ _).alloc _⟩
  first|rfl|(unfold isS;rw [Bool.eq_iff_iff];simp)
 ·intro seen cur W W' hI hk
  obtain ⟨rfl,hc,hne,hbs⟩:=hI
  exact ⟨rfl,hk.cell hc hne,hne,Nat.le_trans hbs hk.size⟩
 ·intro seen cur W i hI he
  rw [hI.1] at he;cases he
 ·intro i f;exact f.elim
def idxF (l:List SeV) (id:Int):Int:=match findS l id with
 | none=>-1
 | some k=>k
set_option maxHeartbeats 1600000 in
theorem sesFind_any (b:Nat) (ro:Option Nat) (s:SsV) (id:Int) (w:World) (h:SesR w b ro s) (hn:s.l.length≤100000) :
  Calls Tryz.prog 130 #[.pointer (some ⟨b,0,none⟩), .int .i64 id] w fun e w'=>e=.returned (.int .i64 (idxF s.l id))∧Ext w w':=by
 obtain ⟨hlt,hrl⟩:=h.lt
 obtain ⟨a,c,hb,hown,hro,hrb,had⟩:=h.open
 obtain ⟨W,hW⟩:∃ W,w.alloc (.cells #[.int .i64 id] 2)=W:=⟨_,rfl⟩
 have hx:Ext w W:=by rw [← hW];exact (Kp.refl _ _).alloc _
 have hs:Blk W w.heap.size #[.int .i64 id] 2:=by rw [← hW];exact heap_alloc_new w _
 have hsz:W.heap.size=w.heap.size+1:=by rw [← hW];simp
 have c1:=(hb.kp hx (fun f=>f)).cell 3 _ rfl
 have hcon:Calls Tryz.prog 168 #[.slice a s.l.length c, .func (.func 169) #[] #[.pointer (some ⟨w.heap.size,0,none⟩)]] W fun e w'=>e=.returned (.int .i64 (idxF s.l id))∧Ext w w':=by
  have hne:w.heap.size≠ro.getD W.heap.size:=by
   cases hr:ro with
   | none=>simp;omega
   | some r=>have:=hrl r hr;simp;omega
  refine (indexFuncS_any (findAsk w.heap.size id (ro.getD W.heap.size) W.heap.size) a s.l c W (fun hn=>?_) hn ⟨none,rfl,hs.cell 0 _ rfl,hne,Nat.le_refl _⟩).mono ?_
  ·have hown2:=ownsRow.ext hown hx
   cases ha:a with
   | none=>
     rw [ha] at hown2
     obtain ⟨_,h2|⟨g,c,cur,hv,_⟩⟩:=hown2
     ·exact absurd (List.eq_nil_of_length_eq_zero h2.2) hn
     ·simp at hv
   | some x=>
     rw [ha] at hown2
     obtain ⟨r,rfl,h1,_⟩:=RowB.of_owns hown2
     have h2:=had _ ha
     have h3:=hrl _ h2
     simp only at h2 h3
     rw [h2]
     exact ⟨rfl,by simp;omega,h1⟩
  ·rintro e w' ⟨hf,hk⟩
   have hx':Ext w w':=hx.trans (hk.mono (fun i hi e=>by
    rcases e with e|e
    ·exact e
    ·omega))
   rcases hf with ⟨rfl,hall,_⟩|⟨k,hk,rfl,hall,hp,_⟩
   ·exact ⟨by unfold idxF;rw [findS_none hall],hx'⟩
   ·exact ⟨by unfold idxF;rw [findS_at hk hall hp],hx'⟩
 have HCON:=Lib.hid hcon
 clear h hb hown hcon hx hs hrb hrl hlt hsz hro had
 go_enter Tryz.func130,Tryz.ntmps130
 go_wp2_with (fail)
 refine HCON.out.mono ?_
 rintro e w1 ⟨rfl,hx1⟩
 have HX1:=Lib.hid hx1
 clear hx1
 go_wp2_with (fail)
 go_ret
 exact ⟨rfl,HX1.out⟩
set_option maxHeartbeats 800000 in
theorem sesLive_any (b:Nat) (ro:Option Nat) (s:SsV) (id:Int) (w:World) (h:SesR w b ro s) (hn:s.l.length≤100000) :
  Calls Tryz.prog 85 #[.pointer (some ⟨b,0,none⟩), .int .i64 id] w fun e w'=>e=.returned (.bool (liveS s id))∧Ext w w':=by
 have HF:=Lib.hid (sesFind_any b ro s id w h hn)
 have HL:Hid ((findS s.l id=none∧liveS s id=false∧idxF s.l id=-1)∨∃ k:Nat,findS s.l id=some k∧liveS s id=true∧idxF s.l id=k):=by
  unfold liveS idxF
  cases findS s.l id with
  | none=>exact .inl ⟨rfl,rfl,rfl⟩
  | some k=>exact .inr ⟨k,rfl,rfl,rfl⟩
 clear h
 rcases HL.out with ⟨_,h2,h3⟩|⟨k,_,h2,h3⟩
 all_goals
  rw [h3] at HF
  rw [h2]
  clear h2 h3 HL
  go_enter Tryz.func85,Tryz.ntmps85
  go_wp2_with (fail)
  refine HF.out.mono ?_
  rintro e w1 ⟨rfl,hx1⟩
  have HX1:=Lib.hid hx1
  clear hx1
  go_wp2_with (fail)
  go_ret
  go_light
  exact ⟨ret_bool (by simp),HX1.out⟩
end Go.Proofs.YtnlefnhdhigecaaGreatDoor

namespace Go.Proofs.YtnlefnhdhigecaaGreatDoor
set_option maxRecDepth 100000
open Go.RowKit Av
theorem scell_one (xs:List SeV):∀ y∈xs.flatMap scell,y.oneCell'=true:=by
 intro y hy
 obtain ⟨e,_,he⟩:=List.mem_flatMap.1 hy
 simp [scell] at he
 rcases he with rfl|rfl|rfl<;>rfl
def SesPost (w:World) (b:Nat) (ro:Option Nat) (s':SsV) (r:Value) (e:Ending) (w':World):Prop:=
 e=.returned r∧(∃ ro',SesR w' b ro' s'∧∀ i,ro'=some i→ro=some i∨w.heap.size≤i)∧Kp (fun i=>i=b∨ro=some i) w w'
theorem SesPost.no {w w':World} {b:Nat} {ro:Option Nat} {s:SsV} {r:Value} (h:SesR w b ro s) (hx:Ext w w'):SesPost w b ro s r (.returned r) w':=⟨rfl,⟨ro,h.ext hx,fun _ hi=>.inl hi⟩,hx.kp⟩
theorem idxF_some {l:List SeV} {id:Int} {k:Nat} (h:findS l id=some k):idxF l id=k:=by unfold idxF;rw [h]
theorem idxF_none {l:List SeV} {id:Int} (h:findS l id=none):idxF l id=-1:=by unfold idxF;rw [h]
set_option maxHeartbeats 3200000 in
theorem sesTouch_any (N b:Nat) (ro:Option Nat) (s:SsV) (id:Int) (w:World) (h:SesR w b ro s) (hok:SsOk N s) (hN:N≤1000000000) :
  Calls Tryz.prog 81 #[.pointer (some ⟨b,0,none⟩), .int .i64 id] w fun e w'=>SesPost w b ro (touchS s id).1 (.int .i64 (touchS s id).2) e w':=by
 have HF:=Lib.hid (sesFind_any b ro s id w h (by have:=hok.len;omega))
 have HH:=Lib.hid h
 cases hf:findS s.l id with
 | none=>
   rw [idxF_none hf] at HF
   have HE:Hid (touchS s id=(s,11)):=by show _=_;unfold touchS;rw [hf]
   clear h hf
   go_enter Tryz.func81,Tryz.ntmps81
   go_wp2_with (fail)
   refine HF.out.mono ?_
   rintro e w1 ⟨rfl,hx1⟩
   have HX1:=Lib.hid hx1
   clear hx1
   go_wp2_with (fail)
   go_ret
   rw [HE.out]
   exact SesPost.no HH.out HX1.out
 | some k=>
   rw [idxF_some hf] at HF
   obtain ⟨hk,hid⟩:=findS_lt hf
   have hsp:=hok.span _ (List.getElem_mem hk)
   have hnow:=hok.now
   obtain ⟨x,hx⟩:∃ x,s.l[k]=x:=⟨_,rfl⟩
   rw [hx] at hsp
   have HE:Hid (touchS s id=(⟨s.room,s.now,s.next,s.l.set k ⟨x.id,x.span,s.now+x.span⟩⟩,0)):=by
    show _=_
    unfold touchS setTill
    rw [hf]
    simp only [List.getElem?_eq_getElem hk,hx]
   obtain ⟨a,c,hb,hown,hro,hrb,had⟩:=h.open
   obtain ⟨ad,rfl⟩:∃ ad,a=some ad:=by
    cases a with
    | some ad=>exact ⟨ad,rfl⟩
    | none=>
      obtain ⟨_,h2|⟨g,c,cur,hv,_⟩⟩:=hown
      ·omega
      ·simp at hv
   obtain ⟨r,rfl,hrow,_,hnc,hcm,_⟩:=RowB.of_owns hown
   have hr0:=had _ rfl
   simp only at hr0
   subst hr0
   have hcell:=rowK_cell scell 3 (fun _=>rfl) s.l k hk
   rw [hx] at hcell
   have HROW:=Lib.hid hrow
   have HB:=Lib.hid hb
   have HRB:=Lib.hid hrb
   have HCE:=Lib.hid hcell
   have HS:Hid ((s.l.set k ⟨x.id,x.span,s.now+x.span⟩).flatMap scell=(((s.l.flatMap scell).set (k*3) (.int .i64 x.id)).set (k*3+1) (.int .i64 x.span)).set (k*3+2) (.int .i64 (s.now+x.span))):=(flat_set3 scell _ _ _ _ rfl (fun _=>rfl) s.l k).symm
   have HS2:Hid (((s.l.flatMap scell).set (k*3) (.int .i64 x.id)).set (k*3+1) (.int .i64 x.span)=s.l.flatMap scell):=by
    show _=_
    have h0:(s.l.flatMap scell)[k*3]? = some (.int .i64 x.id):=hcell 0 (by decide)
    have h1:(s.l.flatMap scell)[k*3+1]? = some (.int .i64 x.span):=hcell 1 (by decide)
    rw [set_same1 h0,set_same1 h1]
   have hI1:(0:Int)≤(k:Int):=by omega
   have hI2:(k:Int)<(s.l.length:Int):=by omega
   have hI3:¬ (k:Int)<0:=by omega
   have hW1:wrap64 (s.now+x.span)=s.now+x.span:=by unfold wrap64;omega
   have hV1:IntKind.i64.wrap (s.now+x.span)=s.now+x.span:=IntWalk.i64_in _ (by omega)
   have HLEN:Hid ((s.l.set k ⟨x.id,x.span,s.now+x.span⟩).length=s.l.length):=List.length_set
   have HNC:Hid (s.l.length≤c∧c≤maxLen):=⟨hnc,hcm⟩
   clear h hf hb hown hrow hcell hx hid hsp hnow hnc hcm
   go_enter Tryz.func81,Tryz.ntmps81
   go_wp2_with (fail)
   refine HF.out.mono ?_
   rintro e w1 ⟨rfl,hx1⟩
   have HX1:=Lib.hid hx1
   have HB1:=Lib.hid (HB.out.kp hx1 (fun f=>f))
   have HR1:=Lib.hid (HROW.out.kp hx1 (fun f=>f))
   clear hx1
   go_upto_region 4 with (fail)
   refine' wp_region_dagK 20 [] ((11, .val _)::(12, .val _)::(13, .val _)::(14, .val _)::(15, .val _)::(16, .val _)::(17, .val _)::(18, .val _)::(19, .val _)::(20, .val _)::(21, .val _)::(22, .val _)::(23, .val _)::(24, .val _)::(25, .val _)::(26, .val _)::(27, .val _)::(28, .val _)::(29, .val _)::(30, .val _)::[]) (by exact ⟨fun _ _ _ _ _=>trivial,⟨fun _ _ _ _ _=>trivial,⟨fun _ _ _ _ _=>trivial,⟨fun _ _ _ _ _=>trivial,⟨fun _ _ _ _ _=>trivial,⟨fun _ _ _ _ _=>trivial,⟨fun _ _ _ _ _=>trivial,⟨fun _ _ _ _ _=>trivial,⟨fun _ _ _ _ _=>trivial,⟨fun _ _ _ _ _=>trivial,⟨fun _ _ _ _ _=>trivial,⟨fun _ _ _ _ _=>trivial,⟨fun _ _ _ _ _=>trivial,⟨fun _ _ _ _ _=>trivial,⟨fun _ _ _ _ _=>trivial,⟨fun _ _ _ _ _=>trivial,⟨fun _ _ _ _ _=>trivial,⟨fun _ _ _ _ _=>trivial,⟨fun _ _ _ _ _=>trivial,⟨fun _ _ _ _ _=>trivial,trivial⟩⟩⟩⟩⟩⟩⟩⟩⟩⟩⟩⟩⟩⟩⟩⟩⟩⟩⟩⟩) (by kernel_rfl) (by kernel_rfl) (by kernel_rfl) ?_
   rotate_left 20
   simp only [List.take_succ_cons,List.take_zero]
   repeat (first
    | (refine wpD_skipv ?_ ?_ ?_
       focus rfl
       focus rfl
       simp only [Act.put,List.setIfInBounds_toArray,List.set_cons_succ,List.set_cons_zero])
    | (refine' wpD_val (c:=_) ?_ (fun w=>Kp.refl _ w) ?_ (fun wq hwq hfq=>?_) ?_
       rotate_left
       focus rfl
       focus rfl
       focus ((have hext:Ext w1 wq:=hwq.mono (fun i hi e=>by omega);have hbq:=HB1.out.kp hext (fun f=>f);have c1:=hbq.cell 1 _ rfl;have c3:=hbq.cell 3 _ rfl;have e1:=(HR1.out.kp hext (fun f=>f)).cell (HCE.out 1 (by decide)));go_simp;first|done|rfl)
       simp only [Act.put,List.setIfInBounds_toArray,List.set_cons_succ,List.set_cons_zero])
    | (refine' wpD_con (c:=_) ?_ ?_ (fun wq hwq hfq=>?_) ?_
       rotate_left
       focus rfl
       focus rfl
       focus ((have hext:Ext w1 wq:=hwq.mono (fun i hi e=>by omega);have hbq:=HB1.out.kp hext (fun f=>f);have c1:=hbq.cell 1 _ rfl;have c3:=hbq.cell 3 _ rfl;have e1:=(HR1.out.kp hext (fun f=>f)).cell (HCE.out 1 (by decide)));go_simp;(try (rw [dUpon_enter]));fail)
       simp only [Act.put,List.setIfInBounds_toArray,List.set_cons_succ,List.set_cons_zero])
    | fail)
   refine wpD_nil ?_
   intro w2 hr2 hend
   clear hend
   have hx2:Ext w1 w2:=hr2.mono (fun i hi e=>by omega)
   clear hr2
   have HR2:=Lib.hid (HR1.out.kp hx2 (fun f=>f))
   have HB2:=Lib.hid (HB1.out.kp hx2 (fun f=>f))
   have f2:=HR2.out.free (k*3+2)
   have e2:=HR2.out.cell (HCE.out 2 (by decide))
   have HX2:=Lib.hid (HX1.out.trans hx2)
   clear hx2
   go_wp2_with (fail)
   go_ret
   rw [HE.out]
   have hk2:Kp (fun i=>i=r) w2 (w2.setCell ⟨r,k*3+2,none⟩ (.int .i64 (s.now+x.span))):=Kp.set1 (S:=fun i=>i=r) (Kp.refl _ _) r _ _ rfl
   refine ⟨rfl,⟨some r,SesR.mk (v:=.slice (some ⟨r,0,none⟩) s.l.length c) (HB2.out.kp hk2 (fun (e:b=r)=>HRB.out r rfl e.symm)) ?_ rfl HRB.out,fun i hi=>.inl hi⟩,(Ext.kp HX2.out).next hk2 (fun i _ (e:i=r)=>.inr (by rw [e]))⟩
   have hrow:=HR2.out.set (k*3+2) (.int .i64 (s.now+x.span))
   have h3:RowB (w2.setCell ⟨r,k*3+2,none⟩ (.int .i64 (s.now+x.span))) r seT 3 c ((s.l.set k ⟨x.id,x.span,s.now+x.span⟩).flatMap scell):=by
    rw [HS.out,HS2.out];exact hrow
   have h4:=h3.owns (m:=s.l.length) (base:=0) (by rw [flat_len scell 3 (fun _=>rfl),HLEN.out];exact Nat.le_refl _) HNC.out.1 HNC.out.2 (Nat.zero_le _)
   rw [flat_take scell 3 (fun _=>rfl),List.take_of_length_le (by rw [HLEN.out];exact Nat.le_refl _)] at h4
   show World.ownsRow _ 0 seT 3 _ (s.l.set k ⟨x.id,x.span,s.now+x.span⟩).length _
   rw [HLEN.out]
   exact h4
set_option maxHeartbeats 3200000 in
theorem sesOpen_any (N b:Nat) (ro:Option Nat) (s:SsV) (span:Int) (w:World) (h:SesR w b ro s) (hok:SsOk N s) (hN:N≤1000000000) :
  Calls Tryz.prog 78 #[.pointer (some ⟨b,0,none⟩), .int .i64 span] w fun e w'=>SesPost w b ro (openS s span).1 (.tuple #[.int .i64 (openS s span).2.1, .int .i64 (openS s span).2.2]) e w':=by
 have HH:=Lib.hid h
 by_cases h1:span<1
 ·have HE:Hid (openS s span=(s,0,1)):=by show _=_;unfold openS;rw [if_pos (.inl h1)]
  clear h
  go_enter Tryz.func78,Tryz.ntmps78
  go_wp2_with (fail)
  go_ret2
  rw [HE.out]
  exact SesPost.no HH.out (Kp.refl _ _)
 ·by_cases h2:10000<span
  ·have HE:Hid (openS s span=(s,0,1)):=by show _=_;unfold openS;rw [if_pos (.inr h2)]
   clear h
   go_enter Tryz.func78,Tryz.ntmps78
   go_wp2_with (fail)
   go_ret2
   rw [HE.out]
   exact SesPost.no HH.out (Kp.refl _ _)
  ·obtain ⟨a,c,hb,hown,hro,hrb,had⟩:=h.open
   have HB:=Lib.hid hb
   by_cases h3:s.room≤(s.l.length:Int)
   ·have HE:Hid (openS s span=(s,0,9)):=by show _=_;unfold openS;rw [if_neg (by omega),if_pos h3]
    clear h hb hown hro hrb had
    go_enter Tryz.func78,Tryz.ntmps78
    go_upto_region 3 with (fail)
    refine' wp_region_dag0 ((15, .val _)::(16, .val _)::(17, .val _)::(18, .val _)::(19, .val _)::(20, .val _)::(21, .val _)::(22, .val _)::(23, .val _)::(24, .val _)::(14, .val _)::[]) (by exact ⟨fun _ _ _ _ _=>trivial,⟨fun _ _ _ _ _=>trivial,⟨fun _ _ _ _ _=>trivial,⟨fun _ _ _ _ _=>trivial,⟨fun _ _ _ _ _=>trivial,⟨fun _ _ _ _ _=>trivial,⟨fun _ _ _ _ _=>trivial,⟨fun _ _ _ _ _=>trivial,⟨fun _ _ _ _ _=>trivial,⟨fun _ _ _ _ _=>trivial,⟨fun _ _ _ _ _=>trivial,trivial⟩⟩⟩⟩⟩⟩⟩⟩⟩⟩⟩) (by kernel_rfl) (by kernel_rfl) (by kernel_rfl) ?_
    rotate_left 11
    repeat (first
     | (refine wpD_skipv ?_ ?_ ?_
        focus rfl
        focus rfl
        simp only [Act.put,List.setIfInBounds_toArray,List.set_cons_succ,List.set_cons_zero])
     | (refine' wpD_val (c:=_) ?_ (fun w=>Kp.refl _ w) ?_ (fun wq hwq hfq=>?_) ?_
        rotate_left
        focus rfl
        focus rfl
        focus ((have hbq:=HB.out.kp hwq (fun f=>f);have c0:=hbq.cell 0 _ rfl;have c3:=hbq.cell 3 _ rfl);go_simp;first|done|rfl)
        simp only [Act.put,List.setIfInBounds_toArray,List.set_cons_succ,List.set_cons_zero])
     | (refine' wpD_con (c:=_) ?_ ?_ (fun wq hwq hfq=>?_) ?_
        rotate_left
        focus rfl
        focus rfl
        focus ((have hbq:=HB.out.kp hwq (fun f=>f);have c0:=hbq.cell 0 _ rfl;have c3:=hbq.cell 3 _ rfl);go_simp;(try (rw [dUpon_enter]));fail)
        simp only [Act.put,List.setIfInBounds_toArray,List.set_cons_succ,List.set_cons_zero])
     | fail)
    refine wpD_nil ?_
    intro w2 hx2 hend
    clear hend
    have HX2:=Lib.hid hx2
    clear hx2
    go_wp2_with (fail)
    go_ret2
    rw [HE.out]
    exact SesPost.no HH.out HX2.out
   ·have HE:Hid (openS s span=(⟨s.room,s.now,s.next+1,s.l++[⟨s.next,span,s.now+span⟩]⟩,s.next,0)):=by show _=_;unfold openS;rw [if_neg (by omega),if_neg h3]
    have hnow:=hok.now
    have hnext:=hok.next
    have hlen:=hok.len
    have hW1:wrap64 (s.now+span)=s.now+span:=by unfold wrap64;omega
    have hV1:IntKind.i64.wrap (s.now+span)=s.now+span:=IntWalk.i64_in _ (by omega)
    have hW2:wrap64 (s.next+1)=s.next+1:=by unfold wrap64;omega
    have HOWN:=Lib.hid hown
    have HRO:=Lib.hid hro
    have HRB:=Lib.hid hrb
    have HLT:=Lib.hid h.lt
    clear h hb hown hro hrb had hnow hnext hok
    go_enter Tryz.func78,Tryz.ntmps78
    go_upto_region 3 with (fail)
    refine' wp_region_dag0 ((15, .val _)::(16, .val _)::(17, .val _)::(18, .val _)::(19, .val _)::(20, .val _)::(21, .val _)::(22, .val _)::(23, .val _)::(24, .val _)::(14, .val _)::[]) (by exact ⟨fun _ _ _ _ _=>trivial,⟨fun _ _ _ _ _=>trivial,⟨fun _ _ _ _ _=>trivial,⟨fun _ _ _ _ _=>trivial,⟨fun _ _ _ _ _=>trivial,⟨fun _ _ _ _ _=>trivial,⟨fun _ _ _ _ _=>trivial,⟨fun _ _ _ _ _=>trivial,⟨fun _ _ _ _ _=>trivial,⟨fun _ _ _ _ _=>trivial,⟨fun _ _ _ _ _=>trivial,trivial⟩⟩⟩⟩⟩⟩⟩⟩⟩⟩⟩) (by kernel_rfl) (by kernel_rfl) (by kernel_rfl) ?_
    rotate_left 11
    repeat (first
     | (refine wpD_skipv ?_ ?_ ?_
        focus rfl
        focus rfl
        simp only [Act.put,List.setIfInBounds_toArray,List.set_cons_succ,List.set_cons_zero])
     | (refine' wpD_val (c:=_) ?_ (fun w=>Kp.refl _ w) ?_ (fun wq hwq hfq=>?_) ?_
        rotate_left
        focus rfl
        focus rfl
        focus ((have hbq:=HB.out.kp hwq (fun f=>f);have c0:=hbq.cell 0 _ rfl;have c3:=hbq.cell 3 _ rfl);go_simp;first|done|rfl)
        simp only [Act.put,List.setIfInBounds_toArray,List.set_cons_succ,List.set_cons_zero])
     | (refine' wpD_con (c:=_) ?_ ?_ (fun wq hwq hfq=>?_) ?_
        rotate_left
        focus rfl
        focus rfl
        focus ((have hbq:=HB.out.kp hwq (fun f=>f);have c0:=hbq.cell 0 _ rfl;have c3:=hbq.cell 3 _ rfl);go_simp;(try (rw [dUpon_enter]));fail)
        simp only [Act.put,List.setIfInBounds_toArray,List.set_cons_succ,List.set_cons_zero])
     | fail)
    refine wpD_nil ?_
    intro w2 hx2 hend
    clear hend
    have HX2:=Lib.hid hx2
    have hb2:=HB.out.kp hx2 (fun f=>f)
    have c2:=hb2.cell 2 _ rfl
    have f2:=hb2.free 2
    have HB2:=Lib.hid hb2
    have HO2:=Lib.hid (ownsRow.ext HOWN.out hx2)
    clear hx2 hb2
    go_upto_region 7 with (fail)
    obtain ⟨W4,hW4⟩:∃ W4,w2.setCell ⟨b,2,none⟩ (.int .i64 (s.next+1))=W4:=⟨_,rfl⟩
    rw [hW4]
    have hk4:Kp (fun i=>i=b) w2 W4:=by rw [← hW4];exact Kp.set1 (S:=fun i=>i=b) (Kp.refl _ _) b 2 _ rfl
    have hbb4:Blk W4 b #[.int .i64 s.room, .int .i64 s.now, .int .i64 (s.next+1), .slice a s.l.length c] ssT:=by rw [← hW4];exact HB2.out.set 2 _
    have hro:(Value.slice a s.l.length c).ownBlock=ro:=HRO.out
    have hown4:W4.ownsRow 0 seT 3 (.slice a s.l.length c) s.l.length (s.l.flatMap scell):=ownsRow.kp HO2.out hk4 (fun i hi e=>HRB.out i (by rw [← hro];exact hi) e)
    have hnb:¬ (W4.heap.size≤b∨(Value.slice a s.l.length c).ownBlock=some b):=fun f=>by
     rcases f with f|f
     ·have:=hbb4.lt;omega
     ·rw [hro] at f;exact HRB.out b f rfl
    have HNB:=Lib.hid hnb
    have HO4:=Lib.hid hown4
    have HBB4:=Lib.hid hbb4
    have HX4:Hid (Kp (fun i=>i=b∨ro=some i) w W4):=(Ext.kp HX2.out).next hk4 (fun i _ e=>.inl e)
    clear hown4 hnb hro hW4 hk4 hbb4 c2 f2
    refine' wp_region_dagQ W4.heap.size seT 3 (.slice a s.l.length c) s.l.length (s.l.flatMap scell) 18 [(51,[50],[])] ((36, .val _)::(37, .val _)::(38, .val _)::(39, .val _)::(40, .val _)::(41, .val _)::(42, .val _)::(43, .val _)::(44, .val _)::(45, .val _)::(46, .val _)::(47, .val _)::(48, .val _)::(49, .val _)::(50,⟨fun _=>True,fun v w=>BoxL W4.heap.size seT 1 [.int .i64 s.next, .int .i64 span, .int .i64 (s.now+span)] v w⟩)::(51,⟨fun v=>∃ a l c,v=.slice a l c,fun v w=>w.ownsRow 0 seT 3 v (s.l.length+1) (s.l.flatMap scell++[.int .i64 s.next, .int .i64 span, .int .i64 (s.now+span)])∧∀ i,v.ownBlock=some i→(Value.slice a s.l.length c).ownBlock=some i∨W4.heap.size≤i⟩)::(52, .val _)::(53, .val _)::[]) (by exact ⟨fun _ _ _ _ _=>trivial,⟨fun _ _ _ _ _=>trivial,⟨fun _ _ _ _ _=>trivial,⟨fun _ _ _ _ _=>trivial,⟨fun _ _ _ _ _=>trivial,⟨fun _ _ _ _ _=>trivial,⟨fun _ _ _ _ _=>trivial,⟨fun _ _ _ _ _=>trivial,⟨fun _ _ _ _ _=>trivial,⟨fun _ _ _ _ _=>trivial,⟨fun _ _ _ _ _=>trivial,⟨fun _ _ _ _ _=>trivial,⟨fun _ _ _ _ _=>trivial,⟨fun _ _ _ _ _=>trivial,⟨fun _ _ _ hr hv=>hv.ext hr,⟨fun _ _ _ hr hv=>⟨ownsRow.ext hv.1 hr,hv.2⟩,⟨fun _ _ _ _ _=>trivial,⟨fun _ _ _ _ _=>trivial,trivial⟩⟩⟩⟩⟩⟩⟩⟩⟩⟩⟩⟩⟩⟩⟩⟩⟩⟩) (by kernel_rfl) (by kernel_rfl) (by kernel_rfl) ?_
    rotate_left 16
    simp only [List.take_succ_cons,List.take_zero]
    repeat (first
     | (refine wpD_skipv ?_ ?_ ?_
        focus rfl
        focus rfl
        simp only [Act.put,List.setIfInBounds_toArray,List.set_cons_succ,List.set_cons_zero])
     | (refine' wpD_val (c:=_) ?_ (fun w=>Rr.refl w) ?_ (fun wq hwq hfq=>?_) ?_
        rotate_left
        focus rfl
        focus rfl
        focus (have hbq:=HBB4.out.kp hwq.1 HNB.out;have d3:=hbq.cell 3 _ rfl;have d1:=hbq.cell 1 _ rfl;go_simp;first|done|rfl)
        simp only [Act.put,List.setIfInBounds_toArray,List.set_cons_succ,List.set_cons_zero])
     | (refine' wpD_con (c:=_) ?_ ?_ (fun wq hwq hfq=>?_) ?_
        rotate_left
        focus rfl
        focus rfl
        focus (have hbq:=HBB4.out.kp hwq.1 HNB.out;have d3:=hbq.cell 3 _ rfl;have d1:=hbq.cell 1 _ rfl;go_simp;(try (rw [dUpon_enter]));fail)
        simp only [Act.put,List.setIfInBounds_toArray,List.set_cons_succ,List.set_cons_zero])
     | (refine wpD_made (A:=fun _=>True) (V:=fun v w=>BoxL W4.heap.size seT 1 [.int .i64 s.next, .int .i64 span, .int .i64 (s.now+span)] v w) 50 ?_ ?_ ?_ ?_ (fun wq hwq hfq=>?_) (fun v50 h50=>?_)
        focus rfl
        focus rfl
        focus (exact ⟨undef,trivial⟩)
        focus rfl
        focus (have hbq:=HBB4.out.kp hwq.1 HNB.out;have d3:=hbq.cell 3 _ rfl;have d1:=hbq.cell 1 _ rfl;go_simp;(try (rw [dUpon_enter]));rw [dUpon_value];exact mPost trivial (BoxL.new hwq.1.size) ((Kp.refl _ _).alloc _))
        clear h50
        simp only [Act.put,List.setIfInBounds_toArray,List.set_cons_succ,List.set_cons_zero])
     | (refine wpD_used (A:=fun v=>∃ a l c,v=.slice a l c) (V:=fun v w=>w.ownsRow 0 seT 3 v (s.l.length+1) (s.l.flatMap scell++[.int .i64 s.next, .int .i64 span, .int .i64 (s.now+span)])∧∀ i,v.ownBlock=some i→(Value.slice a s.l.length c).ownBlock=some i∨W4.heap.size≤i) 51 ?_ ?_ ?_ ?_ (fun wq hwq hfq=>?_) (fun v51 h51=>?_)
        focus rfl
        focus rfl
        focus (exact ⟨.slice none 0 0,_,_,_,rfl⟩)
        focus rfl
        focus (have hbq:=HBB4.out.kp hwq.1 HNB.out;have d3:=hbq.cell 3 _ rfl;have d1:=hbq.cell 1 _ rfl;refine dUpon_appR (d:=51) rfl (by kernel_rfl) sesT seT 3 (by decide) se_facts rfl _ _ rfl (.slice a s.l.length c) s.l.length (s.l.flatMap scell) rfl (hwq.2 HO4.out) v50 1 [.int .i64 s.next, .int .i64 span, .int .i64 (s.now+span)] rfl W4.heap.size (hfq 50 rfl) rfl (scell_one [(⟨s.next,span,s.now+span⟩:SeV)]) (by omega) (fun v' w' h1 h2 h3 h4=>⟨by obtain ⟨a,c,e,_⟩:=Sl.open (Sl.of_owns h1);exact ⟨_,_,_,e⟩,⟨h1,fun i hi=>?_⟩,⟨(Kp.refl (fun i=>W4.heap.size≤i∨(Value.slice a s.l.length c).ownBlock=some i) _).grown h2 (fun q hq _=>.inr hq),fun _=>h3⟩, ?_⟩);(rcases h4 with h4|h4;(focus exact .inl (by rw [← h4];exact hi));(rw [h4] at hi;simp only [Option.some.injEq] at hi;right;have:=hwq.1.size;omega));repeat (first|exact PresL.nil|(with_reducible refine PresL.val ?_)|(refine PresL.out rfl ?_)|(refine PresL.keep (fun u hu=>hu) ?_)))
        obtain ⟨a51,l51,c51,rfl⟩:=h51
        simp only [Act.put,List.setIfInBounds_toArray,List.set_cons_succ,List.set_cons_zero])
     | fail)
    refine wpD_nil ?_
    intro w1 hr1 hend
    have h51:w1.ownsRow 0 seT 3 (.slice a51 l51 c51) (s.l.length+1) (s.l.flatMap scell++[.int .i64 s.next, .int .i64 span, .int .i64 (s.now+span)])∧∀ i,(Value.slice a51 l51 c51).ownBlock=some i→(Value.slice a s.l.length c).ownBlock=some i∨W4.heap.size≤i:=hend 51 (by kernel_rfl)
    clear hend
    have hbw:=HBB4.out.kp hr1.1 HNB.out
    have d3:=hbw.cell 3 _ rfl
    have g3:=hbw.free 3
    have HBW:=Lib.hid hbw
    have H51:=Lib.hid h51
    have hsz:w.heap.size≤W4.heap.size:=HX4.out.size
    have hkk:Kp (fun i=>i=b∨ro=some i) w w1:=Kp.next (S:=fun i=>i=b∨ro=some i) HX4.out hr1.1 (fun i hi h=>by
     rcases h with h|h
     ·omega
     ·exact .inr (by rw [← HRO.out];exact h))
    have HKK:=Lib.hid hkk
    clear h51 hbw hr1 hkk
    go_wp2_with (fail)
    go_ret2
    have hst:Kp (fun i=>i=b) w1 (w1.setCell ⟨b,3,none⟩ (.slice a51 l51 c51)):=Kp.set1 (S:=fun i=>i=b) (Kp.refl _ _) b 3 _ rfl
    have hne:∀ i,(Value.slice a51 l51 c51).ownBlock=some i→i≠b:=by
     intro i hi e
     subst e
     exact HNB.out ((H51.out.2 _ hi).elim .inr .inl)
    rw [HE.out]
    refine ⟨rfl,⟨(Value.slice a51 l51 c51).ownBlock, ?_,fun i hi=>?_⟩,HKK.out.set1 b 3 _ (.inl rfl)⟩
    ·refine SesR.mk (HBW.out.set 3 _) ?_ rfl hne
     have h6:w1.ownsRow 0 seT 3 (.slice a51 l51 c51) (s.l++[(⟨s.next,span,s.now+span⟩:SeV)]).length ((s.l++[(⟨s.next,span,s.now+span⟩:SeV)]).flatMap scell):=by
      rw [flatMap_snoc,List.length_append];exact H51.out.1
     exact ownsRow.kp h6 hst hne
    ·rcases H51.out.2 i hi with h|h
     ·exact .inl (by rw [← HRO.out];exact h)
     ·exact .inr (by omega)
end Go.Proofs.YtnlefnhdhigecaaGreatDoor

