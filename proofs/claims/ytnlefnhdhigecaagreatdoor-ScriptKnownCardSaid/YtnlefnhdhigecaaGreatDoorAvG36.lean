/- Texts put together: AvSoW, AvLaw21A, AvLaw21O, AvFrameL, AvTreeCon, AvOpsArg, AvLaw21P, AvSoM. -/
import Derived.Test.YtnlefnhdhigecaaGreatDoorAvG35
import Derived.Test.YtnlefnhdhigecaaGreatDoorAvG27
import Derived.Test.YtnlefnhdhigecaaGreatDoorAvG15
import Derived.Test.YtnlefnhdhigecaaGreatDoorAvG13
import Derived.Handed
import Derived.LaidSub
import Derived.Lib.LaidTab
import Derived.Test.YtnlefnhdhigecaaGreatDoorAvG6
import Derived.Carry
namespace Go.Proofs.YtnlefnhdhigecaaGreatDoor
set_option maxRecDepth 100000
open Go.RowKit Av
variable {w0 w w':World} {g K N:Nat} {B:SoB} {s:SoV}
set_option maxHeartbeats 3200000 in
theorem soClose_gen (h:SoR w0 w g K B s) (hok:SoOk N s) (hN:N≤90000) (hK:K≤80000) (hG:GT w0) (id:Int) (hroom:s.room≤5000) :
  Calls Tryz.prog 47 #[.pointer (some ⟨g,0,none⟩), .int .i64 id] w fun e w'=>e=.returned (.int .i64 (closeO s id).2)∧EndPost w0 w g K B s (closeO s id).1 w'∧SoOk (N+1) (closeO s id).1:=by
 have c1:=h.blk.cell 1 _ rfl
 have HC:=Lib.hid (sesClose_any B.sb B.sr s.ss id w h.ss (by have:=hok.ss.len;omega))
 have HH:=Lib.hid h
 have HOK:=Lib.hid hok
 have HG:=Lib.hid hG
 by_cases he:(closeS s.ss id).2=0
 ·have hE:closeO s id=(endS { s with ss:=(closeS s.ss id).1 } id,0):=by unfold closeO;rw [if_neg (by rw [he];simp)]
  have hok2:SoOk N { s with ss:=(closeS s.ss id).1 }:=⟨hok.ss.close id,hok.zx,hok.ev,hok.last⟩
  rw [he] at HC
  rw [hE]
  have HOK2:=Lib.hid hok2
  generalize (closeS s.ss id).1=ss' at *
  clear h hok hG he hE hok2
  go_enter Tryz.func47,Tryz.ntmps47
  go_wp2_with (fail)
  refine HC.out.mono ?_
  rintro e w1 ⟨rfl,h2,h3⟩
  obtain ⟨B1,h4,hk4,ho4⟩:=HH.out.sess h3 h2
  have HK4:=Lib.hid hk4
  have HO4:=Lib.hid ho4
  have HEN:=Lib.hid (soEnd_gen h4 HOK2.out hN hK HG.out id hroom)
  clear h2 h3 h4 hk4 ho4 c1 HC
  go_wp2_with (fail)
  refine HEN.out.mono ?_
  rintro e w2 ⟨⟨u,rfl⟩,⟨n,h5,h7⟩,h6⟩
  have H5:Hid (EndPost w0 w g K B s (endS { s with ss:=ss' } id) w2):=⟨n,SoPost.trans HK4.out HO4.out h5,h7⟩
  have H6:=Lib.hid h6
  clear h5 h6 h7 HEN
  go_wp2_with (fail)
  go_ret
  exact ⟨rfl,H5.out,H6.out⟩
 ·have hE:closeO s id=(s,(closeS s.ss id).2):=by unfold closeO;rw [if_pos he]
  rw [hE]
  have h1:=closeS_none he
  rw [h1] at HC
  generalize (closeS s.ss id).2=z at *
  clear h hok hG hE h1
  go_enter Tryz.func47,Tryz.ntmps47
  go_wp2_with (fail)
  refine HC.out.mono ?_
  rintro e w1 ⟨rfl,h2,h3⟩
  have HP:=Lib.hid (HH.out.sess h3 h2)
  clear h2 h3 HC
  go_wp2_with (fail)
  go_ret
  have hp:SoPost w0 w g K B s w1:=HP.out
  exact ⟨rfl,⟨0,hp,Nat.le_refl _⟩,HOK.out.up⟩
def TkRelG (w0 w2:World) (g K N:Nat) (B:SoB) (s:SoV) (l:List Int) (s13:Value) (wr:World):Prop:=∃ k:Nat,k≤l.length∧s13=.int .i64 k∧EndPost w0 w2 g K B s ((l.take k).foldl endS s) wr∧SoOk (N+k) ((l.take k).foldl endS s)∧((l.take k).foldl endS s).room=s.room
def TickG (w0 w:World) (g K N:Nat) (B:SoB) (s:SoV) (X:SoV×List Int) (e:Ending) (w':World):Prop:=∃ v,e=.returned v∧w'.ownsRow w.heap.size sxT 1 v X.2.length (sxc X.2)∧EndPost w0 w g K B s X.1 w'∧SoOk (N+1+X.2.length) X.1
set_option maxHeartbeats 6400000 in
theorem soTick_gen (h:SoR w0 w g K B s) (hok:SoOk N s) (hN:N≤80000) (hK:K≤70000) (hG:GT w0) (hroom:s.room≤5000) :
  Calls Tryz.prog 50 #[.pointer (some ⟨g,0,none⟩)] w (TickG w0 w g K N B s (tickO s)):=by
 have c1:=h.blk.cell 1 _ rfl
 have HT:=Lib.hid (sesTick_any N B.sb B.sr s.ss w h.ss hok.ss (by omega))
 have hl:(tickS s.ss).2.length≤64:=by
  unfold tickS
  rw [List.length_map]
  exact Nat.le_trans (List.length_filter_le _ _) hok.ss.len
 have hok2:SoOk (N+1) { s with ss:=(tickS s.ss).1 }:=⟨hok.ss.tick,hok.up.zx,hok.up.ev,hok.last⟩
 have hE:tickO s=((tickS s.ss).2.foldl endS { s with ss:=(tickS s.ss).1 },(tickS s.ss).2):=rfl
 rw [hE]
 have HH:=Lib.hid h
 have HOK2:=Lib.hid hok2
 have HG:=Lib.hid hG
 have HRM:=Lib.hid hroom
 unfold TickPost at HT
 generalize (tickS s.ss).2=l at *
 generalize (tickS s.ss).1=ss' at *
 have HL:=Lib.hid hl
 clear h hok hok2 hG hroom hE hl
 go_enter Tryz.func50,Tryz.ntmps50
 go_wp2_with (fail)
 refine HT.out.mono ?_
 rintro e w1 ⟨v,rfl,h2,h3,h4⟩
 obtain ⟨B1,h5,hk5,ho5⟩:=HH.out.sess h4 ⟨_,h3,fun i hi=>.inl hi⟩
 obtain ⟨a,c,rfl⟩:=owns_slice h2
 have HRW:=Lib.hid h2
 have H5:=Lib.hid h5
 have HK5:=Lib.hid hk5
 have HO5:=Lib.hid ho5
 have hl:=HL.out
 clear h2 h3 h4 h5 hk5 ho5 c1 HT
 go_wp2_with (fail)
 go_loopw [13] (fun s13 wr=>TkRelG w0 w1 g K (N+1) B1 { s with ss:=ss' } l s13 wr) (fun s13 _=>l.length - (intOf s13).toNat)
 case atStart=>exact ⟨0,Nat.zero_le _,rfl,⟨0,SoPost.refl H5.out,Nat.le_refl _⟩,HOK2.out,rfl⟩
 case round=>
  obtain ⟨k,hk,rfl,⟨n,⟨Bk,hSk,hkk,hbk⟩,hln⟩,hokk,hrm⟩:=hrel
  have HSK:=Lib.hid hSk
  have HKK:=Lib.hid hkk
  have HBK:=Lib.hid hbk
  have HOKK:=Lib.hid hokk
  have hlr:n≤5000:=by have q1:=H5.out.tr.good.snd.size;have q2:=H5.out.tr.len;have q3:=HRM.out;simp only at q1 q2 hln;omega
  have HLN:=Lib.hid hln
  have HRMK:=Lib.hid hrm
  clear hSk hkk hbk hokk hln hrm
  have hrw:=owns_kpT HRW.out HKK.out (H5.out.safeA.noT (by decide))
  by_cases hlt:k<l.length
  ·obtain ⟨_,_,hsl,_,_,_,hop⟩:=Sl.open (Sl.of_owns hrw)
   simp only [Value.slice.injEq,true_and] at hsl
   obtain ⟨rfl,rfl⟩:=hsl
   obtain ⟨q,off,rfl,_,hc⟩:=hop (by omega)
   have cs:wr.cell? ⟨q,off+k,none⟩=some (.int .i64 l[k]):=hc k _ (by simp [sxc,hlt])
   have hfold:(l.take (k+1)).foldl endS { s with ss:=ss' }=endS ((l.take k).foldl endS { s with ss:=ss' }) l[k]:=by
    rw [List.take_succ_eq_append_getElem hlt,List.foldl_append];rfl
   have HEN:=Lib.hid (soEnd_gen HSK.out HOKK.out (by omega) (by omega) HG.out l[k] (by rw [HRMK.out];exact HRM.out))
   have HFOLD:=Lib.hid hfold
   clear hrw hop hc hfold
   generalize l[k]=id at *
   go_wp2_with (fail)
   refine HEN.out.mono ?_
   rintro e w3 ⟨⟨u,rfl⟩,⟨n2,h1,h3⟩,h2⟩
   have H1:=Lib.hid (SoPost.trans HKK.out HBK.out h1)
   have H3:=Lib.hid h3
   have H2:=Lib.hid h2
   clear h1 h2 h3 HEN
   go_wp2_with (fail)
   go_light
   refine ⟨⟨k+1, ?_, ?_,⟨n+n2, ?_, ?_⟩, ?_, ?_⟩, ?_⟩
   ·omega
   ·go_num
   ·rw [HFOLD.out,← Nat.add_assoc];exact H1.out
   ·rw [HFOLD.out]
    have q1:=H3.out
    have q2:=HLN.out
    show _≤s.tr.length
    omega
   ·rw [HFOLD.out];exact H2.out
   ·rw [HFOLD.out,(end_tr _ _).2.1];exact HRMK.out
   ·simp [intOf];omega
  ·have hp:=SoPost.trans HK5.out HO5.out (⟨Bk,HSK.out,HKK.out,HBK.out⟩:SoPost w0 w1 g (K+n) B1 ((l.take k).foldl endS { s with ss:=ss' }) wr)
   have hke:k=l.length:=by omega
   have hok3:=HOKK.out
   have hl3:=HLN.out
   rw [List.take_of_length_le (by omega)] at hp hok3 hl3
   rw [hke] at hok3
   have HL3:=Lib.hid hl3
   have HP:=Lib.hid hp
   have HOK3:=Lib.hid hok3
   have HRW2:=Lib.hid hrw
   clear hp hok3 hl3 hke hrw
   go_wp2_with (fail)
   go_ret
   exact ⟨_,rfl,HRW2.out,⟨n,HP.out,HL3.out⟩,HOK3.out⟩
end Go.Proofs.YtnlefnhdhigecaaGreatDoor

namespace Go.Proofs.YtnlefnhdhigecaaGreatDoor
set_option maxRecDepth 100000
open Go.RowKit Av
end Go.Proofs.YtnlefnhdhigecaaGreatDoor

namespace Go.Proofs.YtnlefnhdhigecaaGreatDoor
set_option maxRecDepth 100000
open Go.RowKit Av
end Go.Proofs.YtnlefnhdhigecaaGreatDoor

namespace Go.Proofs.YtnlefnhdhigecaaGreatDoor
set_option maxRecDepth 100000
open Go.ChangeShapes Go.WideShapes Go.ChangeAt Go.RowKit Av
theorem law_lifted_laid {f:FuncId} {fn:Func} {s:ChangeSpec} {laid:List (String×DataW Unit)} {os:Os} (started:os.Started) {H:Type} {enc:TypeId×Value→H}
  (hnoInit:Tryz.prog.inits.idxOf? f=none) (hfn:Tryz.prog.funcs[f]? = some fn) (hvars:s.vars=[]) (hres:fn.resultTypes=#[4]) (hrow:rowedAll Tryz.prog fn.params.toList=true)
  (hplain:(laid.all fun x=>x.2.handleName?.isNone)=true) (hspec:∀ ds:List (DataW H),ds.length=fn.params.toList.length→s.fn H ds={ results:=[.lit (.bool true)],args:=ds })
  (witness:∃ (w:World) (tape:Tape) (i:Input),w.os=os∧(w.forCall tape i).Shaped Tryz.prog∧i.vars=[]∧Input.okWide Tryz.prog (w.forCall tape i) .any w.heap.size f i∧
    ((s.pre enc Tryz.prog fn [] false (w.forCall tape i).memory i.args∧laidMetH Tryz.prog laid (w.forCall tape i).memory)∧sizedMet enc Tryz.prog fn (OpenSpec.ofChange s) false (w.forCall tape i).memory i.args)∧Assume.holds {} Tryz.prog (lone (Frame.enter Tryz.prog f i.args .normal) [] (w.forCall tape i)))
  (contract:∀ (W:World) (base:Nat) (args:Array Value) (ds:List (DataW H)) (p:List MemPlace),
    (∀ (j:Nat) t v,fn.params[j]? = some t→args[j]? = some v→Value.okWide Tryz.prog W .any base t v)→
    DataW.TrodAll enc Tryz.prog W 0 (fun _=>true) true fn.params.toList args.toList ds p→
    W.ShapedOpen Tryz.prog→laidMet Tryz.prog laid W→Calls Tryz.prog f args W fun e W'=>e=.returned (.bool true)∧Ext W W') :
  ReturnsInHanded {} Tryz.checked os f .any (fun w args=>(s.pre enc Tryz.prog fn [] false w args∧laidMetH Tryz.prog laid w)∧sizedMet enc Tryz.prog fn (OpenSpec.ofChange s) false w args) (s.post enc Tryz.prog fn false true false false):=by
 have own:ownKnob Tryz.prog.godebug=none:=by kernel_rfl
 refine returnsInHanded_of_calls own started hnoInit witness ?_
 intro w tape i _ hsh _ hok hpre _
 obtain ⟨_,_,_,fn',hfn',_,_,_,_,hval⟩:=hok
 have e:fn'=fn:=Option.some.inj (hfn'.symm.trans hfn)
 subst e
 obtain ⟨⟨⟨ds,gs,before,hw,_⟩,hlaid⟩,_⟩:=hpre
 rw [MakeChecks.laidMetH_plain _ _ _ hplain] at hlaid
 have hw':=DataW.Whole.of_heap (w':=w.forCall tape i) (by rfl) hw
 have hW:=hw'
 obtain ⟨p,q,hA,hV,rfl,_,_⟩:=hw'
 rw [hvars] at hV
 have hgs:gs=[]∧q=[]:=trodVars_none hV
 obtain ⟨rfl,rfl⟩:=hgs
 have hlen:ds.length=fn'.params.toList.length:=by
  have:∀ {ts:List TypeId} {vs:List Value} {ds:List (DataW H)} {ps:List MemPlace},DataW.TrodAll enc Tryz.prog (w.forCall tape i) 0 (fun _=>true) true ts vs ds ps→ds.length=ts.length:=by
   intro ts
   induction ts with
   | nil=>intro vs ds ps h;obtain ⟨rfl,rfl,rfl⟩:=trodAll_nil h;rfl
   | cons t ts ih=>intro vs ds ps h;obtain ⟨v,vs',d,ds',p,q,rfl,rfl,rfl,h1,h2⟩:=trodAll_cons h;simp [ih h2]
  exact this hA
 refine (contract (w.forCall tape i) w.heap.size i.args ds p hval hA hsh (laidMet.of_heap (by rfl) hlaid)).mono fun e W' ⟨he,hx⟩=>?_
 subst he
 refine ChangeSpec.post_blind ?_
 have hsp:=hspec ds hlen
 refine ⟨ds,[],_,[],p,[],hW, ?_, ?_, ?_,(Kp.below hx).frame _,fun h=>by cases h⟩
 ·rw [List.append_nil,hsp,hres];exact trodAll_mk1 (shut_bool Tryz.underlying4 _)
 ·rw [List.append_nil,hsp];exact trodAll_ext (by kernel_rfl) (Kp.below hx) hrow hA
 ·rw [List.append_nil,hsp,hvars];rfl
theorem tab_of_laid {W : World} {laid : List (String × DataW Unit)} (h : laidMet Tryz.prog laid W) (hl : (laid.filter fun x => x.1 == "internal/strconv.uint64pow10") = [("internal/strconv.uint64pow10", Lib.tabData .u64 Lib.pow10Tab)]) :
  Lib.TabIs Tryz.prog W "internal/strconv.uint64pow10" .u64 Lib.pow10Tab := by
 have h2 := h.filter (fun x => x.1 == "internal/strconv.uint64pow10")
 rw [hl] at h2
 exact Lib.tabIs_of_head (g:=1) (t:=331) (e:=236) (n:=20) (by kernel_rfl) (by kernel_rfl) Tryz.underlying331 Tryz.underlying236 (by kernel_rfl) (by kernel_rfl) h2
end Go.Proofs.YtnlefnhdhigecaaGreatDoor

namespace Go.Proofs.YtnlefnhdhigecaaGreatDoor
set_option maxRecDepth 100000
open Go.ChangeShapes Go.WideShapes Go.ChangeAt Go.RowKit Av
theorem gt_of {W : World} {laid : List (String × DataW Unit)} (hsh : W.ShapedOpen Tryz.prog) (h : laidMet Tryz.prog laid W) (hl : (laid.filter fun x => x.1 == "internal/strconv.uint64pow10") = [("internal/strconv.uint64pow10", Lib.tabData .u64 Lib.pow10Tab)]) : GT W :=
 ⟨gl_of_shape hsh,tab_of_laid h hl⟩
end Go.Proofs.YtnlefnhdhigecaaGreatDoor

namespace Go.Proofs.YtnlefnhdhigecaaGreatDoor
set_option maxRecDepth 100000
open Go.ChangeShapes Go.WideShapes Go.ChangeAt Go.RowKit Av
end Go.Proofs.YtnlefnhdhigecaaGreatDoor

namespace Go.Proofs.YtnlefnhdhigecaaGreatDoor
set_option maxRecDepth 100000
open Go.ChangeShapes Go.WideShapes Go.ChangeAt Go.RowKit Av
structure ActG where
 op:Int
 sess:Int
 num:Int
 ops:List OpV
 ov:Value
 p:ByteArray
 kind:Int
structure ActGOk (W:World) (a:ActG):Prop where
 ops:OpsAt W a.ov a.ops
 sz:OpsSz a.ops
 o64:∀ o∈a.ops,Op64 o
 path:a.p.size≤maxLen
 i64:I64 a.op∧I64 a.sess∧I64 a.num∧I64 a.kind
section
variable {H:Type} {enc:TypeId×Value→H} {W:World}
end
end Go.Proofs.YtnlefnhdhigecaaGreatDoor

namespace Go.Proofs.YtnlefnhdhigecaaGreatDoor
set_option maxRecDepth 100000
open Go.RowKit Av
variable {w0 w w':World} {g K N:Nat} {B:SoB} {s:SoV}
theorem ops_block {v:Value} {ops:List OpV} (h:OpsAt w v ops) (hn:0<ops.length) {i:Nat} (hi:v.ownBlock=some i):i<w.heap.size:=by
 obtain ⟨a,c,rfl,_,_,hop⟩:=OpsAt.open h
 obtain ⟨b,off,rfl,hb,_⟩:=hop hn
 have e:b=i:=by simpa [Value.ownBlock] using hi
 omega
end Go.Proofs.YtnlefnhdhigecaaGreatDoor

