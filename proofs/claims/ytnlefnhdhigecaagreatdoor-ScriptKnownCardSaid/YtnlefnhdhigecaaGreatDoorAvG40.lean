/- Texts put together: AvScrR, AvScrS, AvScrT, AvScrU, AvLaw28Z. -/
import Derived.Test.YtnlefnhdhigecaaGreatDoorAvG39
import Derived.Test.YtnlefnhdhigecaaGreatDoorAvG13
import Derived.Test.YtnlefnhdhigecaaGreatDoorAvG36
namespace Go.Proofs.YtnlefnhdhigecaaGreatDoor
set_option maxRecDepth 100000
open Go.RowKit Av
variable {w0 w w':World} {g C:Nat} {s:SoV}
def stL (s:SoV) (l:List SAct):SoV:=l.foldl (fun s a=>(doneT s a).2) s
theorem play_snoc (a:SAct):∀ (l:List SAct) (s:SoV),playT s (l++[a])=playT s l++((doneT (stL s l) a).1++[10])
 | [],s=>by show (doneT s a).1++10::[]=[]++((doneT s a).1++[10]);rfl
 | b::l,s=>by
   show (doneT s b).1++10::playT (doneT s b).2 (l++[a])=((doneT s b).1++10::playT (doneT s b).2 l)++_
   rw [play_snoc a l]
   simp only [List.append_assoc,List.cons_append]
   rfl
theorem st_snoc (s:SoV) (l:List SAct) (a:SAct):stL s (l++[a])=(doneT (stL s l) a).2:=by
 unfold stL
 rw [List.foldl_append]
 rfl
theorem doneT_room (s:SoV) (a:SAct):(doneT s a).2.room=s.room:=by
 match a with
 | .opn n=>rfl
 | .cls n=>
   show (closeO s n).1.room=s.room
   unfold closeO
   split
   ·rfl
   ·exact (end_tr _ n).2.1
 | .tick=>exact (ends_ss (tickS s.ss).2 { s with ss:=(tickS s.ss).1 }).2
 | .ask i n ops=>exact ask_room s i n ops
 | .watch n p k=>
   show (watchO s ⟨n,bA p,k⟩).1.room=s.room
   unfold watchO
   split<;>rfl
 | .evs n=>rfl
 | .paths=>rfl
theorem SoX.oks (h:SoX w0 w g C s):∃ N,SoOk N s∧N≤2*C:=by
 obtain ⟨B,K,N,h1,h2,h3,h4⟩:=h
 exact ⟨N,h2,by omega⟩
theorem own_asd {w w':World} (k:Asd w w') {base K n:Nat} {T:TypeId} {v:Value} {xs:List Value} (h:w.ownsRow base T K v n xs) (hT:T∉soTs):w'.ownsRow base T K v n xs:=by
 obtain ⟨h0,⟨h1,h2⟩|⟨q,c,cur,h1,h2,h3,h4⟩⟩:=h
 ·exact ⟨h0, .inl ⟨h1,h2⟩⟩
 ·exact ⟨h0, .inr ⟨q,c,cur,h1,h2,k.2 q cur T _ h3 hT,h4⟩⟩
theorem bd_asd {w w':World} (k:Asd w w') {b:Nat} {bs:List Value} (h:Lib.IsBuilder bdT byT b b bs w):Lib.IsBuilder bdT byT b b bs w':=by
 rcases h with ⟨h1,v,h2,h3,h4⟩|⟨h1,v,h2,h3,h4⟩
 ·exact .inl ⟨h1,v,k.2 _ _ _ _ h2 (by decide),own_asd k h3 (by decide),h4⟩
 ·exact .inr ⟨h1,v,k.2 _ _ _ _ h2 (by decide),own_asd k h3 (by decide),h4⟩
theorem safe_bd {w0 w:World} {b:Nat} {S:Nat→Prop} (h:BdS w b S) (hb:w0.heap.size≤b):Safe w0 w S [bdT,byT] []:=
 ⟨fun i hi _=>by
  obtain ⟨_,cur,T,f,h1,h2⟩:=h i hi
  exact .inl ⟨cur,T,f,h1,by rcases h2 with rfl|rfl<;>simp⟩,fun i hi=>Nat.le_trans hb (h i hi).1⟩
theorem clos_enters {w:World} {v:Value} {a:SAct} (h:ClosAt w v (some a)):∃ f cs,v=.func (.func f) #[] cs∧∀ args W,(callFunc f args).run Tryz.prog W=.ok (.enter f args) W:=by
 match a,h with
 | .opn _,⟨_,h1,_⟩=>exact ⟨_,_,h1,enters_of Tryz.func180 (by kernel_rfl) rfl⟩
 | .cls _,⟨_,h1,_⟩=>exact ⟨_,_,h1,enters_of Tryz.func183 (by kernel_rfl) rfl⟩
 | .tick,h1=>exact ⟨_,_,h1,enters_of Tryz.func184 (by kernel_rfl) rfl⟩
 | .ask _ _ _,⟨_,_,h1,_⟩=>exact ⟨_,_,h1,enters_of Tryz.func187 (by kernel_rfl) rfl⟩
 | .watch _ _ _,⟨_,_,_,h1,_⟩=>exact ⟨_,_,h1,enters_of Tryz.func189 (by kernel_rfl) rfl⟩
 | .evs _,⟨_,h1,_⟩=>exact ⟨_,_,h1,enters_of Tryz.func190 (by kernel_rfl) rfl⟩
 | .paths,h1=>exact ⟨_,_,h1,enters_of Tryz.func192 (by kernel_rfl) rfl⟩
def RunRel (w0:World) (g b:Nat) (l:List SAct) (s25:Value) (wr:World):Prop:=∃ k,k≤l.length∧s25=.int .i64 k∧SoX w0 wr g k (stL (soZ 100) (l.take k))∧PB (16*k) (stL (soZ 100) (l.take k))∧(stL (soZ 100) (l.take k)).room=100∧
 Lib.IsBuilder bdT byT b b (Lib.byteCells (playT (soZ 100) (l.take k))) wr∧(playT (soZ 100) (l.take k)).length≤k*200000000000
def RunPost (w:World) (t:Bs) (e:Ending) (w':World):Prop:=e=.returned (.tuple #[.string (bA (runT t).1), .int .i64 (runT t).2])∧Ext w w'
theorem below_ext {w0 w w':World} {b:Nat} (h:Ext w0 w) (k:Below b w w') (hb:w0.heap.size≤b):Ext w0 w':=
 h.next (T:=fun i=>b≤i) ⟨k.os,k.tape,k.output,k.size,fun i _ hn=>k.block i (Nat.lt_of_not_le hn)⟩ (fun i hi hs=>by have hs:b≤i:=hs;omega)
set_option maxHeartbeats 6400000 in
theorem run_any (t:Bs) (w:World) (hG:GT w) (ht:t.length<4294967281):Calls Tryz.prog 56 #[.string (bA t)] w (RunPost w t):=by
 have HP:=Lib.hid (parse_any t w hG.gl ht)
 have HG:=Lib.hid hG
 clear hG ht
 go_enter Tryz.func56,Tryz.ntmps56
 go_wp2_with (fail)
 refine HP.out.mono ?_
 rintro e w1 ⟨hx1,h⟩
 rcases h with ⟨hb,rfl⟩|⟨hb,ha,rfl⟩|⟨hb,l,v,vs,ha,rfl,hsl,hat⟩
 ·have HR:Hid (runT t=([],2)):=by show runT t=_;unfold runT;exact if_pos hb
  have HX1:=Lib.hid hx1
  clear hx1 hb
  go_wp2_with (fail)
  go_ret2
  refine ⟨?_,HX1.out⟩
  rw [HR.out]
  rfl
 ·have HR:Hid (runT t=([],13)):=by
   show runT t=_
   unfold runT
   rw [if_neg (show ¬ (16384<t.length∨400<(linesT t).length) from hb),ha]
  have HX1:=Lib.hid hx1
  clear hx1 hb ha
  go_wp2_with (fail)
  go_ret2
  refine ⟨?_,HX1.out⟩
  rw [HR.out]
  rfl
 ·have HR:Hid (runT t=(playT (soZ 100) l,0)):=by
   show runT t=_
   unfold runT
   rw [if_neg (show ¬ (16384<t.length∨400<(linesT t).length) from hb),ha]
  have hnl:l.length≤400:=by
   have h1:=acts_len_aux _ _ ha
   unfold bigT at hb
   omega
  have hok:∀ a∈l,LineOk a:=acts_ok (linesT t) (cut_words rfl (by unfold bigT at hb;omega)) ha
  have HOK:=Lib.hid hok
  have HX1:=Lib.hid hx1
  have HAT:=Lib.hid hat
  obtain ⟨va,vc,rfl,hcc,hm,hop⟩:=Sl.open hsl
  have HOP:=Lib.hid hop.2
  have HGX:=Lib.hid (HG.out.ext hx1)
  have HNEW:=Lib.hid (soX_new 100 w1 (by decide) (by decide))
  clear hx1 hat hb ha hsl hok hop hcc hm HP HG
  go_wp2_with (fail)
  refine HNEW.out.mono ?_
  rintro e w2 ⟨g,rfl,h2,hx2⟩
  have H2:=Lib.hid h2
  have HX2:=Lib.hid hx2
  clear h2 hx2 HNEW
  go_upto_region 6 with (fail)
  obtain ⟨w3,hw3⟩:∃ w3,w2.alloc (.cells #[.pointer none, .slice none 0 0] bdT)=w3:=⟨_,rfl⟩
  have HX3:Hid (Ext w2 w3):=by rw [← hw3];exact (Kp.refl (fun _=>False) w2).alloc _
  have HB3:Hid (Lib.IsBuilder bdT byT w2.heap.size w2.heap.size [] w3):=by rw [← hw3];exact Lib.fresh_isBuilder bdT byT w2
  rw [hw3]
  clear hw3
  obtain ⟨b,hb⟩:∃ b,w2.heap.size=b:=⟨_,rfl⟩
  rw [hb] at HB3 ⊢
  have HBL:Hid (w1.heap.size≤b):=by have:=HX2.out.size;show _≤_;omega
  clear hb
  go_wp2_with (fail)
  go_loopw [25] (fun s25 wr=>RunRel w1 g b l s25 wr) (fun s25 _=>l.length - (intOf s25).toNat)
  case atStart=>exact ⟨0,Nat.zero_le _,rfl,H2.out.ext HX3.out,PB.zero 100,rfl,HB3.out,Nat.le_refl _⟩
  case round=>
   obtain ⟨k,hk,rfl,hso,hpb,hrm,hbd,hln⟩:=hrel
   by_cases hlt:k<l.length
   ·have hkI:(k:Int)<(l.length:Int):=by omega
    obtain ⟨x,hx,hcl⟩:=HAT.out.2 k hlt
    obtain ⟨q,off,rfl,_,hcel⟩:=HOP.out (by omega)
    have hc0:=hcel k x hx
    have hact:=HOK.out _ (List.getElem_mem hlt)
    obtain ⟨N,hsok,hN⟩:=hso.oks
    have hte:=tell_ok hsok (by omega) hpb (by omega) l[k] hact
    have hll:=line_len hsok (by omega) hpb (by omega) (by have:=hso.room;omega) l[k] hact
    have hC:=line_any hso (by omega) HGX.out (by omega) l[k] x hcl hte.1
    obtain ⟨f,cs,rfl,hcall⟩:=hC
    obtain ⟨f',cs',hfe,eg⟩:=clos_enters hcl
    simp only [Value.func.injEq,Fn.func.injEq,true_and] at hfe
    obtain ⟨rfl,rfl⟩:=hfe
    have c0:=hso.ex.cell hc0 (fun f=>f)
    have HCALL:=Lib.hid hcall
    have HBD:=Lib.hid hbd
    have HTE:=Lib.hid hte.2
    have HRM:=Lib.hid (doneT_room (stL (soZ 100) (l.take k)) l[k])
    have HTK:Hid (stL (soZ 100) (l.take (k+1))=(doneT (stL (soZ 100) (l.take k)) l[k]).2∧playT (soZ 100) (l.take (k+1))=playT (soZ 100) (l.take k)++((doneT (stL (soZ 100) (l.take k)) l[k]).1++[10])):=by
     rw [List.take_succ_eq_append_getElem hlt,play_snoc,st_snoc]
     exact ⟨rfl,rfl⟩
    have HHL:=Lib.hid hll
    have HLN:=Lib.hid hln
    have HRM0:=Lib.hid hrm
    clear hso hpb hrm hbd hln hx hcl hc0 hcel hact hsok hte hll hcall HOP
    obtain ⟨S,hS⟩:∃ S,stL (soZ 100) (l.take k)=S:=⟨_,rfl⟩
    obtain ⟨T,hT⟩:∃ T,playT (soZ 100) (l.take k)=T:=⟨_,rfl⟩
    simp only [hS,hT] at *
    obtain ⟨S1,hS1⟩:∃ S1,(doneT S l[k]).2=S1:=⟨_,rfl⟩
    obtain ⟨tx,htx⟩:∃ tx,(doneT S l[k]).1=tx:=⟨_,rfl⟩
    unfold LnPost at HCALL
    simp only [hS1,htx] at *
    clear hS hT hS1 htx hN
    have hk400:k≤400:=by omega
    go_wp2_with (fail)
    refine HCALL.out.mono ?_
    rintro e wc ⟨rfl,hs1,has⟩
    have HB1:=Lib.hid (bd_asd has HBD.out)
    have hsz:(bA tx).size≤100000000000:=by rw [bA_size];exact HHL.out
    have HW:=Lib.hid (writeString_any b (Lib.byteCells T) (bA tx++⟨#[10]⟩) wc HB1.out (by
     have h1:=HLN.out
     have h2:(bA tx++⟨#[10]⟩:ByteArray).size=(bA tx).size+1:=ByteArray.size_append
     rw [Lib.byteCells_length,h2]
     have h3:k*200000000000≤400*200000000000:=Nat.mul_le_mul_right _ hk400
     omega))
    have hsz1:(⟨#[10]⟩:ByteArray).size=1:=rfl
    have HS1:=Lib.hid hs1
    clear hs1 has HCALL HBD
    go_wp2_with (fail)
    refine HW.out.mono ?_
    rintro e wd ⟨⟨u,rfl⟩,hbd,S2,hk2,hbs⟩
    have HSO:Hid (SoX w1 wd g (k+1) S1):=HS1.out.aside hk2 (safe_bd hbs HBL.out) (by decide)
    have HB2:Hid (Lib.IsBuilder bdT byT b b (Lib.byteCells (T++(tx++[10]))) wd):=by
     have e1:Lib.byteCells T++Lib.strCells (bA tx++⟨#[10]⟩)=Lib.byteCells (T++(tx++[10])):=by
      rw [Lib.strCells_eq,Lib.byteCells_append]
      congr 2
     rw [← e1]
     exact .inr hbd
    clear hbd hk2 hbs HW HS1 HB1
    go_wp2_with (fail)
    go_light
    have e1:16*(k+1)=16*k+16:=by omega
    refine ⟨⟨k+1, ?_, ?_, ?_, ?_, ?_, ?_, ?_⟩, ?_⟩
    ·omega
    ·go_num
    ·rw [HTK.out.1];exact HSO.out
    ·rw [HTK.out.1,e1];exact HTE.out
    ·rw [HTK.out.1,HRM.out];exact HRM0.out
    ·rw [HTK.out.2];exact HB2.out
    ·rw [HTK.out.2,List.length_append,List.length_append]
     have h1:=HLN.out
     have h2:=HHL.out
     have h3:[(10:UInt8)].length=1:=rfl
     have h4:(k+1)*200000000000=k*200000000000+200000000000:=Nat.succ_mul _ _
     omega
    ·simp [intOf];omega
   ·obtain rfl:k=l.length:=by omega
    have hta:l.take l.length=l:=List.take_length
    rw [hta] at hso hbd
    have HSTR:=Lib.hid (Tryz.Builder_String_any b b (playT (soZ 100) l) wr hbd (by rcases hbd with h|h<;>exact Nat.le_of_lt h.lt))
    have HEX:=Lib.hid hso.ex
    have hkI:¬ (l.length:Int)<(l.length:Int):=by omega
    clear hso hpb hrm hbd hln
    go_wp2_with (fail)
    refine HSTR.out.mono ?_
    rintro e we ⟨rfl,hbel⟩
    have HEE:=Lib.hid (HX1.out.trans (below_ext HEX.out hbel HBL.out))
    clear hbel HSTR
    go_wp2_with (fail)
    go_ret2
    refine ⟨?_,HEE.out⟩
    rw [HR.out]
    rfl
end Go.Proofs.YtnlefnhdhigecaaGreatDoor

namespace Go.Proofs.YtnlefnhdhigecaaGreatDoor
set_option maxRecDepth 100000
open Go.RowKit Av
def doneTi (s:SoV) (a:SAct):Bs×SoV:=match a with
 | .opn n=>(if (openO s n).2.2=0 then Go.Lib.itoa (openO s n).2.1 else errT (openO s n).2.2,(openO s n).1)
 | .cls n=>(errT (closeOi s n).2,(closeOi s n).1)
 | .tick=>(Go.Lib.join ((tickOi s).2.map Go.Lib.itoa) [32],(tickOi s).1)
 | .ask i n ops=>(answerT (askSi s i n ops).2,(askSi s i n ops).1)
 | .watch n p k=>(errT (watchO s ⟨n,bA p,k⟩).2,(watchO s ⟨n,bA p,k⟩).1)
 | .evs n=>(Go.Lib.join ((eventsO s n).2.map evT_) [59],(eventsO s n).1)
 | .paths=>(Go.Lib.join (s.tr.map fun e=>e.1.data.toList) [32],s)
theorem doneT_i (s:SoV) (a:SAct):doneT s a=doneTi s a:=by
 match a with
 | .opn _=>rfl
 | .cls n=>show (errT (closeO s n).2,(closeO s n).1)=_;(rw [closeO_i])<;>rfl
 | .tick=>show (Go.Lib.join ((tickO s).2.map Go.Lib.itoa) [32],(tickO s).1)=_;(rw [tickO_i])<;>rfl
 | .ask i n ops=>show (answerT (askS s i n ops).2,(askS s i n ops).1)=_;(rw [askS_i])<;>rfl
 | .watch _ _ _=>rfl
 | .evs _=>rfl
 | .paths=>rfl
def playTi:SoV→List SAct→Bs
 | _,[]=>[]
 | s,a::l=>(doneTi s a).1++10::playTi (doneTi s a).2 l
theorem playT_i:∀ (l:List SAct) (s:SoV),playT s l=playTi s l
 | [],_=>rfl
 | a::l,s=>by
   show (doneT s a).1++10::playT (doneT s a).2 l=_
   (rw [doneT_i,playT_i l])<;>rfl
def runTi (t:Bs):Bs×Int:=if 16384<t.length∨400<(linesT t).length then ([],2) else match actsT (linesT t) with
 | none=>([],13)
 | some l=>(playTi (soZ 100) l,0)
theorem runT_i (t:Bs):runT t=runTi t:=by
 unfold runT runTi
 split
 ·rfl
 ·split<;>simp_all [playT_i]
theorem runT_ok {t:Bs} (h1:decide (16384<t.length∨400<(linesT t).length)=false) (h2:(actsT (linesT t)).isSome=true):(runT t).2=0:=by
 unfold runT
 rw [if_neg (of_decide_eq_false h1)]
 cases h:actsT (linesT t) with
 | none=>rw [h] at h2;cases h2
 | some l=>rfl
theorem runT_bad {t:Bs} (h1:decide (16384<t.length∨400<(linesT t).length)=false) (h2:(actsT (linesT t)).isSome=false):runT t=([],13):=by
 unfold runT
 rw [if_neg (of_decide_eq_false h1)]
 cases h:actsT (linesT t) with
 | none=>rfl
 | some l=>rw [h] at h2;cases h2
def tAw:Bs:=[111,112,101,110,32,53,10,97,115,107,32,49,32,49,32,99,114,101,97,116,101,32,47,97,32,120,32,48]
def rAw:Bs:=[49,10,49,32,48,32,45,49,59,48,32,47,97,32,45,32,45,32,48,32,48,32,48,10]
theorem run_aw:runT tAw=(rAw,0):=by rw [runT_i];decide +kernel
def tB0:Bs:=[119,104,97,116]
theorem run_b0:runT tB0=([],13):=runT_bad (by decide +kernel) (by decide +kernel)
def tB1:Bs:=[97,115,107,32,49,32,49]
theorem run_b1:runT tB1=([],13):=runT_bad (by decide +kernel) (by decide +kernel)
def tB2:Bs:=[97,115,107,32,49,32,49,32,103,101,116,32,47,97,32,43]
theorem run_b2:runT tB2=([],13):=runT_bad (by decide +kernel) (by decide +kernel)
def tB3:Bs:=[116,105,99,107,32,49]
theorem run_b3:runT tB3=([],13):=runT_bad (by decide +kernel) (by decide +kernel)
def tB4:Bs:=[111,112,101,110,32,49,50,51,52,53,54,55,56,57,48]
theorem run_b4:runT tB4=([],13):=runT_bad (by decide +kernel) (by decide +kernel)
def tKn:Bs:=[10,32,111,112,101,110,32,50,32,10,111,112,101,110,32,48,10,97,115,107,32,49,32,49,32,99,114,101,97,116,101,32,47,97,32,45,32,49,32,43,32,99,114,101,97,116,101,32,47,98,32,120,32,48,10,97,115,107,32,49,32,50,32,103,101,116,32,47,97,10,119,97,116,99,104,32,49,32,47,97,32,49,10,112,97,116,104,115,10,116,105,99,107,10,116,105,99,107,10,112,97,116,104,115,10,101,118,101,110,116,115,32,49]
def rKn:Bs:=[49,10,69,49,10,49,32,48,32,45,49,59,48,32,47,97,32,45,32,45,32,48,32,48,32,49,59,48,32,47,98,32,45,32,45,32,48,32,48,32,48,10,50,32,48,32,45,49,59,48,32,47,97,32,45,32,45,32,48,32,48,32,49,10,111,107,10,47,97,32,47,98,10,10,49,10,47,98,10,10]
theorem run_kn:runT tKn=(rKn,0):=by rw [runT_i];decide +kernel
def tF0:Bs:=[111,112,101,110,32,53]
theorem run_f0:(runT tF0).2=0:=runT_ok (by decide +kernel) (by decide +kernel)
def tF1:Bs:=[99,108,111,115,101,32,49]
theorem run_f1:(runT tF1).2=0:=runT_ok (by decide +kernel) (by decide +kernel)
def tF2:Bs:=[116,105,99,107]
theorem run_f2:(runT tF2).2=0:=runT_ok (by decide +kernel) (by decide +kernel)
def tF3:Bs:=[97,115,107,32,49,32,49,32,103,101,116,32,47,97]
theorem run_f3:(runT tF3).2=0:=runT_ok (by decide +kernel) (by decide +kernel)
def tF4:Bs:=[97,115,107,32,49,32,50,32,99,114,101,97,116,101,32,47,97,32,120,32,48,32,43,32,115,101,116,32,47,97,32,121,32,45,49]
theorem run_f4:(runT tF4).2=0:=runT_ok (by decide +kernel) (by decide +kernel)
def tF5:Bs:=[119,97,116,99,104,32,49,32,47,97,32,49]
theorem run_f5:(runT tF5).2=0:=runT_ok (by decide +kernel) (by decide +kernel)
def tF6:Bs:=[101,118,101,110,116,115,32,49]
theorem run_f6:(runT tF6).2=0:=runT_ok (by decide +kernel) (by decide +kernel)
def tF7:Bs:=[112,97,116,104,115]
theorem run_f7:(runT tF7).2=0:=runT_ok (by decide +kernel) (by decide +kernel)
def tF:Nat→Bs
 | 0=>tF0
 | 1=>tF1
 | 2=>tF2
 | 3=>tF3
 | 4=>tF4
 | 5=>tF5
 | 6=>tF6
 | _=>tF7
theorem run_f (k:Nat):(runT (tF k)).2=0:=by
 unfold tF
 split
 ·exact run_f0
 ·exact run_f1
 ·exact run_f2
 ·exact run_f3
 ·exact run_f4
 ·exact run_f5
 ·exact run_f6
 ·exact run_f7
theorem tF_len (k:Nat):(tF k).length≤1000:=by
 unfold tF
 split<;>decide
def bendT (how:Int) (s:Bs):Bs:=if how=0 then s++[32,49] else if how=1 then 120::s else if how=2 then s++[32,43] else s++[10,112,97,116,104,115,32,112,97,116,104,115]
def op3:Bs:=[111,112,101,110,32,51,10]
theorem run_g0_0:runT (op3++bendT 0 tF0)=([],13):=runT_bad (by decide +kernel) (by decide +kernel)
theorem run_g0_1:runT (op3++bendT 1 tF0)=([],13):=runT_bad (by decide +kernel) (by decide +kernel)
theorem run_g0_2:runT (op3++bendT 2 tF0)=([],13):=runT_bad (by decide +kernel) (by decide +kernel)
theorem run_g0_3:runT (op3++bendT 3 tF0)=([],13):=runT_bad (by decide +kernel) (by decide +kernel)
theorem run_g1_0:runT (op3++bendT 0 tF1)=([],13):=runT_bad (by decide +kernel) (by decide +kernel)
theorem run_g1_1:runT (op3++bendT 1 tF1)=([],13):=runT_bad (by decide +kernel) (by decide +kernel)
theorem run_g1_2:runT (op3++bendT 2 tF1)=([],13):=runT_bad (by decide +kernel) (by decide +kernel)
theorem run_g1_3:runT (op3++bendT 3 tF1)=([],13):=runT_bad (by decide +kernel) (by decide +kernel)
theorem run_g2_0:runT (op3++bendT 0 tF2)=([],13):=runT_bad (by decide +kernel) (by decide +kernel)
theorem run_g2_1:runT (op3++bendT 1 tF2)=([],13):=runT_bad (by decide +kernel) (by decide +kernel)
theorem run_g2_2:runT (op3++bendT 2 tF2)=([],13):=runT_bad (by decide +kernel) (by decide +kernel)
theorem run_g2_3:runT (op3++bendT 3 tF2)=([],13):=runT_bad (by decide +kernel) (by decide +kernel)
theorem run_g3_0:runT (op3++bendT 0 tF3)=([],13):=runT_bad (by decide +kernel) (by decide +kernel)
theorem run_g3_1:runT (op3++bendT 1 tF3)=([],13):=runT_bad (by decide +kernel) (by decide +kernel)
theorem run_g3_2:runT (op3++bendT 2 tF3)=([],13):=runT_bad (by decide +kernel) (by decide +kernel)
theorem run_g3_3:runT (op3++bendT 3 tF3)=([],13):=runT_bad (by decide +kernel) (by decide +kernel)
theorem run_g4_0:runT (op3++bendT 0 tF4)=([],13):=runT_bad (by decide +kernel) (by decide +kernel)
theorem run_g4_1:runT (op3++bendT 1 tF4)=([],13):=runT_bad (by decide +kernel) (by decide +kernel)
theorem run_g4_2:runT (op3++bendT 2 tF4)=([],13):=runT_bad (by decide +kernel) (by decide +kernel)
theorem run_g4_3:runT (op3++bendT 3 tF4)=([],13):=runT_bad (by decide +kernel) (by decide +kernel)
theorem run_g5_0:runT (op3++bendT 0 tF5)=([],13):=runT_bad (by decide +kernel) (by decide +kernel)
theorem run_g5_1:runT (op3++bendT 1 tF5)=([],13):=runT_bad (by decide +kernel) (by decide +kernel)
theorem run_g5_2:runT (op3++bendT 2 tF5)=([],13):=runT_bad (by decide +kernel) (by decide +kernel)
theorem run_g5_3:runT (op3++bendT 3 tF5)=([],13):=runT_bad (by decide +kernel) (by decide +kernel)
theorem run_g6_0:runT (op3++bendT 0 tF6)=([],13):=runT_bad (by decide +kernel) (by decide +kernel)
theorem run_g6_1:runT (op3++bendT 1 tF6)=([],13):=runT_bad (by decide +kernel) (by decide +kernel)
theorem run_g6_2:runT (op3++bendT 2 tF6)=([],13):=runT_bad (by decide +kernel) (by decide +kernel)
theorem run_g6_3:runT (op3++bendT 3 tF6)=([],13):=runT_bad (by decide +kernel) (by decide +kernel)
theorem run_g7_0:runT (op3++bendT 0 tF7)=([],13):=runT_bad (by decide +kernel) (by decide +kernel)
theorem run_g7_1:runT (op3++bendT 1 tF7)=([],13):=runT_bad (by decide +kernel) (by decide +kernel)
theorem run_g7_2:runT (op3++bendT 2 tF7)=([],13):=runT_bad (by decide +kernel) (by decide +kernel)
theorem run_g7_3:runT (op3++bendT 3 tF7)=([],13):=runT_bad (by decide +kernel) (by decide +kernel)
theorem run_gm (k:Nat) (m:Int) (hm:m=0∨m=1∨m=2∨m=3):runT (op3++bendT m (tF k))=([],13):=by
 match k with
 | 0=>
   rcases hm with rfl|rfl|rfl|rfl
   ·exact run_g0_0
   ·exact run_g0_1
   ·exact run_g0_2
   ·exact run_g0_3
 | 1=>
   rcases hm with rfl|rfl|rfl|rfl
   ·exact run_g1_0
   ·exact run_g1_1
   ·exact run_g1_2
   ·exact run_g1_3
 | 2=>
   rcases hm with rfl|rfl|rfl|rfl
   ·exact run_g2_0
   ·exact run_g2_1
   ·exact run_g2_2
   ·exact run_g2_3
 | 3=>
   rcases hm with rfl|rfl|rfl|rfl
   ·exact run_g3_0
   ·exact run_g3_1
   ·exact run_g3_2
   ·exact run_g3_3
 | 4=>
   rcases hm with rfl|rfl|rfl|rfl
   ·exact run_g4_0
   ·exact run_g4_1
   ·exact run_g4_2
   ·exact run_g4_3
 | 5=>
   rcases hm with rfl|rfl|rfl|rfl
   ·exact run_g5_0
   ·exact run_g5_1
   ·exact run_g5_2
   ·exact run_g5_3
 | 6=>
   rcases hm with rfl|rfl|rfl|rfl
   ·exact run_g6_0
   ·exact run_g6_1
   ·exact run_g6_2
   ·exact run_g6_3
 | n+7=>
   rcases hm with rfl|rfl|rfl|rfl
   ·exact run_g7_0
   ·exact run_g7_1
   ·exact run_g7_2
   ·exact run_g7_3
theorem run_g (k:Nat) (how:Int):runT (op3++bendT how (tF k))=([],13):=by
 by_cases h0:how=0
 ·exact run_gm k how (.inl h0)
 ·by_cases h1:how=1
  ·exact run_gm k how (.inr (.inl h1))
  ·by_cases h2:how=2
   ·exact run_gm k how (.inr (.inr (.inl h2)))
   ·have e:bendT how (tF k)=bendT 3 (tF k):=by
     unfold bendT
     rw [if_neg h0,if_neg h1,if_neg h2]
     rfl
    rw [e]
    exact run_gm k 3 (by decide)
theorem bend_len (k:Nat) (m:Int):(op3++bendT m (tF k)).length≤1100:=by
 have h:=tF_len k
 unfold bendT op3
 split
 ·simp only [List.length_append,List.length_cons,List.length_nil];omega
 ·split
  ·simp only [List.length_append,List.length_cons,List.length_nil];omega
  ·split<;>(simp only [List.length_append,List.length_cons,List.length_nil];omega)
end Go.Proofs.YtnlefnhdhigecaaGreatDoor

namespace Go.Proofs.YtnlefnhdhigecaaGreatDoor
set_option maxRecDepth 100000
open Go.RowKit Av
theorem run_is {t r:Bs} {z:Int} (h:runT t=(r,z)) (ht:t.length<4294967281) {w:World} (hG:GT w):Calls Tryz.prog 56 #[.string (bA t)] w fun e w'=>e=.returned (.tuple #[.string (bA r), .int .i64 z])∧Ext w w':=by
 have:=run_any t w hG ht
 unfold RunPost at this
 rw [h] at this
 exact this
set_option maxHeartbeats 1600000 in
theorem awake28_any (w:World) (hG:GT w):Calls Tryz.prog 55 #[] w fun e w'=>e=.returned (.bool true)∧Ext w w':=by
 have HR:=Lib.hid (run_is run_aw (by decide) hG)
 have q:((bA rAw).toList == (bA rAw).toList)=true:=beq_self_eq_true _
 clear hG
 go_enter Tryz.func55,Tryz.ntmps55
 go_wp2_with (fail)
 refine HR.out.mono ?_
 rintro e w1 ⟨rfl,hx⟩
 go_wp2_with (fail)
 go_ret
 exact ⟨ret_bool (by rw [bA_beq];exact decide_eq_true rfl),hx⟩
set_option maxHeartbeats 1600000 in
theorem scriptAgain_any (t:Bs) (w:World) (hG:GT w):Calls Tryz.prog 12 #[.string (bA t)] w fun e w'=>e=.returned (.bool true)∧Ext w w':=by
 have HAW:=Lib.hid (awake28_any w hG)
 have HG:=Lib.hid hG
 clear hG
 by_cases hl:3000<(bA t).size
 ·have hlI:((bA t).size:Int)>3000:=by omega
  go_enter Tryz.func12,Tryz.ntmps12
  go_wp2_with (fail)
  refine HAW.out.mono ?_
  rintro e w1 ⟨rfl,hx1⟩
  go_wp2_with (fail)
  go_ret
  exact ⟨rfl,hx1⟩
 ·have hlI:¬ ((bA t).size:Int)>3000:=by omega
  have htl:t.length<4294967281:=by rw [← bA_size];omega
  have HRUN:=Lib.hid (fun W (hW:GT W)=>run_any t W hW htl)
  unfold RunPost at HRUN
  obtain ⟨a,ha⟩:∃ a,(runT t).1=a:=⟨_,rfl⟩
  obtain ⟨b,hb⟩:∃ b,(runT t).2=b:=⟨_,rfl⟩
  rw [ha,hb] at HRUN
  clear ha hb htl
  have hq:((bA a).toList == (bA a).toList)=true:=beq_self_eq_true _
  have hq2:(b == b)=true:=beq_self_eq_true _
  go_enter Tryz.func12,Tryz.ntmps12
  go_wp2_with (fail)
  refine HAW.out.mono ?_
  rintro e w1 ⟨rfl,hx1⟩
  have HX1:=Lib.hid hx1
  clear hx1
  go_wp2_with (fail)
  refine (HRUN.out w1 (HG.out.ext HX1.out)).mono ?_
  rintro e w2 ⟨rfl,hx2⟩
  have HX2:=Lib.hid (HX1.out.trans hx2)
  clear hx2
  go_wp2_with (fail)
  refine (HRUN.out w2 (HG.out.ext HX2.out)).mono ?_
  rintro e w3 ⟨rfl,hx3⟩
  have HX3:=Lib.hid (HX2.out.trans hx3)
  clear hx3
  go_wp2_with (fail)
  go_ret
  exact ⟨rfl,HX3.out⟩
set_option maxHeartbeats 3200000 in
theorem scriptTurns_any (a b:Bs) (w:World) (hG:GT w):Calls Tryz.prog 11 #[.string (bA a), .string (bA b)] w fun e w'=>e=.returned (.bool true)∧Ext w w':=by
 have HAW:=Lib.hid (awake28_any w hG)
 have HG:=Lib.hid hG
 clear hG
 by_cases hl:2000<(bA a).size∨2000<(bA b).size
 ·by_cases h1:2000<(bA a).size
  ·have hlI:((bA a).size:Int)>2000:=by omega
   go_enter Tryz.func11,Tryz.ntmps11
   go_wp2_with (fail)
   refine HAW.out.mono ?_
   rintro e w1 ⟨rfl,hx1⟩
   go_wp2_with (fail)
   go_ret
   exact ⟨rfl,hx1⟩
  ·have hlI:¬ ((bA a).size:Int)>2000:=by omega
   have hlJ:((bA b).size:Int)>2000:=by omega
   go_enter Tryz.func11,Tryz.ntmps11
   go_wp2_with (fail)
   refine HAW.out.mono ?_
   rintro e w1 ⟨rfl,hx1⟩
   go_wp2_with (fail)
   go_ret
   exact ⟨rfl,hx1⟩
 ·have hlI:¬ ((bA a).size:Int)>2000:=by omega
  have hlJ:¬ ((bA b).size:Int)>2000:=by omega
  have hsa:(bA a).size≤2000:=by omega
  have hsb:(bA b).size≤2000:=by omega
  have hla:a.length≤2000:=by rw [← bA_size];omega
  have hlb:b.length≤2000:=by rw [← bA_size];omega
  have e1:bA a++(⟨#[10]⟩:ByteArray)=bA (a++[10]):=(bA_app a [10]).symm
  have e2:bA (a++[10])++bA b=bA (a++10::b):=by rw [← bA_app,List.append_assoc];rfl
  have HRUN1:Hid (∀ W,GT W→Calls Tryz.prog 56 #[.string (bA a++(⟨#[10]⟩:ByteArray))] W (RunPost W (a++[10]))):=by
   rw [e1]
   exact fun W hW=>run_any _ W hW (by rw [List.length_append];have:[(10:UInt8)].length=1:=rfl;omega)
  have HRUN2:Hid (∀ W,GT W→Calls Tryz.prog 56 #[.string (bA a++(⟨#[10]⟩:ByteArray)++bA b)] W (RunPost W (a++10::b))):=by
   rw [e1,e2]
   exact fun W hW=>run_any _ W hW (by rw [List.length_append,List.length_cons];omega)
  have HT:=Lib.hid (fun h1 h2=>turns_law a b h1 h2)
  have HTE:=Lib.hid (fun h1=>turns_err a b h1)
  unfold RunPost at HRUN1 HRUN2
  obtain ⟨x,hx⟩:∃ x,(runT (a++[10])).1=x:=⟨_,rfl⟩
  obtain ⟨e,he⟩:∃ e,(runT (a++[10])).2=e:=⟨_,rfl⟩
  obtain ⟨y,hy⟩:∃ y,(runT (a++10::b)).1=y:=⟨_,rfl⟩
  obtain ⟨f,hf⟩:∃ f,(runT (a++10::b)).2=f:=⟨_,rfl⟩
  rw [hx,he] at HRUN1
  rw [hy,hf] at HRUN2
  rw [hx,he,hy,hf] at HT
  rw [he,hf] at HTE
  have h10:(⟨#[10]⟩:ByteArray).size=1:=rfl
  have hs1:(bA a++(⟨#[10]⟩:ByteArray)).size≤2001:=by rw [ByteArray.size_append];omega
  clear hl e1 e2 hx he hy hf hla hlb
  by_cases h0:e=0
  ·by_cases hf0:f=0
   ·obtain ⟨z,hz⟩:=HT.out h0 hf0
    have q1:(e == 0)=true:=by simpa using h0
    have q2:(f == 0)=true:=by simpa using hf0
    subst h0 hf0 hz
    have hsz:(bA (x++z)).size=(bA x).size+(bA z).size:=by rw [bA_app,ByteArray.size_append]
    have hge:((bA x).size:Int)≤((bA (x++z)).size:Int):=by omega
    have hge0:(0:Int)≤((bA x).size:Int):=by omega
    have hex:(bA (x++z)).extract 0 (bA x).size=bA x:=by
     rw [bA_app,ByteArray.extract_append_size_left];exact ByteArray.extract_zero_size
    clear HT HTE hsz
    go_enter Tryz.func11,Tryz.ntmps11
    go_wp2_with (fail)
    refine HAW.out.mono ?_
    rintro e w1 ⟨rfl,hx1⟩
    have HX1:=Lib.hid hx1
    clear hx1
    go_wp2_with (fail)
    refine (HRUN1.out w1 (HG.out.ext HX1.out)).mono ?_
    rintro e w2 ⟨rfl,hx2⟩
    have HX2:=Lib.hid (HX1.out.trans hx2)
    clear hx2
    go_wp2_with (fail)
    refine (HRUN2.out w2 (HG.out.ext HX2.out)).mono ?_
    rintro e w3 ⟨rfl,hx3⟩
    have HX3:=Lib.hid (HX2.out.trans hx3)
    clear hx3
    go_wp2_with (fail)
    go_ret
    exact ⟨ret_bool (by simp),HX3.out⟩
   ·have q1:(e == 0)=true:=by simpa using h0
    have q2:(f == 0)=false:=by simpa using hf0
    subst h0
    clear HT HTE
    go_enter Tryz.func11,Tryz.ntmps11
    go_wp2_with (fail)
    refine HAW.out.mono ?_
    rintro e w1 ⟨rfl,hx1⟩
    have HX1:=Lib.hid hx1
    clear hx1
    go_wp2_with (fail)
    refine (HRUN1.out w1 (HG.out.ext HX1.out)).mono ?_
    rintro e w2 ⟨rfl,hx2⟩
    have HX2:=Lib.hid (HX1.out.trans hx2)
    clear hx2
    go_wp2_with (fail)
    refine (HRUN2.out w2 (HG.out.ext HX2.out)).mono ?_
    rintro e w3 ⟨rfl,hx3⟩
    have HX3:=Lib.hid (HX2.out.trans hx3)
    clear hx3
    go_wp2_with (fail)
    go_ret
    exact ⟨rfl,HX3.out⟩
  ·have hf0:=HTE.out h0
   have q1:(e == 0)=false:=by simpa using h0
   have q2:(f == 0)=false:=by simpa using hf0
   clear HT HTE
   go_enter Tryz.func11,Tryz.ntmps11
   go_wp2_with (fail)
   refine HAW.out.mono ?_
   rintro e w1 ⟨rfl,hx1⟩
   have HX1:=Lib.hid hx1
   clear hx1
   go_wp2_with (fail)
   refine (HRUN1.out w1 (HG.out.ext HX1.out)).mono ?_
   rintro e w2 ⟨rfl,hx2⟩
   have HX2:=Lib.hid (HX1.out.trans hx2)
   clear hx2
   go_wp2_with (fail)
   refine (HRUN2.out w2 (HG.out.ext HX2.out)).mono ?_
   rintro e w3 ⟨rfl,hx3⟩
   have HX3:=Lib.hid (HX2.out.trans hx3)
   clear hx3
   go_wp2_with (fail)
   go_ret
   exact ⟨ret_bool (by simp [hf0]),HX3.out⟩
end Go.Proofs.YtnlefnhdhigecaaGreatDoor

namespace Go.Proofs.YtnlefnhdhigecaaGreatDoor
set_option maxRecDepth 100000
open Go.RowKit Av
theorem bA_nil:(bA []).toList=[]:=by rw [Lib.toList_data];rfl
def formsA:Array Value:=#[.string ⟨#[111,112,101,110,32,53]⟩, .string ⟨#[99,108,111,115,101,32,49]⟩, .string ⟨#[116,105,99,107]⟩, .string ⟨#[97,115,107,32,49,32,49,32,103,101,116,32,47,97]⟩, .string ⟨#[97,115,107,32,49,32,50,32,99,114,101,97,116,101,32,47,97,32,120,32,48,32,43,32,115,101,116,32,47,97,32,121,32,45,49]⟩, .string ⟨#[119,97,116,99,104,32,49,32,47,97,32,49]⟩, .string ⟨#[101,118,101,110,116,115,32,49]⟩, .string ⟨#[112,97,116,104,115]⟩]
theorem forms_at (k:Nat) (hk:k<8):formsA[k]? = some (.string (bA (tF k))):=by
 match k,hk with
 | 0,_=>rfl
 | 1,_=>rfl
 | 2,_=>rfl
 | 3,_=>rfl
 | 4,_=>rfl
 | 5,_=>rfl
 | 6,_=>rfl
 | 7,_=>rfl
set_option maxHeartbeats 3200000 in
theorem scriptForms_any (k how:Int) (w:World) (hG:GT w):Calls Tryz.prog 10 #[.int .i64 k, .int .i64 how] w fun e w'=>e=.returned (.bool true)∧Ext w w':=by
 have HAW:=Lib.hid (awake28_any w hG)
 have HG:=Lib.hid hG
 clear hG
 by_cases h0:k<0
 ·go_enter Tryz.func10,Tryz.ntmps10
  go_wp2_with (fail)
  refine HAW.out.mono ?_
  rintro e w1 ⟨rfl,hx1⟩
  have HX1:=Lib.hid hx1
  clear hx1
  go_wp2_with (fail)
  go_ret
  exact ⟨rfl,HX1.out.trans ((Kp.refl _ _).alloc _)⟩
 ·by_cases h8:8≤k
  ·have h8':k ≥ 8:=h8
   go_enter Tryz.func10,Tryz.ntmps10
   go_wp2_with (fail)
   refine HAW.out.mono ?_
   rintro e w1 ⟨rfl,hx1⟩
   have HX1:=Lib.hid hx1
   clear hx1
   go_wp2_with (fail)
   go_ret
   exact ⟨rfl,HX1.out.trans ((Kp.refl _ _).alloc _)⟩
  ·obtain ⟨n,rfl⟩:=Int.eq_ofNat_of_zero_le (show 0≤k by omega)
   have hn:n<8:=by omega
   have hnI:(n:Int)<8:=by omega
   have hn0:(0:Int)≤(n:Int):=by omega
   have HCL:Hid (∀ W:World,(W.alloc (.cells formsA strT)).cell? ⟨W.heap.size,n,none⟩=some (.string (bA (tF n)))):=fun W=>(World.cell?_alloc_new _ _ _ _).trans (forms_at n hn)
   unfold formsA at HCL
   have hR1:∀ W,GT W→Calls Tryz.prog 56 #[.string (bA (tF n))] W (RunPost W (tF n)):=fun W hW=>run_any _ W hW (Nat.lt_of_le_of_lt (tF_len n) (by decide))
   have hR2:∀ (m:Int) W,GT W→Calls Tryz.prog 56 #[.string (bA (op3++bendT m (tF n)))] W (RunPost W (op3++bendT m (tF n))):=fun m W hW=>run_any _ W hW (Nat.lt_of_le_of_lt (bend_len n m) (by decide))
   unfold RunPost at hR1 hR2
   simp only [run_f,run_g] at hR1 hR2
   have HR1:=Lib.hid hR1
   have HR2:=Lib.hid hR2
   have HFL:Hid ((bA (tF n)).size≤1000):=by show _;rw [bA_size];exact tF_len n
   generalize tF n=s at *
   obtain ⟨x,hx⟩:∃ x,(runT s).1=x:=⟨_,rfl⟩
   simp only [hx] at *
   have HQ0:Hid (∀ W,GT W→Calls Tryz.prog 56 #[.string ((⟨#[111,112,101,110,32,51,10]⟩:ByteArray)++(bA s++(⟨#[32,49]⟩:ByteArray)))] W fun e w'=>e=.returned (.tuple #[.string (bA []), .int .i64 13])∧Ext W w'):=by
    have e:(⟨#[111,112,101,110,32,51,10]⟩:ByteArray)++(bA s++(⟨#[32,49]⟩:ByteArray))=bA (op3++bendT 0 s):=by rw [bA_app,show bendT 0 s=s++[32,49] from rfl,bA_app];rfl
    rw [e]
    exact HR2.out 0
   have HQ1:Hid (∀ W,GT W→Calls Tryz.prog 56 #[.string ((⟨#[111,112,101,110,32,51,10]⟩:ByteArray)++((⟨#[120]⟩:ByteArray)++bA s))] W fun e w'=>e=.returned (.tuple #[.string (bA []), .int .i64 13])∧Ext W w'):=by
    have e:(⟨#[111,112,101,110,32,51,10]⟩:ByteArray)++((⟨#[120]⟩:ByteArray)++bA s)=bA (op3++bendT 1 s):=by rw [bA_app,show bendT 1 s=120::s from rfl,bA_cons];rfl
    rw [e]
    exact HR2.out 1
   have HQ2:Hid (∀ W,GT W→Calls Tryz.prog 56 #[.string ((⟨#[111,112,101,110,32,51,10]⟩:ByteArray)++(bA s++(⟨#[32,43]⟩:ByteArray)))] W fun e w'=>e=.returned (.tuple #[.string (bA []), .int .i64 13])∧Ext W w'):=by
    have e:(⟨#[111,112,101,110,32,51,10]⟩:ByteArray)++(bA s++(⟨#[32,43]⟩:ByteArray))=bA (op3++bendT 2 s):=by rw [bA_app,show bendT 2 s=s++[32,43] from rfl,bA_app];rfl
    rw [e]
    exact HR2.out 2
   have HQ3:Hid (∀ W,GT W→Calls Tryz.prog 56 #[.string ((⟨#[111,112,101,110,32,51,10]⟩:ByteArray)++(bA s++(⟨#[10,112,97,116,104,115,32,112,97,116,104,115]⟩:ByteArray)))] W fun e w'=>e=.returned (.tuple #[.string (bA []), .int .i64 13])∧Ext W w'):=by
    have e:(⟨#[111,112,101,110,32,51,10]⟩:ByteArray)++(bA s++(⟨#[10,112,97,116,104,115,32,112,97,116,104,115]⟩:ByteArray))=bA (op3++bendT 3 s):=by rw [bA_app,show bendT 3 s=s++[10,112,97,116,104,115,32,112,97,116,104,115] from rfl,bA_app];rfl
    rw [e]
    exact HR2.out 3
   have hs0:(bA s).size≤1000:=HFL.out
   have z0:(⟨#[32,49]⟩:ByteArray).size=2:=rfl
   have z1:(⟨#[120]⟩:ByteArray).size=1:=rfl
   have z2:(⟨#[32,43]⟩:ByteArray).size=2:=rfl
   have z3:(⟨#[10,112,97,116,104,115,32,112,97,116,104,115]⟩:ByteArray).size=12:=rfl
   have z4:(⟨#[111,112,101,110,32,51,10]⟩:ByteArray).size=7:=rfl
   have y0:(bA s++(⟨#[32,49]⟩:ByteArray)).size≤1100:=by rw [ByteArray.size_append];omega
   have y1:((⟨#[120]⟩:ByteArray)++bA s).size≤1100:=by rw [ByteArray.size_append];omega
   have y2:(bA s++(⟨#[32,43]⟩:ByteArray)).size≤1100:=by rw [ByteArray.size_append];omega
   have y3:(bA s++(⟨#[10,112,97,116,104,115,32,112,97,116,104,115]⟩:ByteArray)).size≤1100:=by rw [ByteArray.size_append];omega
   clear hx hR1 hR2 h0 h8 HR2
   go_enter Tryz.func10,Tryz.ntmps10
   go_wp2_with (fail)
   refine HAW.out.mono ?_
   rintro e w1 ⟨rfl,hx1⟩
   have HX1:=Lib.hid hx1
   clear hx1
   go_upto_region 4 with (fail)
   have hc:=HCL.out w1
   obtain ⟨w2,hw2⟩:∃ w2,w1.alloc (.cells #[.string ⟨#[111,112,101,110,32,53]⟩, .string ⟨#[99,108,111,115,101,32,49]⟩, .string ⟨#[116,105,99,107]⟩, .string ⟨#[97,115,107,32,49,32,49,32,103,101,116,32,47,97]⟩, .string ⟨#[97,115,107,32,49,32,50,32,99,114,101,97,116,101,32,47,97,32,120,32,48,32,43,32,115,101,116,32,47,97,32,121,32,45,49]⟩, .string ⟨#[119,97,116,99,104,32,49,32,47,97,32,49]⟩, .string ⟨#[101,118,101,110,116,115,32,49]⟩, .string ⟨#[112,97,116,104,115]⟩] strT)=w2:=⟨_,rfl⟩
   have HX2:Hid (Ext w w2):=by rw [← hw2];exact HX1.out.trans ((Kp.refl _ _).alloc _)
   rw [hw2] at hc ⊢
   clear hw2
   go_wp2_with (fail)
   refine (HR1.out _ (HG.out.ext HX2.out)).mono ?_
   rintro e w3 ⟨rfl,hx3⟩
   have HX3:=Lib.hid (HX2.out.trans hx3)
   clear hx3
   go_wp2_with (fail)
   all_goals first
    | with_reducible refine (HQ0.out _ (HG.out.ext HX3.out)).mono ?_
    | with_reducible refine (HQ1.out _ (HG.out.ext HX3.out)).mono ?_
    | with_reducible refine (HQ2.out _ (HG.out.ext HX3.out)).mono ?_
    | with_reducible refine (HQ3.out _ (HG.out.ext HX3.out)).mono ?_
   all_goals
    rintro e w4 ⟨rfl,hx4⟩
    have HX4:=Lib.hid (HX3.out.trans hx4)
    clear hx4
    go_wp2_with (fail)
    go_ret
    exact ⟨ret_bool (by simp [bA_nil]),HX4.out⟩
set_option maxHeartbeats 3200000 in
theorem scriptKnown_any (w:World) (hG:GT w):Calls Tryz.prog 9 #[] w fun e w'=>e=.returned (.bool true)∧Ext w w':=by
 have HAW:=Lib.hid (awake28_any w hG)
 have HG:=Lib.hid hG
 have HRb0:=Lib.hid (fun W (hW:GT W)=>run_is run_b0 (by decide) hW)
 have HRb1:=Lib.hid (fun W (hW:GT W)=>run_is run_b1 (by decide) hW)
 have HRb2:=Lib.hid (fun W (hW:GT W)=>run_is run_b2 (by decide) hW)
 have HRb3:=Lib.hid (fun W (hW:GT W)=>run_is run_b3 (by decide) hW)
 have HRb4:=Lib.hid (fun W (hW:GT W)=>run_is run_b4 (by decide) hW)
 have HRkn:=Lib.hid (fun W (hW:GT W)=>run_is run_kn (by decide) hW)
 have hq:((bA rKn).toList == rKn)=true:=by rw [bA_beq];exact decide_eq_true rfl
 clear hG
 go_enter Tryz.func9,Tryz.ntmps9
 go_wp2_with (fail)
 refine HAW.out.mono ?_
 rintro e w0 ⟨rfl,hx0⟩
 have HX0:=Lib.hid hx0
 clear hx0
 go_wp2_with (fail)
 refine (HRb0.out w0 (HG.out.ext HX0.out)).mono ?_
 rintro e w1 ⟨rfl,hx1⟩
 have HX1:=Lib.hid (HX0.out.trans hx1)
 clear hx1
 go_wp2_with (fail)
 refine (HRb1.out w1 (HG.out.ext HX1.out)).mono ?_
 rintro e w2 ⟨rfl,hx2⟩
 have HX2:=Lib.hid (HX1.out.trans hx2)
 clear hx2
 go_wp2_with (fail)
 refine (HRb2.out w2 (HG.out.ext HX2.out)).mono ?_
 rintro e w3 ⟨rfl,hx3⟩
 have HX3:=Lib.hid (HX2.out.trans hx3)
 clear hx3
 go_wp2_with (fail)
 refine (HRb3.out w3 (HG.out.ext HX3.out)).mono ?_
 rintro e w4 ⟨rfl,hx4⟩
 have HX4:=Lib.hid (HX3.out.trans hx4)
 clear hx4
 go_wp2_with (fail)
 refine (HRb4.out w4 (HG.out.ext HX4.out)).mono ?_
 rintro e w5 ⟨rfl,hx5⟩
 have HX5:=Lib.hid (HX4.out.trans hx5)
 clear hx5
 go_wp2_with (fail)
 refine (HRkn.out w5 (HG.out.ext HX5.out)).mono ?_
 rintro e w6 ⟨rfl,hx6⟩
 have HX6:=Lib.hid (HX5.out.trans hx6)
 clear hx6
 go_wp2_with (fail)
 go_ret
 exact ⟨ret_bool (by rw [bA_beq];exact decide_eq_true rfl),HX6.out⟩
end Go.Proofs.YtnlefnhdhigecaaGreatDoor

namespace Go.Proofs.YtnlefnhdhigecaaGreatDoor
set_option maxRecDepth 100000
open Go.ChangeShapes Go.WideShapes Go.ChangeAt Go.RowKit Av
theorem scriptKnown_con {H:Type} {enc:TypeId×Value→H} (W:World) (base:Nat) (args:Array Value) (ds:List (DataW H)) (p:List MemPlace)
  (_hval:∀ (j:Nat) t v,Tryz.f9.params[j]? = some t→args[j]? = some v→Value.okWide Tryz.prog W .any base t v)
  (hA:DataW.TrodAll enc Tryz.prog W 0 (fun _=>true) true Tryz.f9.params.toList args.toList ds p)
  (hsh:W.ShapedOpen Tryz.prog) (hl:laidMet Tryz.prog Rows.scriptKnownRow.laid W):Calls Tryz.prog 9 args W fun e W'=>e=.returned (.bool true)∧Ext W W':=by
 rw [Tryz.params9] at hA
 obtain ⟨rfl,rfl,rfl⟩:=trodAll_none hA
 exact scriptKnown_any W (gt_of hsh hl (by kernel_rfl))
theorem scriptAgain_con {H:Type} {enc:TypeId×Value→H} (W:World) (base:Nat) (args:Array Value) (ds:List (DataW H)) (p:List MemPlace)
  (hval:∀ (j:Nat) t v,Tryz.f12.params[j]? = some t→args[j]? = some v→Value.okWide Tryz.prog W .any base t v)
  (hA:DataW.TrodAll enc Tryz.prog W 0 (fun _=>true) true Tryz.f12.params.toList args.toList ds p)
  (hsh:W.ShapedOpen Tryz.prog) (hl:laidMet Tryz.prog Rows.scriptAgainRow.laid W):Calls Tryz.prog 12 args W fun e W'=>e=.returned (.bool true)∧Ext W W':=by
 rw [Tryz.params12] at hA hval
 obtain ⟨v0,d0,rfl,rfl,_⟩:=trodAll_one hA
 obtain ⟨s0,rfl⟩:=okWide_string Tryz.underlying9 (hval 0 _ v0 rfl rfl)
 rw [← bytes_self s0]
 exact scriptAgain_any s0.data.toList W (gt_of hsh hl (by kernel_rfl))
theorem scriptTurns_con {H:Type} {enc:TypeId×Value→H} (W:World) (base:Nat) (args:Array Value) (ds:List (DataW H)) (p:List MemPlace)
  (hval:∀ (j:Nat) t v,Tryz.f11.params[j]? = some t→args[j]? = some v→Value.okWide Tryz.prog W .any base t v)
  (hA:DataW.TrodAll enc Tryz.prog W 0 (fun _=>true) true Tryz.f11.params.toList args.toList ds p)
  (hsh:W.ShapedOpen Tryz.prog) (hl:laidMet Tryz.prog Rows.scriptTurnsRow.laid W):Calls Tryz.prog 11 args W fun e W'=>e=.returned (.bool true)∧Ext W W':=by
 rw [Tryz.params11] at hA hval
 obtain ⟨v0,v1,d0,d1,p0,p1,rfl,rfl,rfl,_,_⟩:=trodAll_two hA
 obtain ⟨s0,rfl⟩:=okWide_string Tryz.underlying9 (hval 0 _ v0 rfl rfl)
 obtain ⟨s1,rfl⟩:=okWide_string Tryz.underlying9 (hval 1 _ v1 rfl rfl)
 rw [← bytes_self s0,← bytes_self s1]
 exact scriptTurns_any s0.data.toList s1.data.toList W (gt_of hsh hl (by kernel_rfl))
theorem scriptForms_con {H:Type} {enc:TypeId×Value→H} (W:World) (base:Nat) (args:Array Value) (ds:List (DataW H)) (p:List MemPlace)
  (hval:∀ (j:Nat) t v,Tryz.f10.params[j]? = some t→args[j]? = some v→Value.okWide Tryz.prog W .any base t v)
  (hA:DataW.TrodAll enc Tryz.prog W 0 (fun _=>true) true Tryz.f10.params.toList args.toList ds p)
  (hsh:W.ShapedOpen Tryz.prog) (hl:laidMet Tryz.prog Rows.scriptFormsRow.laid W):Calls Tryz.prog 10 args W fun e W'=>e=.returned (.bool true)∧Ext W W':=by
 rw [Tryz.params10] at hA hval
 obtain ⟨v0,v1,d0,d1,p0,p1,rfl,rfl,rfl,_,_⟩:=trodAll_two hA
 obtain ⟨n0,rfl⟩:=okWide_int Tryz.underlying3 (hval 0 _ v0 rfl rfl)
 obtain ⟨n1,rfl⟩:=okWide_int Tryz.underlying3 (hval 1 _ v1 rfl rfl)
 exact scriptForms_any n0 n1 W (gt_of hsh hl (by kernel_rfl))
end Go.Proofs.YtnlefnhdhigecaaGreatDoor

