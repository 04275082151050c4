/- Texts put together: AvWPath, AvLock, AvWPathB, AvWRefA, AvWRefB, AvWRefC, AvWPathC, AvWTree. -/
import Derived.Test.YtnlefnhdhigecaaGreatDoorAvS
import Derived.Test.YtnlefnhdhigecaaGreatDoorAvG1
import Derived.Handy
import Derived.Test.YtnlefnhdhigecaaGreatDoorAvG5
import Derived.StillTailTactics
import Derived.IntWalk
import Derived.Lib.LaidTab
namespace Go.Proofs.YtnlefnhdhigecaaGreatDoor
set_option maxRecDepth 100000
open Go.RowKit Av
def GL (w:World):Prop:=∃ m:Int,w.cell? ⟨0,0,none⟩=some (.int .i64 m)
theorem GL.kp {S:Nat→Prop} {w w':World} (h:GL w) (k:Kp S w w') (hs:¬ S 0):GL w':=by
 obtain ⟨m,h⟩:=h
 exact ⟨m,k.cell h hs⟩
theorem GL.ext {w w':World} (h:GL w) (k:Ext w w'):GL w':=h.kp k (fun f=>f)
theorem ret_bool {a b:Bool} (h:a=b):Ending.returned (.bool a)=.returned (.bool b):=by rw [h]
theorem all_snoc (l:Bs) (k:Nat) (h:k<l.length):(l.take (k+1)).all sign=((l.take k).all sign&&sign l[k]):=by
 rw [List.take_succ_eq_append_getElem h];simp only [List.all_append,List.all_cons,List.all_nil,Bool.and_true]
theorem not_all (l:Bs) (k:Nat) (h:k<l.length) (hs:sign l[k]=false):l.all sign=false:=by
 rw [List.all_eq_false];exact ⟨l[k],List.getElem_mem h,by simp [hs]⟩
set_option maxHeartbeats 400000 in
theorem name_any (s:ByteArray) (w:World) (hs:s.size≤maxLen) :
  Calls Tryz.prog 122 #[.string s] w fun e w'=>e=.returned (.bool (nameL s.data.toList))∧w=w':=by
 unfold maxLen at hs
 have hsz:s.size=s.data.toList.length:=Go.Lib.size_eq s
 have HS:=Lib.hid hsz;clear hsz
 go_enter Tryz.func122,Tryz.ntmps122
 go_wp2
 go_loop [6] (fun i=>∃ k:Nat,k≤s.size∧i=.int .i64 k∧(s.data.toList.take k).all sign=true) (fun i=>s.size - (intOf i).toNat)
 case atStart=>exact ⟨0,Nat.zero_le _,rfl,rfl⟩
 case round=>
  obtain ⟨k,hk,rfl,ht⟩:=hrel
  have HT:=Lib.hid ht;clear ht
  by_cases hlt:k<s.size
  ·have hl:k<s.data.toList.length:=by rw [← HS.out];exact hlt
   have hg:s.data.toList[k]=s[k]:=by rw [Array.getElem_toList];rfl
   by_cases hsg:sign s[k]=true
   ·have hb:33≤s[k].toNat∧s[k].toNat≤126:=by
     simp only [sign,Bool.and_eq_true,decide_eq_true_eq,UInt8.le_iff_toNat_le] at hsg;simpa using hsg
    obtain ⟨hb1,hb2⟩:=hb
    have HG:=Lib.hid hsg;clear hsg
    have HX:=Lib.hid hg;clear hg
    go_wp2
    go_round
    case rel=>exact ⟨k+1,by omega,by go_num,by rw [all_snoc _ _ hl,HT.out,HX.out,HG.out];rfl⟩
    case measure=>simp [intOf];omega
   ·have hb:s[k].toNat<33∨126<s[k].toNat:=by
     simp only [sign,Bool.and_eq_true,decide_eq_true_eq,UInt8.le_iff_toNat_le] at hsg
     have h33:(33:UInt8).toNat=33:=rfl
     have h126:(126:UInt8).toNat=126:=rfl
     omega
    have hres:nameL s.data.toList=false:=by
     simp only [nameL,not_all _ _ hl (by rw [hg];simpa using hsg),Bool.false_and]
    have HR:=Lib.hid hres
    clear hsg hg hres
    rcases hb with hb|hb
    all_goals
     go_wp2
     go_ret
     exact ⟨ret_bool (by rw [HR.out]),rfl⟩
  ·have hall:s.data.toList.all sign=true:=by
    have:=HT.out
    rwa [List.take_of_length_le (by rw [← HS.out];omega)] at this
   have HA:=Lib.hid hall
   have e1:s.toList=s.data.toList:=Go.Lib.toList_data s
   clear hall
   have HE:=Lib.hid e1;clear e1
   have hnm:∀ b:Bool,((decide (1≤s.size)&&decide (s.size≤40))&&((s.data.toList != [46])&&(s.data.toList != [46,46])))=b→nameL s.data.toList=b:=by
    intro b hb;rw [← hb];simp only [nameL,HA.out,← HS.out,Bool.true_and,Bool.and_assoc]
   have HN:=Lib.hid hnm;clear hnm
   by_cases h1:1≤s.size
   ·by_cases h2:s.size≤40
    ·go_wp2
     all_goals
      go_ret
      go_light
      refine ⟨ret_bool (HN.out _ ?_).symm,rfl⟩
      have e2:=HE.out
      simp_all [bne]
    ·go_wp2
     go_ret
     exact ⟨ret_bool (HN.out _ (by simp [h2])).symm,rfl⟩
   ·go_wp2
    go_ret
    exact ⟨ret_bool (HN.out _ (by simp [h1])).symm,rfl⟩
def stroke:ByteArray:=⟨#[47]⟩
theorem Split_any (q:ByteArray) (w:World) (hG:GL w) (hq:q.size<4294967281) :
  Calls Tryz.prog 121 #[.string q, .string ⟨#[47]⟩] w fun e w'=>∃ (b:Nat) (ps:List ByteArray),ps.map (·.data.toList)=cut q.data.toList∧e=.returned (.slice (some ⟨b,0,none⟩) ps.length ps.length)∧
   ps.length≤maxLen∧b<w'.heap.size∧(∀ i (hi:i<ps.length),w'.cell? ⟨b,i,none⟩=some (.string ps[i]))∧Ext w w':=by
 obtain ⟨m,hm⟩:=hG
 refine (Tryz.strings_Split q ⟨#[47]⟩ m w hq hm (by decide)).mono ?_
 rintro e w' ⟨rfl,rfl⟩
 have hc:Lib.countB q ⟨#[47]⟩=q.data.toList.count 47:=Lib.count_one 47 q.data.toList
 have hl:=Lib.splitB_all ⟨#[47]⟩ (by decide) 0 _ q rfl
 have hle:=Lib.countB_le ⟨#[47]⟩ (by decide) q.size q (Nat.le_refl _)
 have hd:=Lib.splitB_data ⟨#[47]⟩ 0 (Lib.countB q ⟨#[47]⟩) q
 generalize Lib.splitB ⟨#[47]⟩ 0 (Lib.countB q ⟨#[47]⟩) q=ps at hl hd ⊢
 refine ⟨w.heap.size,ps, ?_,by rw [hl],by unfold maxLen;omega,by simp, ?_,(Kp.refl _ _).alloc _⟩
 ·rw [hd];exact splitK_cut _ _ hc.symm
 ·intro i hi
  exact (World.cell?_alloc_new _ _ _ _).trans (by simp [hi])
theorem CutPrefix_yes (p:ByteArray) (t:Bs) (w:World) (h:p.data.toList=47::t) :
  Calls Tryz.prog 120 #[.string p, .string ⟨#[47]⟩] w fun e w'=>e=.returned (.tuple #[.string ⟨t.toArray⟩, .bool true])∧w=w':=by
 refine (Tryz.strings_CutPrefix _ _ _).mono ?_
 rintro e w' ⟨rfl,rfl⟩
 simp [h,Lib.trimPrefix,Lib.hasPrefix]
theorem CutPrefix_no (p:ByteArray) (w:World) (h:p.data.toList.head?≠some 47) :
  Calls Tryz.prog 120 #[.string p, .string ⟨#[47]⟩] w fun e w'=>e=.returned (.tuple #[.string p, .bool false])∧w=w':=by
 refine (Tryz.strings_CutPrefix _ _ _).mono ?_
 rintro e w' ⟨rfl,rfl⟩
 have:Lib.hasPrefix p.data.toList [47]=false:=by
  cases hl:p.data.toList with
  | nil=>rfl
  | cons c t=>
    simp only [Lib.hasPrefix,List.isPrefixOf,Bool.and_true]
    simp only [hl,List.head?_cons,ne_eq,Option.some.injEq] at h
    simpa using fun e=>h e.symm
 simp [this,Lib.trimPrefix]
theorem good_no (l:Bs) (h:l.head?≠some 47):goodL l=false:=by
 cases l with
 | nil=>rfl
 | cons c t=>
   have:(c == 47)=false:=by simpa using h
   simp [goodL,this]
theorem good_long (l:Bs) (h:200<l.length):goodL l=false:=by
 cases l with
 | nil=>rfl
 | cons c t=>
   have:decide ((c::t).length≤200)=false:=decide_eq_false (by omega)
   simp only [goodL,this,Bool.and_false,Bool.false_and]
theorem good_cons (t:Bs) (h:t.length<200):goodL (47::t)=((cut t).all nameL&&decide ((cut t).length≤8)):=by
 have:decide ((47::t).length≤200)=true:=by simp;omega
 simp only [goodL,this,beq_self_eq_true,Bool.true_and]
theorem piece (ps:List ByteArray) (l:List Bs) (h:ps.map (·.data.toList)=l) (k:Nat) (hk:k<ps.length):∃ hk':k<l.length,ps[k].data.toList=l[k]:=by
 subst h;exact ⟨by simpa using hk,by simp⟩
theorem all_name_snoc (l:List Bs) (k:Nat) (h:k<l.length):(l.take (k+1)).all nameL=((l.take k).all nameL&&nameL l[k]):=by
 rw [List.take_succ_eq_append_getElem h];simp only [List.all_append,List.all_cons,List.all_nil,Bool.and_true]
set_option maxHeartbeats 400000 in
theorem Good_any (p:ByteArray) (w:World) (hG:GL w) (hp:p.size≤maxLen) :
  Calls Tryz.prog 67 #[.string p] w fun e w'=>e=.returned (.bool (goodL p.data.toList))∧Ext w w':=by
 unfold maxLen at hp
 have HS:Hid (p.size=p.data.toList.length):=Go.Lib.size_eq p
 by_cases hpre:p.data.toList.head? = some 47
 ·obtain ⟨t,ht⟩:∃ t,p.data.toList=47::t:=by
   cases h:p.data.toList with
   | nil=>simp [h] at hpre
   | cons c t=>simp [h] at hpre;exact ⟨t,by rw [hpre]⟩
  have HT:=Lib.hid ht
  clear ht hpre
  by_cases hlen:p.size≤200
  ·have htl:(⟨t.toArray⟩:ByteArray).size<4294967281:=by
    have:=HS.out;rw [HT.out] at this;simp at this;simp [ByteArray.size];omega
   have HL:=Lib.hid htl
   clear htl
   go_enter Tryz.func67,Tryz.ntmps67
   go_wp2_with (fail)
   refine (CutPrefix_yes p t _ HT.out).mono ?_
   rintro e w' ⟨rfl,rfl⟩
   go_wp2_with (fail)
   refine (Split_any _ _ hG HL.out).mono ?_
   rintro e w1 ⟨b,ps,hps,rfl,hn,hb,hc,hx⟩
   have HP:=Lib.hid hps
   have HC:=Lib.hid hc
   clear hps hc
   unfold maxLen at hn
   go_wp2_with (fail)
   go_loop [24] (fun i=>∃ k:Nat,k≤ps.length∧i=.int .i64 k∧((cut t).take k).all nameL=true) (fun i=>ps.length - (intOf i).toNat)
   case atStart=>exact ⟨0,Nat.zero_le _,rfl,rfl⟩
   case round=>
    obtain ⟨k,hk,rfl,hall⟩:=hrel
    have HA:=Lib.hid hall
    clear hall
    by_cases hlt:k<ps.length
    ·have hcell:=HC.out k hlt
     obtain ⟨hk',hpk⟩:=piece ps _ HP.out k hlt
     have hsz:ps[k].size≤maxLen:=by
      have h1:=cut_len_le t _ (List.getElem_mem hk')
      have h2:ps[k].size=ps[k].data.toList.length:=Go.Lib.size_eq _
      have h3:=HS.out
      rw [HT.out] at h3
      simp only [List.length_cons] at h3
      rw [h2,hpk];unfold maxLen;omega
     have HZ:=Lib.hid hsz
     have HK:=Lib.hid hpk
     clear hsz hpk
     by_cases hnm:nameL ps[k].data.toList=true
     ·go_wp2_with (go_at_call 122;refine (name_any _ _ HZ.out).mono ?_;rintro e w' ⟨rfl,rfl⟩)
      go_round
      case rel=>exact ⟨k+1,by omega,by go_num,by rw [all_name_snoc _ _ hk',HA.out,← HK.out,hnm];rfl⟩
      case measure=>simp [intOf];omega
     ·have hnf:nameL ps[k].data.toList=false:=by simpa using hnm
      clear hnm
      go_wp2_with (go_at_call 122;refine (name_any _ _ HZ.out).mono ?_;rintro e w' ⟨rfl,rfl⟩)
      go_ret
      go_light
      refine ⟨ret_bool ?_,hx⟩
      have h3:=HS.out
      rw [HT.out] at h3 ⊢
      simp only [List.length_cons] at h3
      rw [good_cons _ (by omega)]
      have:(cut t).all nameL=false:=by
       rw [List.all_eq_false];exact ⟨_,List.getElem_mem hk',by rw [← HK.out,hnf];simp⟩
      rw [this];rfl
    ·have hke:k=ps.length:=by omega
     have HKE:=Lib.hid hke
     clear hke
     go_wp2
     go_ret
     go_light
     refine ⟨ret_bool ?_,hx⟩
     have h3:=HS.out
     rw [HT.out] at h3 ⊢
     simp only [List.length_cons] at h3
     rw [good_cons _ (by omega)]
     have hl:(cut t).length=ps.length:=by rw [← HP.out];simp
     have:=HA.out
     rw [HKE.out,← hl,List.take_length] at this
     rw [this,hl]
     simp
     omega
  ·go_enter Tryz.func67,Tryz.ntmps67
   go_wp2_with (fail)
   refine (CutPrefix_yes p t _ HT.out).mono ?_
   rintro e w' ⟨rfl,rfl⟩
   go_wp2_with (fail)
   go_ret
   exact ⟨ret_bool (good_long _ (by rw [← HS.out];omega)).symm,Kp.refl _ _⟩
 ·have HP:=Lib.hid hpre
  clear hpre
  go_enter Tryz.func67,Tryz.ntmps67
  go_wp2_with (fail)
  refine (CutPrefix_no p _ HP.out).mono ?_
  rintro e w' ⟨rfl,rfl⟩
  go_wp2_with (fail)
  go_ret
  exact ⟨ret_bool (good_no _ HP.out).symm,Kp.refl _ _⟩
end Go.Proofs.YtnlefnhdhigecaaGreatDoor

namespace Av
set_option maxRecDepth 100000
def optS (o:Option Bs):ByteArray:=⟨(o.getD []).toArray⟩
abbrev upB (p:ByteArray):Option Bs:=parentL p.data.toList
def blk (who:Int) (p:ByteArray) (e:ByteArray×Int):Bool:=
 decide (e.2≠who)&&(decide (e.1=p)||(decide (e.1=optS (upB p))||((upB e.1).isSome&&decide (optS (upB e.1)=p))))
end Av

namespace Go.Proofs.YtnlefnhdhigecaaGreatDoor
set_option maxRecDepth 100000
open Go.RowKit Av
def PartsPost (w:World) (l:List Bs) (e:Ending) (w':World):Prop:=
 ∃ (v:Value) (ps:List ByteArray),e=.returned v∧ps.map (·.data.toList)=l∧Strs w' v ps∧Ext w w'
theorem extract_tail (p:ByteArray) (t:Bs) (h:p.data.toList=47::t):(p.extract 1 p.size).data.toList=t:=by
 rw [Lib.extract_data,h,Lib.size_eq,h];simp
set_option maxHeartbeats 400000 in
theorem Parts_any (p:ByteArray) (w:World) (hG:GL w) (hp:p.size≤maxLen) :
  Calls Tryz.prog 163 #[.string p] w fun e w'=>PartsPost w (partsL p.data.toList) e w':=by
 have HGd:=Lib.hid (Good_any p w hG hp)
 unfold maxLen at hp
 by_cases hg:goodL p.data.toList=true
 ·obtain ⟨t,ht,h1,h2,h3,h4⟩:=good_head _ hg
  have h200:p.size≤200:=by rw [Lib.size_eq,ht];simp;omega
  have h0:1≤p.size:=by rw [Lib.size_eq,ht];simp
  have HX:=Lib.hid (extract_tail p t ht)
  have H4:=Lib.hid h4
  have hsz:(p.extract 1 p.size).size<4294967281:=by rw [Lib.size_eq,HX.out];omega
  have HZ:=Lib.hid hsz
  have HG:=Lib.hid hg
  clear hg ht h1 h2 h3 h4 hsz
  go_enter Tryz.func163,Tryz.ntmps163
  go_wp2_with (fail)
  refine HGd.out.mono ?_
  rintro e w' ⟨rfl,hx⟩
  rw [HG.out]
  go_wp2_with (fail)
  refine (Split_any _ _ (hG.ext hx) HZ.out).mono ?_
  rintro e w1 ⟨b,ps,hps,rfl,hn,hb,hc,hx1⟩
  go_wp2_with (fail)
  go_ret
  go_light
  exact ⟨.slice (some ⟨b,0,none⟩) ps.length ps.length,ps,rfl,by rw [hps,HX.out,H4.out],Strs.of_cells hn (Nat.le_refl _) hb (fun i hi=>by rw [Nat.zero_add];exact hc i hi),hx.ext hx1⟩
 ·have HG:Hid (goodL p.data.toList=false):=by show goodL p.data.toList=false;simpa using hg
  clear hg
  go_enter Tryz.func163,Tryz.ntmps163
  go_wp2_with (fail)
  refine HGd.out.mono ?_
  rintro e w' ⟨rfl,hx⟩
  rw [HG.out]
  go_wp2_with (fail)
  go_ret
  exact ⟨.slice none 0 0,[],rfl,by simp [partsL,HG.out],Strs.nil _,hx⟩
theorem Join_any (v:Value) (xs:List ByteArray) (w:World) (h:Strs w v xs) (hn:xs.length≤140737488355328) (hl:(Lib.join (xs.map (·.data.toList)) [47]).length≤140737488355328) :
  Calls Tryz.prog 193 #[v, .string ⟨#[47]⟩] w fun e w'=>e=.returned (.string ⟨(Lib.join (xs.map (·.data.toList)) [47]).toArray⟩)∧Ext w w':=by
 obtain ⟨a,c,rfl,hcc,hm,ho⟩:=Strs.open h
 by_cases h0:0<xs.length
 ·obtain ⟨b,off,rfl,hb,hc⟩:=ho h0
  refine (Tryz.strings_Join b off c xs ⟨#[47]⟩ w (fun j x hx=>?_) hb hn hcc hl).mono fun e w' hh=>⟨hh.1,Kp.of_below hh.2⟩
  obtain ⟨hj,rfl⟩:=List.getElem?_eq_some_iff.1 hx
  exact hc j hj
 ·have:xs=[]:=List.eq_nil_of_length_eq_zero (by omega)
  subst this
  exact (Tryz.strings_Join_none a c ⟨#[47]⟩ w).mono fun e w' hh=>⟨hh.1,hh.2 ▸ Kp.refl _ _⟩
theorem parent_none (p:Bs) (h:(partsL p).length<2):parentL p=none:=by simp [parentL,h]
theorem parent_some (p:Bs) (h:2≤(partsL p).length):parentL p=some (ofL (partsL p).dropLast):=by
 unfold parentL;rw [if_neg (by omega)]
set_option maxHeartbeats 400000 in
theorem Parent_any (p:ByteArray) (w:World) (hG:GL w) (hp:p.size≤maxLen) :
  Calls Tryz.prog 197 #[.string p] w fun e w'=>e=.returned (.tuple #[.string (optS (parentL p.data.toList)), .bool (parentL p.data.toList).isSome])∧Ext w w':=by
 have HPt:=Lib.hid (Parts_any p w hG hp)
 by_cases hn:2≤(partsL p.data.toList).length
 ·go_enter Tryz.func197,Tryz.ntmps197
  go_wp2_with (fail)
  refine HPt.out.mono ?_
  rintro e w1 ⟨v,ps,rfl,hps,hst,hx⟩
  have hl:ps.length=(partsL p.data.toList).length:=by rw [← hps];simp
  have h2:2≤ps.length:=by omega
  have h8:ps.length≤8:=by rw [hl];exact parts_len _
  have HPS:=Lib.hid hps
  obtain ⟨a',c',rfl,hcc,hm,hopen⟩:=Strs.open hst
  obtain ⟨b,off,rfl,hb,hc⟩:=hopen (by omega)
  have hd:ps.dropLast.map (·.data.toList)=(partsL p.data.toList).dropLast:=by rw [← hps,List.map_dropLast]
  have hj:47::Lib.join (ps.dropLast.map (·.data.toList)) [47]=ofL (partsL p.data.toList).dropLast:=by
   rw [join_ofL _ (by intro e;have:=congrArg List.length e;simp at this;omega),hd]
  have hjl:=parent_len p.data.toList
  rw [← hj] at hjl
  have hs:Strs w1 (.slice (some ⟨b,off,none⟩) (ps.length - 1) c') ps.dropLast:=by
   have e:ps.length - 1=ps.dropLast.length:=by simp
   rw [e]
   exact Strs.of_cells (by simp;omega) (by simp;omega) hb (fun i hi=>by rw [List.getElem_dropLast];exact hc i _)
  have hcon:=Join_any _ _ _ hs (by simp;omega) (by simp only [List.length_cons] at hjl;omega)
  have HJ:=Lib.hid (parent_some _ hn)
  generalize Lib.join (ps.dropLast.map (·.data.toList)) [47]=J at hj hjl hcon
  have HCON:=Lib.hid hcon
  have HJ2:=Lib.hid hj
  have hjl':J.length≤199:=by simp only [List.length_cons] at hjl;omega
  clear hl hps hst hopen hn hc hj hjl hcon hs hd
  go_wp2_with (fail)
  refine HCON.out.mono ?_
  rintro e w2 ⟨rfl,hx2⟩
  go_wp2_with (fail)
  go_ret2
  go_light
  refine ⟨?_,hx.ext hx2⟩
  rw [HJ.out,← HJ2.out]
  show Ending.returned (.tuple #[.string (⟨[47].toArray⟩++⟨J.toArray⟩), .bool true])=_
  rw [bytes_append];rfl
 ·go_enter Tryz.func197,Tryz.ntmps197
  go_wp2_with (fail)
  refine HPt.out.mono ?_
  rintro e w1 ⟨v,ps,rfl,hps,hst,hx⟩
  have hl:ps.length=(partsL p.data.toList).length:=by rw [← hps];simp
  have h2:ps.length<2:=by omega
  obtain ⟨a',c',rfl,hcc,hm,hopen⟩:=Strs.open hst
  clear hl hps hst hopen
  go_wp2_with (fail)
  go_ret2
  exact ⟨by rw [parent_none _ (by omega)];rfl,hx⟩
end Go.Proofs.YtnlefnhdhigecaaGreatDoor

namespace Go.Proofs.YtnlefnhdhigecaaGreatDoor
set_option maxRecDepth 100000
open Go.RowKit Av
theorem str_facts:Tryz.prog.underlying 36=some (.slice 9)∧(Tryz.prog.info? 9).map (fun i=>(i.zero.map fun z=>z.cells.size,i.size,decide (i.bytes≤64)))=some (some 1,1,true):=⟨by kernel_rfl,by kernel_rfl⟩
end Go.Proofs.YtnlefnhdhigecaaGreatDoor

namespace Go.Proofs.YtnlefnhdhigecaaGreatDoor
set_option maxRecDepth 100000
open Go.RowKit Av
end Go.Proofs.YtnlefnhdhigecaaGreatDoor

namespace Go.Proofs.YtnlefnhdhigecaaGreatDoor
set_option maxRecDepth 100000
open Go.RowKit Av
end Go.Proofs.YtnlefnhdhigecaaGreatDoor

namespace Go.Proofs.YtnlefnhdhigecaaGreatDoor
set_option maxRecDepth 100000
open Go.RowKit Av
structure GT (w:World):Prop where
 gl:GL w
 tab : Lib.TabIs Tryz.prog w "internal/strconv.uint64pow10" .u64 Lib.pow10Tab
theorem var_ext {P:Program} {w w':World} {n:String} {cs:Array Value} (h:w.var? P n=some cs) (k:Ext w w'):w'.var? P n=some cs:=by
 unfold World.var? at *
 cases hg:P.globalNamed n with
 | none=>rw [hg] at h;cases h
 | some g=>
   rw [hg] at h
   simp only [Option.bind_some] at h ⊢
   cases hb:w.heap[g]? with
   | none=>rw [hb] at h;cases h
   | some o=>rw [k.obj hb (fun f=>f)];rwa [hb] at h
theorem GT.ext {w w':World} (h:GT w) (k:Ext w w'):GT w':=⟨h.gl.ext k,var_ext h.tab k⟩
theorem path_small (p:ByteArray) (h:goodL p.data.toList=true):p.size≤200:=by rw [Lib.size_eq];exact (good_len _ h).2
theorem Itoa_any (n:Int) (h0:0≤n) (h1:n≤2147483647) (w:World) (hG:GT w) :
  Calls Tryz.prog 219 #[.int .i64 n] w fun e w'=>e=.returned (.string ⟨(Lib.decDigits n.toNat).toArray⟩)∧Ext w w':=by
 refine (Tryz.strconv_Itoa n (by omega) (by omega) w hG.tab).mono ?_
 rintro e w' ⟨rfl,k,os,rfl⟩
 refine ⟨ret_val ?_, ?_⟩
 ·rw [Lib.itoa,if_neg (by omega)]
 ·refine ⟨rfl,rfl,rfl,by simp [Go.Sort.grow],fun j hj _=>?_⟩
  simp only [Go.Sort.grow]
  exact Array.getElem?_append_left hj
theorem Repeat_any (c:Int) (h0:0≤c) (h1:c≤10) (w:World) :
  Calls Tryz.prog 224 #[.string ⟨#[48]⟩, .int .i64 c] w fun e w'=>e=.returned (.string ⟨(List.replicate c.toNat (48:UInt8)).toArray⟩)∧Ext w w':=by
 obtain ⟨k,rfl⟩:=Int.eq_ofNat_of_zero_le h0
 refine (Tryz.strings_Repeat ⟨#[48]⟩ k w (by omega) (by show 1*k≤_;omega)).mono ?_
 rintro e w' ⟨rfl,hb⟩
 refine ⟨ret_val ?_,Kp.of_below hb⟩
 rw [show (⟨#[48]⟩:ByteArray).data.toList=List.replicate 1 48 from rfl,Lib.repeatL_replicate,Nat.mul_one]
 rfl
theorem last_of {p:Bs} {ps:List ByteArray} (h:ps.map (·.data.toList)=partsL p) (h0:ps.length - 1<ps.length):(⟨(lastL p).toArray⟩:ByteArray)=ps[ps.length - 1]:=by
 have:lastL p=ps[ps.length - 1].data.toList:=by
  unfold lastL
  rw [← h,List.getLastD_eq_getLast?,List.getLast?_eq_getElem?,List.length_map,List.getElem?_map,List.getElem?_eq_getElem h0]
  rfl
 rw [this,bytes_self]
theorem last_nil {p:Bs} {ps:List ByteArray} (h:ps.map (·.data.toList)=partsL p) (h0:ps.length=0):lastL p=[]:=by
 unfold lastL
 rw [← h,List.eq_nil_of_length_eq_zero h0];rfl
set_option maxHeartbeats 400000 in
theorem pathName_any (p:ByteArray) (w:World) (hG:GL w) (hp:p.size≤maxLen) :
  Calls Tryz.prog 200 #[.string p] w fun e w'=>e=.returned (.string ⟨(lastL p.data.toList).toArray⟩)∧Ext w w':=by
 have HPt:=Lib.hid (Parts_any p w hG hp)
 go_enter Tryz.func200,Tryz.ntmps200
 go_wp2_with (fail)
 refine HPt.out.mono ?_
 rintro e w1 ⟨v,ps,rfl,hps,hst,hx⟩
 obtain ⟨a',c',rfl,hcc,hm,hop⟩:=Strs.open hst
 have HO:=Lib.hid hop
 have HPS:=Lib.hid hps
 unfold maxLen at hm
 clear hst hop hps
 by_cases h0:0<ps.length
 ·obtain ⟨b,off,rfl,hb,hc⟩:=HO.out h0
  have hlt:ps.length - 1<ps.length:=by omega
  have hcell:=hc (ps.length - 1) hlt
  have h0':((ps.length:Int) == 0)=false:=by rw [beq_eq_false_iff_ne];omega
  have q1:1≤(ps.length:Int):=by omega
  have e2:((ps.length:Int) - 1).toNat=ps.length - 1:=by omega
  have HL:=Lib.hid (last_of HPS.out hlt)
  clear hc
  go_wp2_with (fail)
  go_ret
  go_light
  exact ⟨ret_val (by rw [HL.out];rfl),hx⟩
 ·have h0':((ps.length:Int) == 0)=true:=by rw [beq_iff_eq];omega
  have HL:=Lib.hid (last_nil HPS.out (by omega))
  go_wp2_with (fail)
  go_ret
  go_light
  exact ⟨ret_val (by rw [HL.out];rfl),hx⟩
def errI (o:Option Bs):Int:=if o.isSome then 0 else 1
set_option maxHeartbeats 400000 in
theorem pathNumber_any (p:ByteArray) (n:Int) (w:World) (hG:GT w) (hp:p.size≤maxLen) :
  Calls Tryz.prog 196 #[.string p, .int .i64 n] w fun e w'=>e=.returned (.tuple #[.string (optS (numberL p.data.toList n)), .int .i64 (errI (numberL p.data.toList n))])∧Ext w w':=by
 have H1:=Lib.hid (Good_any p w hG.gl hp)
 by_cases h0:0≤n
 ·by_cases h1:n≤2147483647
  ·have HI:=Lib.hid (fun w1 (k:Ext w w1)=>Itoa_any n h0 h1 w1 (hG.ext k))
   obtain ⟨hd1,hd2⟩:=dec_len (n:=n.toNat) (by omega)
   have hpad:padL n.toNat=List.replicate (10 - (Lib.decDigits n.toNat).length) 48++Lib.decDigits n.toNat:=rfl
   have hpl:=padL_len (n:=n.toNat) (by omega)
   have HN:Hid (∀ g1 g2,goodL p.data.toList=g1→goodL (p.data.toList++padL n.toNat)=g2→numberL p.data.toList n=if g1&&g2 then some (p.data.toList++padL n.toNat) else none):=by
    show ∀ g1 g2,_→_→_
    rintro g1 g2 rfl rfl
    unfold numberL
    simp [h0,h1]
   obtain ⟨D,hD⟩:∃ D,Lib.decDigits n.toNat=D:=⟨_,rfl⟩
   obtain ⟨Z,hZ⟩:∃ Z,padL n.toNat=Z:=⟨_,rfl⟩
   rw [hD] at hd1 hd2 hpad HI
   rw [hZ] at hpad hpl HN
   have HP:=Lib.hid hpad
   have hsz:(⟨D.toArray⟩:ByteArray).size=D.length:=by simp [ByteArray.size]
   have HSZ:=Lib.hid hsz
   clear hD hZ hpad hsz
   go_enter Tryz.func196,Tryz.ntmps196
   go_wp2_with (fail)
   refine H1.out.mono ?_
   rintro e w1 ⟨rfl,hx1⟩
   cases g1:goodL p.data.toList with
   | false=>
     have hr:=HN.out false _ g1 rfl
     simp only [Bool.false_and,Bool.false_eq_true,if_false] at hr
     have HR:=Lib.hid hr
     clear g1 hr
     go_wp2_with (fail)
     go_ret2
     go_light
     exact ⟨by rw [HR.out];rfl,hx1⟩
   | true=>
     have G1:=Lib.hid g1
     have hql:p.size≤200:=path_small p g1
     clear g1
     go_wp2_with (fail)
     refine (HI.out w1 hx1).mono ?_
     rintro e w2 ⟨rfl,hx2⟩
     go_wp2_with (fail)
     refine (Repeat_any (10 - (D.length:Int)) (by omega) (by omega) w2).mono ?_
     rintro e w3 ⟨rfl,hx3⟩
     rw [show (10 - (D.length:Int)).toNat=10 - D.length by omega]
     obtain ⟨R,hR⟩:∃ R,List.replicate (10 - D.length) (48:UInt8)=R:=⟨_,rfl⟩
     have hrl:R.length=10 - D.length:=by rw [← hR];simp
     have hRl:(⟨R.toArray⟩:ByteArray).size≤10:=by show R.toArray.size≤10;simp;omega
     have hDl:(⟨D.toArray⟩:ByteArray).size≤10:=by show D.toArray.size≤10;simp;omega
     have HC:Hid (p++(⟨R.toArray⟩++⟨D.toArray⟩)=(⟨(p.data.toList++Z).toArray⟩:ByteArray)):=by
      show _=_
      conv=>lhs;rw [← bytes_self p]
      rw [bytes_append,bytes_append,← hR,← HP.out]
     have hRD:(⟨R.toArray⟩++⟨D.toArray⟩:ByteArray).size≤20:=by rw [bytes_append];show (R++D).toArray.size≤20;simp;omega
     have c2:∀ wx,(Op.stringOp .add p (⟨R.toArray⟩++⟨D.toArray⟩)).run Tryz.prog wx=.ok (.string ⟨(p.data.toList++Z).toArray⟩) wx:=fun wx=>by
      rw [run_string_add_sum (P:=Tryz.prog) wx _ _ (by omega),HC.out]
     rw [hR]
     clear hR hrl
     go_wp2_with (fail)
     have hx:=(hx1.ext hx2).ext hx3
     refine (Good_any _ _ (hG.gl.ext hx) (by show (p.data.toList++Z).toArray.size≤_;rw [List.size_toArray,List.length_append,← Lib.size_eq,hpl];unfold maxLen;omega)).mono ?_
     rintro e w4 ⟨rfl,hx4⟩
     rw [show (⟨(p.data.toList++Z).toArray⟩:ByteArray).data.toList=p.data.toList++Z by simp]
     cases g2:goodL (p.data.toList++Z) with
     | false=>
       have hr:=HN.out _ _ G1.out g2
       simp only [Bool.and_false,Bool.false_eq_true,if_false] at hr
       have HR:=Lib.hid hr
       clear g2 hr
       go_wp2_with (fail)
       go_ret2
       go_light
       exact ⟨by rw [HR.out];rfl,hx.ext hx4⟩
     | true=>
       have hr:=HN.out _ _ G1.out g2
       simp only [Bool.and_true,if_true] at hr
       have HR:=Lib.hid hr
       clear g2 hr
       go_wp2_with (fail)
       go_ret2
       go_light
       exact ⟨by rw [HR.out];rfl,hx.ext hx4⟩
  ·have hr:numberL p.data.toList n=none:=by simp [numberL,h1]
   have HR:=Lib.hid hr
   have h1':2147483647<n:=by omega
   clear hr
   go_enter Tryz.func196,Tryz.ntmps196
   go_wp2_with (fail)
   refine H1.out.mono ?_
   rintro e w1 ⟨rfl,hx1⟩
   cases g1:goodL p.data.toList
   all_goals
    clear g1
    go_wp2_with (fail)
    go_ret2
    go_light
    exact ⟨by rw [HR.out];rfl,hx1⟩
 ·have hr:numberL p.data.toList n=none:=by simp [numberL,h0]
  have HR:=Lib.hid hr
  have h0':n<0:=by omega
  clear hr
  go_enter Tryz.func196,Tryz.ntmps196
  go_wp2_with (fail)
  refine H1.out.mono ?_
  rintro e w1 ⟨rfl,hx1⟩
  cases g1:goodL p.data.toList
  all_goals
   clear g1
   go_wp2_with (fail)
   go_ret2
   go_light
   exact ⟨by rw [HR.out];rfl,hx1⟩
end Go.Proofs.YtnlefnhdhigecaaGreatDoor

namespace Go.Proofs.YtnlefnhdhigecaaGreatDoor
set_option maxRecDepth 100000
open Go.RowKit Av
abbrev rsuT:TypeId:=44
def NewPost (w:World) (room:Int) (e:Ending) (w':World):Prop:=∃ b m,e=.returned (.tuple #[.pointer (some ⟨b,0,none⟩), .int .i64 0])∧TreeR w' w.heap.size b m room []∧Ext w w'
set_option maxHeartbeats 800000 in
theorem treeNew_any (room:Int) (w:World) (h1:1≤room) (h2:room≤500):Calls Tryz.prog 14 #[.int .i64 room] w fun e w'=>NewPost w room e w':=by
 have hmm:=@run_makeMap Tryz.prog
 have a1:¬ room<1:=by omega
 have a2:¬ 500<room:=by omega
 go_enter Tryz.func14,Tryz.ntmps14
 go_wp2_with (fail)
 go_ret2
 go_light
 refine ⟨w.heap.size+1,w.heap.size,rfl,⟨⟨by omega,by omega,fun e he=>by (cases he)⟩, ?_, ?_,fun e he=>by (cases he),fun e he=>by (cases he)⟩,((Kp.refl _ _).alloc _).alloc _⟩
 ·have:=heap_alloc_new (w.alloc (.map #[] 0)) (.cells #[.int .i64 room, .map (some w.heap.size)] trT)
  rw [World.size_alloc] at this
  exact this
 ·exact (MapK.new w).kp ((Kp.refl (fun _=>False) _).alloc _) (fun f=>f)
def resA (e:Int) (p d:ByteArray) (nv:Value) (n:NodeV):Value:=.agg #[.int .i64 e, .string p, .string d,nv, .int .i64 n.made, .int .i64 n.chg, .int .i64 n.ver, .int .i64 n.kids, .int .i64 n.own, .int .i64 n.len, .int .i64 n.cnt]
def ndZ:NodeV:=⟨0,0,0,0,0,0,0,⟨#[]⟩,0,[]⟩
set_option maxHeartbeats 800000 in
theorem fail_any (z:Int) (w:World):Calls Tryz.prog 108 #[.int .i64 z] w fun e w'=>e=.returned (resA z ⟨#[]⟩ ⟨#[]⟩ (.slice none 0 0) ndZ)∧Ext w w':=by
 go_enter Tryz.func108,Tryz.ntmps108
 obtain ⟨wA,hWA⟩:∃ wA,w.alloc (.cells #[.int .i64 z, .string ⟨#[]⟩, .string ⟨#[]⟩, .slice none 0 0, .int .i64 0, .int .i64 0, .int .i64 0, .int .i64 0, .int .i64 0, .int .i64 0, .int .i64 0] rsuT)=wA:=⟨_,rfl⟩
 have hxA:Ext w wA:=by rw [← hWA];exact (Kp.refl _ _).alloc _
 have hA:Blk wA w.heap.size #[.int .i64 z, .string ⟨#[]⟩, .string ⟨#[]⟩, .slice none 0 0, .int .i64 0, .int .i64 0, .int .i64 0, .int .i64 0, .int .i64 0, .int .i64 0, .int .i64 0] rsuT:=by rw [← hWA];exact heap_alloc_new w _
 have g0:=hA.cell 0 _ rfl
 have g1:=hA.cell 1 _ rfl
 have g2:=hA.cell 2 _ rfl
 have g3:=hA.cell 3 _ rfl
 have g4:=hA.cell 4 _ rfl
 have g5:=hA.cell 5 _ rfl
 have g6:=hA.cell 6 _ rfl
 have g7:=hA.cell 7 _ rfl
 have g8:=hA.cell 8 _ rfl
 have g9:=hA.cell 9 _ rfl
 have g10:=hA.cell 10 _ rfl
 have HWA:=Lib.hid hWA
 have HXA:=Lib.hid hxA
 clear hWA hxA hA
 go_wp2_with (fail)
 rw [HWA.out]
 go_light
 exact bodyPost_ret (v:=resA z ⟨#[]⟩ ⟨#[]⟩ (.slice none 0 0) ndZ) (by simp [results,Tryz.results108,go_sem,resA,ndZ,g0,g1,g2,g3,g4,g5,g6,g7,g8,g9,g10]) rfl ⟨rfl,HXA.out⟩
set_option maxHeartbeats 800000 in
theorem wrong_any (k ver f:Int) (p d:ByteArray) (g:Nat) (n:NodeV) (w:World) (h:NdAt w g n):Calls Tryz.prog 154 #[.agg #[.int .i64 k, .string p, .string d, .int .i64 ver, .int .i64 f], .pointer (some ⟨g,0,none⟩)] w fun e w'=>e=.returned (.bool (ver != -1&&ver != n.ver))∧Ext w w':=by
 obtain ⟨nv,hb,_⟩:=h
 obtain ⟨wA,hWA⟩:∃ wA,w.alloc (.cells #[.int .i64 k, .string p, .string d, .int .i64 ver, .int .i64 f] 33)=wA:=⟨_,rfl⟩
 have hxA:Ext w wA:=by rw [← hWA];exact (Kp.refl _ _).alloc _
 have hA:Blk wA w.heap.size #[.int .i64 k, .string p, .string d, .int .i64 ver, .int .i64 f] 33:=by rw [← hWA];exact heap_alloc_new w _
 have H3:=Lib.hid (hA.cell 3 _ rfl)
 have HV:=Lib.hid ((hb.kp hxA (fun f=>f)).cell 2 (.int .i64 n.ver) rfl)
 generalize n.ver=nver at HV ⊢
 have HWA:=Lib.hid hWA
 have HXA:=Lib.hid hxA
 clear hWA hxA hA hb
 go_enter Tryz.func154,Tryz.ntmps154
 go_upto_region 1 with (fail)
 rw [HWA.out]
 by_cases h1:ver=-1
 ·have E1:Hid ((ver != -1)=false):=by show _=_;rw [h1];rfl
  clear h1
  refine' wp_region_dag0 ((5, .val _)::(6, .val _)::(7, .val _)::(8, .val _)::(9, .val _)::(10, .val _)::(11, .val _)::(12, .val _)::(13, .val _)::(14, .val _)::(15, .val _)::(16, .val _)::(17, .val _)::(4, .val _)::[]) (by exact ⟨fun _ _ _ _ _=>trivial,⟨fun _ _ _ _ _=>trivial,⟨fun _ _ _ _ _=>trivial,⟨fun _ _ _ _ _=>trivial,⟨fun _ _ _ _ _=>trivial,⟨fun _ _ _ _ _=>trivial,⟨fun _ _ _ _ _=>trivial,⟨fun _ _ _ _ _=>trivial,⟨fun _ _ _ _ _=>trivial,⟨fun _ _ _ _ _=>trivial,⟨fun _ _ _ _ _=>trivial,⟨fun _ _ _ _ _=>trivial,⟨fun _ _ _ _ _=>trivial,⟨fun _ _ _ _ _=>trivial,trivial⟩⟩⟩⟩⟩⟩⟩⟩⟩⟩⟩⟩⟩⟩) (by kernel_rfl) (by kernel_rfl) (by kernel_rfl) ?_
  rotate_left 14
  repeat (first
   | (refine wpD_skipv ?_ ?_ ?_
      focus rfl
      focus rfl
      simp only [Act.put,List.setIfInBounds_toArray,List.set_cons_succ,List.set_cons_zero])
   | (refine' wpD_val (c:=_) ?_ (fun w=>Kp.refl _ w) ?_ (fun wq hwq hfq=>?_) ?_
      rotate_left
      focus rfl
      focus rfl
      focus ((have h3:=hwq.cell H3.out (fun f=>f);have e1:=E1.out);go_simp;first|done|rfl)
      simp only [Act.put,List.setIfInBounds_toArray,List.set_cons_succ,List.set_cons_zero])
   | (refine' wpD_con (c:=_) ?_ ?_ (fun wq hwq hfq=>?_) ?_
      rotate_left
      focus rfl
      focus rfl
      focus ((have h3:=hwq.cell H3.out (fun f=>f);have e1:=E1.out);go_simp;(try (rw [dUpon_enter]));fail)
      simp only [Act.put,List.setIfInBounds_toArray,List.set_cons_succ,List.set_cons_zero])
   | fail)
  refine wpD_nil ?_
  intro w5 hx5 hend
  clear hend
  have HX5:=Lib.hid (HXA.out.ext hx5)
  clear hx5
  go_wp2_with (fail)
  go_ret
  go_light
  exact ⟨ret_bool (by rw [E1.out];rfl),HX5.out⟩
 ·have E1:Hid ((ver != -1)=true):=by show _=_;simpa using h1
  clear h1
  refine' wp_region_dag0 ((5, .val _)::(6, .val _)::(7, .val _)::(8, .val _)::(9, .val _)::(10, .val _)::(11, .val _)::(12, .val _)::(13, .val _)::(14, .val _)::(15, .val _)::(16, .val _)::(17, .val _)::(4, .val _)::[]) (by exact ⟨fun _ _ _ _ _=>trivial,⟨fun _ _ _ _ _=>trivial,⟨fun _ _ _ _ _=>trivial,⟨fun _ _ _ _ _=>trivial,⟨fun _ _ _ _ _=>trivial,⟨fun _ _ _ _ _=>trivial,⟨fun _ _ _ _ _=>trivial,⟨fun _ _ _ _ _=>trivial,⟨fun _ _ _ _ _=>trivial,⟨fun _ _ _ _ _=>trivial,⟨fun _ _ _ _ _=>trivial,⟨fun _ _ _ _ _=>trivial,⟨fun _ _ _ _ _=>trivial,⟨fun _ _ _ _ _=>trivial,trivial⟩⟩⟩⟩⟩⟩⟩⟩⟩⟩⟩⟩⟩⟩) (by kernel_rfl) (by kernel_rfl) (by kernel_rfl) ?_
  rotate_left 14
  repeat (first
   | (refine wpD_skipv ?_ ?_ ?_
      focus rfl
      focus rfl
      simp only [Act.put,List.setIfInBounds_toArray,List.set_cons_succ,List.set_cons_zero])
   | (refine' wpD_val (c:=_) ?_ (fun w=>Kp.refl _ w) ?_ (fun wq hwq hfq=>?_) ?_
      rotate_left
      focus rfl
      focus rfl
      focus ((have h3:=hwq.cell H3.out (fun f=>f);have hv:=hwq.cell HV.out (fun f=>f);have e1:=E1.out);go_simp;first|done|rfl)
      simp only [Act.put,List.setIfInBounds_toArray,List.set_cons_succ,List.set_cons_zero])
   | (refine' wpD_con (c:=_) ?_ ?_ (fun wq hwq hfq=>?_) ?_
      rotate_left
      focus rfl
      focus rfl
      focus ((have h3:=hwq.cell H3.out (fun f=>f);have hv:=hwq.cell HV.out (fun f=>f);have e1:=E1.out);go_simp;(try (rw [dUpon_enter]));fail)
      simp only [Act.put,List.setIfInBounds_toArray,List.set_cons_succ,List.set_cons_zero])
   | fail)
  refine wpD_nil ?_
  intro w5 hx5 hend
  clear hend
  have HX5:=Lib.hid (HXA.out.ext hx5)
  clear hx5
  go_wp2_with (fail)
  go_ret
  go_light
  exact ⟨ret_bool (by rw [E1.out];rfl),HX5.out⟩
end Go.Proofs.YtnlefnhdhigecaaGreatDoor

