/- Texts put together: AvScrH, AvStabP. -/
import Derived.Test.YtnlefnhdhigecaaGreatDoorAvG30
import Derived.Test.YtnlefnhdhigecaaGreatDoorAvG12
namespace Go.Proofs.YtnlefnhdhigecaaGreatDoor
set_option maxRecDepth 100000
open Go.RowKit Av
theorem SplitG_any (d:UInt8) (q:Bs) (w:World) (hG:GL w) (hq:q.length<4294967281) :
  Calls Tryz.prog 121 #[.string (bA q), .string ⟨#[d]⟩] w fun e w'=>∃ b:Nat,e=.returned (.slice (some ⟨b,0,none⟩) (cutG d q).length (cutG d q).length)∧w.heap.size≤b∧
   (∀ i (hi:i<(cutG d q).length),w'.cell? ⟨b,i,none⟩=some (encStr (cutG d q)[i]))∧(cutG d q).length≤q.length+1∧Ext w w':=by
 obtain ⟨m,hm⟩:=hG
 refine (Tryz.strings_Split (bA q) ⟨#[d]⟩ m w (by rw [bA_size];exact hq) hm (Nat.le_refl 1)).mono ?_
 rintro e w' ⟨rfl,rfl⟩
 have hc:Lib.countB (bA q) ⟨#[d]⟩=q.count d:=Lib.count_one d q
 have hl:=Lib.splitB_all ⟨#[d]⟩ (Nat.le_refl 1) 0 _ (bA q) rfl
 have hd:=Lib.splitB_data ⟨#[d]⟩ 0 (Lib.countB (bA q) ⟨#[d]⟩) (bA q)
 have hs:Lib.splitK [d] 0 (q.count d) q=cutG d q:=splitK_cutG d q _ rfl
 have hlen:=cutG_length d q
 rw [hc] at hl hd
 rw [show (⟨#[d]⟩:ByteArray).data.toList=[d] from rfl,show (bA q).data.toList=q from rfl,hs] at hd
 rw [hc,← hlen]
 generalize Lib.splitB ⟨#[d]⟩ 0 (q.count d) (bA q)=ps at hl hd ⊢
 refine ⟨w.heap.size,rfl,Nat.le_refl _, ?_, ?_,(Kp.refl _ _).alloc _⟩
 ·intro i hi
  have hi2:i<ps.length:=by rw [hl,← hlen];exact hi
  have he:(cutG d q)[i]=ps[i].data.toList:=by
   have:(ps.map (·.data.toList))[i]? = (cutG d q)[i]?:=by rw [hd]
   rw [List.getElem?_eq_getElem hi,List.getElem?_map,List.getElem?_eq_getElem hi2] at this
   exact (Option.some.inj this).symm
  rw [he]
  refine (World.cell?_alloc_new _ _ _ _).trans ?_
  show _=some (Value.string (bA ps[i].data.toList))
  rw [show bA ps[i].data.toList=ps[i] from bytes_self _]
  simp [hi2]
 ·rw [hlen]
  have:=List.count_le_length (a:=d) (l:=q)
  omega
def ActsAt (w:World) (vs:List Value) (l:List SAct):Prop:=vs.length=l.length∧∀ i (h:i<l.length),∃ x,vs[i]? = some x∧ClosAt w x (some l[i])
theorem ActsAt.kp {S:Nat→Prop} {w w':World} {vs:List Value} {l:List SAct} (h:ActsAt w vs l) (k:Kp S w w') (hS:∀ i,S i→∃ cur f,w.heap[i]? = some (.cells cur fnT f)):ActsAt w' vs l:=by
 refine ⟨h.1,fun i hi=>?_⟩
 obtain ⟨x,h1,h2⟩:=h.2 i hi
 exact ⟨x,h1,h2.kp k hS⟩
theorem ActsAt.ext {w w':World} {vs:List Value} {l:List SAct} (h:ActsAt w vs l) (k:Ext w w'):ActsAt w' vs l:=h.kp k (fun _ f=>f.elim)
theorem ActsAt.snoc {w:World} {vs:List Value} {l:List SAct} {x:Value} {a:SAct} (h:ActsAt w vs l) (hx:ClosAt w x (some a)):ActsAt w (vs++[x]) (l++[a]):=by
 refine ⟨by rw [List.length_append,List.length_append,h.1];rfl,fun i hi=>?_⟩
 by_cases e:i<l.length
 ·obtain ⟨y,h1,h2⟩:=h.2 i e
  refine ⟨y, ?_, ?_⟩
  ·rw [List.getElem?_append_left (by rw [h.1];exact e)];exact h1
  ·rw [List.getElem_append_left e];exact h2
 ·have e2:i=l.length:=by rw [List.length_append] at hi;simp at hi;omega
  subst e2
  refine ⟨x, ?_, ?_⟩
  ·rw [← h.1,List.getElem?_append_right (Nat.le_refl _),Nat.sub_self];rfl
  ·rw [List.getElem_append_right (Nat.le_refl _)];simpa using hx
def bigT (t:Bs):Prop:=16384<t.length∨400<(linesT t).length
def ParPost (w:World) (t:Bs) (e:Ending) (w':World):Prop:=Ext w w'∧((bigT t∧e=.returned (.tuple #[.slice none 0 0, .int .i64 2]))∨(¬ bigT t∧actsT (linesT t)=none∧e=.returned (.tuple #[.slice none 0 0, .int .i64 13]))∨
 (¬ bigT t∧∃ l v vs,actsT (linesT t)=some l∧e=.returned (.tuple #[v, .int .i64 0])∧Sl w' 1 v l.length vs∧ActsAt w' vs l))
theorem acts_take {L:List Bs} {k:Nat} {acts:List SAct} (hk:k<L.length) (h:actsT (L.take k)=some acts):actsT (L.take (k+1))=(actsT [L[k]]).map (acts++·):=by
 rw [List.take_succ_eq_append_getElem hk,acts_app,h]
theorem acts_bad {L:List Bs} {k:Nat} {acts:List SAct} (hk:k<L.length) (h:actsT (L.take k)=some acts) (hb:actsT [L[k]]=none):actsT L=none:=by
 have h1:=acts_take hk h
 rw [hb] at h1
 rw [← List.take_append_drop (k+1) L,acts_app,h1]
 rfl
theorem acts_skip {x:Bs} (h:wordsT x=[]):actsT [x]=some []:=by rw [acts_cons,if_pos h];rfl
theorem acts_none {x:Bs} (h:wordsT x≠[]) (h2:lineR (wordsT x)=none):actsT [x]=none:=by rw [acts_cons,if_neg h,h2]
theorem acts_one {x:Bs} {a:SAct} (h:wordsT x≠[]) (h2:lineR (wordsT x)=some a):actsT [x]=some [a]:=by rw [acts_cons,if_neg h,h2];rfl
theorem rdr_of {w:World} {rb base:Nat} {va:Option Addr} {vc:Nat} {ws:List Bs} (hb:Blk w rb #[.slice va ws.length vc, .bool false] rdT) (ho:w.ownsRow base 9 1 (.slice va ws.length vc) ws.length (ws.map encStr)) (hrb:rb<base) (hn:ws.length≤1000000):RdrAt w rb w.heap.size (ws,false):=by
 obtain ⟨a,c,e,hcc,hm,_,hop⟩:=Sl.open (Sl.of_owns ho)
 cases e
 refine ⟨va,vc,hb,hcc,hn,fun h0=>?_⟩
 obtain ⟨q,off,e2,hq,hc⟩:=hop h0
 subst e2
 refine ⟨q,off,rfl,⟨?_,hq⟩,fun k hk=>hc k _ (by rw [List.getElem?_map,List.getElem?_eq_getElem hk];rfl)⟩
 have h9:=(own_in ho rfl).1
 intro e
 have e3:q=rb:=e
 have h10:base≤q:=h9
 omega
theorem clos_func {w:World} {v:Value} {a:SAct} (h:ClosAt w v (some a)):∃ f b c,v=.func f b c:=by
 match a,h with
 | .opn n,⟨g,h1,_⟩=>exact ⟨_,_,_,h1⟩
 | .cls n,⟨g,h1,_⟩=>exact ⟨_,_,_,h1⟩
 | .tick,h=>exact ⟨_,_,_,h⟩
 | .ask a b ops,⟨g,u,h1,_⟩=>exact ⟨_,_,_,h1⟩
 | .watch n p q,⟨g1,g2,g3,h1,_⟩=>exact ⟨_,_,_,h1⟩
 | .evs n,⟨g,h1,_⟩=>exact ⟨_,_,_,h1⟩
 | .paths,h=>exact ⟨_,_,_,h⟩
theorem acts_len_aux:∀ (L:List Bs) (l:List SAct),actsT L=some l→l.length≤L.length
 | [],l,h=>by cases h;exact Nat.le_refl _
 | x::L,l,h=>by
   rw [acts_cons] at h
   split at h
   ·exact Nat.le_trans (acts_len_aux L l h) (Nat.le_succ _)
   ·split at h
    ·cases h
    ·cases hm:actsT L with
     | none=>rw [hm] at h;cases h
     | some m=>
       rw [hm] at h
       cases h
       exact Nat.succ_le_succ (acts_len_aux L m hm)
theorem acts_len {L:List Bs} {k:Nat} {l:List SAct} (h:actsT (L.take k)=some l):l.length≤L.length:=by
 have h1:=acts_len_aux _ _ h
 rw [List.length_take] at h1
 omega
theorem fn_facts:Tryz.prog.underlying 168=some (.slice fnT)∧(Tryz.prog.info? fnT).map (fun i=>(i.zero.map fun z=>z.cells.size,i.size,decide (i.bytes≤64)))=some (some 1,1,true):=⟨by kernel_rfl,by kernel_rfl⟩
def ParRel (w1:World) (L:List Bs) (s5 s36:Value) (wr:World):Prop:=∃ (k:Nat) (acts:List SAct) (vs:List Value),k≤L.length∧s36=.int .i64 k∧actsT (L.take k)=some acts∧wr.ownsRow w1.heap.size fnT 1 s5 acts.length vs∧ActsAt wr vs acts∧Ext w1 wr
def fW (W:List Bs) (j:Nat):List Bs:=(W.take j).filter fun s=>!s.isEmpty
def InRel (w2:World) (rb:Nat) (W:List Bs) (s45:Value) (wr:World):Prop:=∃ (j:Nat) (v3:Value),j≤W.length∧s45=.int .i64 j∧Blk wr rb #[v3, .bool false] rdT∧wr.ownsRow w2.heap.size 9 1 v3 (fW W j).length ((fW W j).map encStr)∧Kp (fun i=>i=rb) w2 wr
theorem fW_skip {W:List Bs} {j:Nat} (hj:j<W.length) (h:W[j]=[]):fW W (j+1)=fW W j:=by
 unfold fW
 rw [List.take_succ_eq_append_getElem hj,List.filter_append,h]
 simp
theorem fW_add {W:List Bs} {j:Nat} (hj:j<W.length) (h:W[j]≠[]):fW W (j+1)=fW W j++[W[j]]:=by
 unfold fW
 rw [List.take_succ_eq_append_getElem hj,List.filter_append]
 have:(!W[j].isEmpty)=true:=by simpa using h
 simp [this]
theorem fW_len (W:List Bs) (j:Nat):(fW W j).length≤j:=by
 unfold fW
 have h1:=List.length_filter_le (fun s:Bs=>!s.isEmpty) (W.take j)
 rw [List.length_take] at h1
 omega
theorem fW_all (x:Bs):fW (cutG 32 x) (cutG 32 x).length=wordsT x:=by
 unfold fW wordsT
 rw [List.take_length]
theorem play_some (r:RdS) (h:(playR r).1=none):(playR r).2.2=true:=by
 unfold playR at h ⊢
 simp only at h ⊢
 repeat' split at h
 all_goals first|cases h|skip
 simp_all
set_option maxHeartbeats 6400000 in
theorem parse_any (t:Bs) (w:World) (hG:GL w) (ht:t.length<4294967281):Calls Tryz.prog 104 #[.string (bA t)] w (ParPost w t):=by
 have HS:=Lib.hid (SplitG_any 10 t w hG ht)
 have HG:=Lib.hid hG
 have hts:(bA t).size=t.length:=bA_size t
 go_enter Tryz.func104,Tryz.ntmps104
 go_wp2_with (fail)
 refine HS.out.mono ?_
 rintro e w1 ⟨b,rfl,_,hc,hlen,hx⟩
 obtain ⟨n,hn⟩:∃ n,(cutG 10 t).length=n:=⟨_,rfl⟩
 have hn1:1≤n:=by rw [← hn,cutG_length];omega
 have hn2:n≤4294967282:=by omega
 have hlast:=hc (n - 1) (by omega)
 obtain ⟨z,hz⟩:∃ z,(cutG 10 t)[n - 1]'(by omega)=z:=⟨_,rfl⟩
 have hgl:(cutG 10 t).getLast (cutG_ne 10 t)=z:=by
  rw [List.getLast_eq_getElem,← hz]
  congr 1
  omega
 rw [hz] at hlast
 change w1.cell? _=some (Value.string (bA z)) at hlast
 have hzs:(bA z).size=z.length:=bA_size z
 have HLL0:Hid (∀ x∈cutG 10 t,x.length≤t.length):=cutG_len_le 10 t
 have HC:=Lib.hid hc
 have HX:=Lib.hid hx
 have HL:=Lib.hid hlen
 have HN:=Lib.hid hn
 have HGL:=Lib.hid hgl
 rw [hn]
 clear hc hx hlen hn hz hgl HS hG ht
 by_cases h0:z=[]
 ·have q:((bA z).toList == [])=true:=by rw [bA_beq];exact decide_eq_true h0
  obtain ⟨L,hL⟩:∃ L,linesT t=L:=⟨_,rfl⟩
  have hd:L=(cutG 10 t).dropLast:=by rw [← hL];unfold linesT;rw [if_pos (by rw [HGL.out];exact h0)]
  have hll:L.length=n - 1:=by rw [hd,List.length_dropLast,HN.out]
  have HCL:Hid (∀ k (hk:k<L.length),w1.cell? ⟨b,k,none⟩=some (encStr L[k])):=by
   intro k hk
   have h1:=HC.out k (by rw [HN.out];omega)
   rw [h1]
   congr 2
   simp only [hd,List.getElem_dropLast]
  have HLL:Hid (∀ x∈L,x.length≤t.length):=fun x hx=>HLL0.out x (by rw [hd] at hx;exact List.dropLast_subset _ hx)
  have HLD:=Lib.hid hL
  clear h0 hL hd HC HGL HLL0
  go_upto_region 4 with (fail)
  have hlq:L.length≤4294967282:=by omega
  rw [← hll]
  clear hll hn1 hn2
  by_cases hb1:16384<t.length
  ·go_wp2_with (fail)
   go_ret2
   exact ⟨HX.out, .inl ⟨.inl hb1,rfl⟩⟩
  by_cases hb2:400<L.length
  ·go_wp2_with (fail)
   go_ret2
   exact ⟨HX.out, .inl ⟨.inr (by rw [HLD.out];exact hb2),rfl⟩⟩
  have HNB:Hid (¬ bigT t):=fun h=>by
   rcases h with h|h
   ·exact hb1 h
   ·rw [HLD.out] at h;exact hb2 h
  have HT1:Hid (t.length≤16384):=Nat.le_of_not_lt hb1
  go_wp2_with (fail)
  clear hb1
  go_loopw [5,36] (fun s5 s36 wr=>ParRel w1 L s5 s36 wr) (fun _ s36 _=>L.length - (intOf s36).toNat)
  case atStart=>exact ⟨0,[],[],Nat.zero_le _,rfl,rfl,⟨rfl, .inl ⟨rfl,rfl⟩⟩,⟨rfl,fun i h=>absurd h (Nat.not_lt_zero i)⟩,Kp.refl _ _⟩
  case round=>
   obtain ⟨k,acts,vs,hk,rfl,hacts,how,hat,hxr⟩:=hrel
   have HOW:=Lib.hid how
   have HAT:=Lib.hid hat
   have HXR:=Lib.hid hxr
   have HAC:=Lib.hid hacts
   clear how hat hxr hacts
   by_cases hlt:k<L.length
   ·have hc:=HXR.out.cell (HCL.out k hlt) (fun f=>f)
    have hxl:=HLL.out _ (List.getElem_mem hlt)
    obtain ⟨x,hx⟩:∃ x,L[k]=x:=⟨_,rfl⟩
    rw [hx] at hc hxl
    have hxs:(bA x).size=x.length:=bA_size x
    have HXK:=Lib.hid hx
    clear hx
    change wr.cell? _=some (Value.string (bA x)) at hc
    go_upto_region 11 with (fail)
    obtain ⟨wb,hwb⟩:∃ wb,wr.alloc (.cells #[.slice none 0 0, .bool false] rdT)=wb:=⟨_,rfl⟩
    have hxb:Ext wr wb:=by rw [← hwb];exact (Kp.refl (fun _=>False) wr).alloc _
    have hbb:Blk wb wr.heap.size #[.slice none 0 0, .bool false] rdT:=by rw [← hwb];exact heap_alloc_new wr _
    rw [hwb]
    have HXB:=Lib.hid hxb
    have HBB:=Lib.hid hbb
    have HSP:=Lib.hid (SplitG_any 32 x wb (((HG.out.ext HX.out).ext HXR.out).ext hxb) (by have:=HT1.out;omega))
    have HXL:=Lib.hid hxl
    clear hwb hxb hbb hc hxs hxl
    go_wp2_with (fail)
    refine HSP.out.mono ?_
    rintro e w2 ⟨b2,rfl,hb2,hc2,hl2,hx2⟩
    have HRB:Hid (wr.heap.size<w2.heap.size):=Nat.lt_of_lt_of_le HBB.out.lt hx2.size
    have HNB2:Hid (b2≠wr.heap.size):=by have:=HBB.out.lt;show b2≠_;omega
    obtain ⟨W,hW⟩:∃ W,cutG 32 x=W:=⟨_,rfl⟩
    rw [hW] at hc2 hl2 ⊢
    have hwl:W.length≤16385:=by have:=HT1.out;have:=HXL.out;omega
    have HC2:=Lib.hid hc2
    have HX2:=Lib.hid hx2
    have HB2:=Lib.hid (HBB.out.kp hx2 (fun f=>f))
    have HW:=Lib.hid hW
    clear hb2 hc2 hl2 hx2 hW HSP
    obtain ⟨wo,hwo⟩:∃ wo:World,wo=wr:=⟨_,rfl⟩
    rw [← hwo] at HRB HNB2 HB2
    rw [← hwo]
    obtain ⟨rb,hrb⟩:∃ rb,wo.heap.size=rb:=⟨_,rfl⟩
    rw [hrb] at HRB HNB2 HB2
    rw [hrb]
    have HRX:=Lib.hid hrb
    have HWO:=Lib.hid hwo
    clear hwo hrb
    go_wp2_with (fail)
    go_loopw [45] (fun s45 wi=>InRel w2 rb W s45 wi) (fun s45 _=>W.length - (intOf s45).toNat)
    case atStart=>exact ⟨0, .slice none 0 0,Nat.zero_le _,rfl,HB2.out,⟨rfl, .inl ⟨rfl,rfl⟩⟩,Kp.refl _ _⟩
    case round=>
     obtain ⟨j,v3,hj,rfl,hb3,how3,hk3⟩:=hrel
     have HB3:=Lib.hid hb3
     have HO3:=Lib.hid how3
     have HK3:=Lib.hid hk3
     obtain ⟨va,vc,rfl⟩:=owns_slice how3
     clear hb3 how3 hk3
     by_cases hlt2:j<W.length
     ·have hc3:=HK3.out.cell (HC2.out j hlt2) HNB2.out
      have HFS:=Lib.hid (fW_skip hlt2)
      have HFA:=Lib.hid (fW_add hlt2)
      have HFL:=Lib.hid (fW_len W j)
      obtain ⟨y,hy⟩:∃ y,W[j]=y:=⟨_,rfl⟩
      rw [hy] at hc3 HFS HFA
      change wr.cell? _=some (Value.string (bA y)) at hc3
      clear hy
      by_cases hy0:y=[]
      ·have q9:((bA y).toList == [])=true:=by rw [bA_beq];exact decide_eq_true hy0
       have hfs:=Lib.hid (HFS.out hy0)
       clear hy0 HFS HFA
       go_wp2_with (fail)
       go_light
       exact ⟨⟨j+1,_,by omega,by go_num,HB3.out,by rw [hfs.out];exact HO3.out,HK3.out⟩,by simp [intOf];omega⟩
      ·have q9:((bA y).toList == [])=false:=by rw [bA_beq];exact decide_eq_false hy0
       have hfa:=Lib.hid (HFA.out hy0)
       clear hy0 HFS HFA
       have c0:=HB3.out.cell 0 _ rfl
       go_wp2_with (at_builtin;refine wpList_app1 36 9 str_facts rfl _ _ rfl w2.heap.size _ (fW W j).length _ rfl (ownsRow.ext HO3.out ((Kp.refl _ wr).alloc _)) wr.heap.size 1 (encStr y) rfl (Blk.cell (heap_alloc_new wr _) 0 _ rfl) rfl ?c1 ?c2 ?_)
       case c1=>have:=HFL.out;omega
       case c2=>exact Nat.le_trans HK3.out.size ((Kp.refl (fun _=>False) wr).alloc _).size
       intro v' w' h1' h2'
       obtain ⟨va2,vc2,rfl⟩:=owns_slice h1'
       have hb4:=(HB3.out.kp ((Kp.refl (fun _=>False) wr).alloc _) (fun f=>f)).kp h2' (fun e=>by have h9:=(own_in HO3.out e).1;have:=HRB.out;omega)
       have H1:=Lib.hid h1'
       have H2:=Lib.hid ((HK3.out.alloc _).next h2' (fun i hi e=>by have:=(own_in HO3.out e).1;omega))
       have HB4:=Lib.hid hb4
       have d0:=hb4.cell 0 _ rfl
       have f0:=hb4.free 0
       clear hb4 h1' h2' c0
       go_wp2_with (fail)
       go_light
       refine ⟨⟨j+1,_,by omega,by go_num,HB4.out.set 0 _, ?_,H2.out.set1 rb 0 _ rfl⟩,by simp [intOf];omega⟩
       rw [hfa.out,List.length_append,List.map_append]
       exact ownsRow.kp H1.out ((Kp.refl (fun i=>i=rb) w').set1 rb 0 _ rfl) (fun i hi e=>by have h9:=(own_in H1.out hi).1;have:=HRB.out;omega)
     ·have hj2:j=W.length:=by omega
      subst hj2
      have hws:fW W W.length=wordsT x:=by rw [← HW.out];exact fW_all x
      rw [hws] at HO3 HB3
      obtain ⟨ws,hwe⟩:∃ ws,wordsT x=ws:=⟨_,rfl⟩
      have hwn:ws.length≤16385:=by rw [← hwe,← hws];exact Nat.le_trans (fW_len _ _) hwl
      have hsm:SmR (ws,false):=by
       intro s hs
       have h1:s∈cutG 32 x:=by rw [← hwe] at hs;exact (List.mem_filter.1 hs).1
       have:=cutG_len_le 32 x s h1
       have:=HT1.out
       have:=HXL.out
       omega
      rw [hwe] at HO3 HB3
      have HWE:=Lib.hid hwe
      have HSM:=Lib.hid hsm
      have c0:=HB3.out.cell 0 _ rfl
      clear hsm hwe hws
      have hex:=(HXB.out.next HX2.out (fun _ _ f=>f.elim)).next HK3.out (fun i hi e=>by have:=HRX.out;rw [HWO.out] at this;omega)
      have HEX:=Lib.hid hex
      have HE1:=Lib.hid (HXR.out.next hex (fun _ _ f=>f.elim))
      clear hex
      by_cases hw0:ws=[]
      ·subst hw0
       have HSK:=Lib.hid (acts_skip HWE.out)
       go_wp2_with (fail)
       go_light
       refine ⟨⟨k+1,acts,vs,by omega,by go_num, ?_,ownsRow.ext HOW.out HEX.out,HAT.out.ext HEX.out,HE1.out⟩,by simp [intOf];omega⟩
       rw [acts_take hlt HAC.out,HXK.out,HSK.out]
       simp
      ·have hwl0:0<ws.length:=List.length_pos_iff.2 hw0
       have hrd:=rdr_of HB3.out HO3.out HRB.out (by omega)
       have HPL:=Lib.hid (play_any rb wr.heap.size (ws,false) wr hrd HSM.out (Nat.le_refl _) (by show ws.length≤_;omega))
       have HWN:=Lib.hid hw0
       clear hrd hw0
       go_wp2_with (fail)
       refine HPL.out.mono ?_
       rintro e w4 ⟨v,rfl,h4,k4,hcl⟩
       have HE4:=Lib.hid (HE1.out.next k4 (fun i hi e=>by have:=HRX.out;rw [HWO.out] at this;have:=HXR.out.size;omega))
       have HX4:=Lib.hid (HEX.out.next k4 (fun i hi e=>by have:=HRX.out;rw [HWO.out] at this;omega))
       have HPS:=Lib.hid (play_some (ws,false))
       have HLR:Hid (lineR ws=if (playR (ws,false)).2=([],false) then (playR (ws,false)).1 else none):=rfl
       obtain ⟨Y,hY⟩:∃ Y,playR (ws,false)=Y:=⟨_,rfl⟩
       rw [hY] at h4 hcl HPS HLR
       obtain ⟨oa,lw,bd⟩:=Y
       have HCL4:=Lib.hid hcl
       obtain ⟨a4,c4,d0,d1,_,_⟩:=h4.cells
       clear h4 k4 hcl hY HPL c0
       cases bd with
       | true=>
         have HBAD:=Lib.hid (acts_bad hlt HAC.out (by rw [HXK.out];exact acts_none (by rw [HWE.out];exact HWN.out) (by rw [HWE.out,HLR.out];simp)))
         go_wp2_with (fail)
         go_ret2
         exact ⟨HX.out.next HE4.out (fun _ _ f=>f.elim), .inr (.inl ⟨HNB.out,by rw [HLD.out];exact HBAD.out,rfl⟩)⟩
       | false=>
         cases lw with
         | cons l1 l2=>
           have HBAD:=Lib.hid (acts_bad hlt HAC.out (by rw [HXK.out];exact acts_none (by rw [HWE.out];exact HWN.out) (by rw [HWE.out,HLR.out];simp)))
           have hlw:0<(l1::l2).length:=Nat.succ_pos _
           go_wp2_with (fail)
           go_ret2
           exact ⟨HX.out.next HE4.out (fun _ _ f=>f.elim), .inr (.inl ⟨HNB.out,by rw [HLD.out];exact HBAD.out,rfl⟩)⟩
         | nil=>
           cases oa with
           | none=>exact absurd (HPS.out rfl) (by simp)
           | some ac=>
             obtain ⟨f1,f2,f3,rfl⟩:=clos_func HCL4.out
             have HONE:=Lib.hid (acts_one (a:=ac) (by rw [HWE.out];exact HWN.out) (by rw [HWE.out,HLR.out];simp) (x:=x))
             have HO4:=Lib.hid (ownsRow.ext HOW.out HX4.out)
             have HA4:=Lib.hid (HAT.out.ext HX4.out)
             have HAL:Hid (acts.length≤L.length):=acts_len HAC.out
             go_wp2_with (at_builtin;refine wpList_app1 168 fnT fn_facts rfl _ _ rfl w1.heap.size _ acts.length vs rfl (ownsRow.ext HO4.out ((Kp.refl _ w4).alloc _)) w4.heap.size 1 (.func f1 f2 f3) rfl (Blk.cell (heap_alloc_new w4 _) 0 _ rfl) rfl ?c1 ?c2 ?_)
             case c1=>have:=HAL.out;omega
             case c2=>exact Nat.le_trans HE4.out.size ((Kp.refl (fun _=>False) w4).alloc _).size
             intro v' w' h1' h2'
             have HE5:=Lib.hid ((HE4.out.alloc _).next h2' (fun i hi e=>by have:=(own_in HO4.out e).1;omega))
             have hk5:Kp (fun k=>u5.ownBlock=some k) w4 w':=((Kp.refl (fun k=>u5.ownBlock=some k) w4).alloc _).next h2' (fun _ _ e=>e)
             have HS5:Hid (∀ i,u5.ownBlock=some i→∃ cur f,w4.heap[i]? = some (.cells cur fnT f)):=fun i hi=>own_type HO4.out hi
             have ha5:=(HA4.out.kp hk5 HS5.out).snoc (HCL4.out.kp hk5 HS5.out)
             have HA5:=Lib.hid ha5
             have H5:=Lib.hid h1'
             clear h1' h2' hk5 ha5
             go_wp2_with (fail)
             go_light
             refine ⟨⟨k+1,acts++[ac],vs++[.func f1 f2 f3],by omega,by go_num, ?_, ?_,HA5.out,HE5.out⟩,by simp [intOf];omega⟩
             ·rw [acts_take hlt HAC.out,HXK.out,HONE.out]
              rfl
             ·rw [List.length_append]
              exact H5.out
   ·have hk2:k=L.length:=by omega
    subst hk2
    have hta:L.take L.length=L:=List.take_length
    rw [hta] at HAC
    go_wp2_with (fail)
    go_ret2
    exact ⟨HX.out.next HXR.out (fun _ _ f=>f.elim), .inr (.inr ⟨HNB.out,acts,_,vs,by rw [HLD.out];exact HAC.out,rfl,Sl.of_owns HOW.out,HAT.out⟩)⟩
 ·have q:((bA z).toList == [])=false:=by rw [bA_beq];exact decide_eq_false h0
  obtain ⟨L,hL⟩:∃ L,linesT t=L:=⟨_,rfl⟩
  have hd:L=cutG 10 t:=by rw [← hL];unfold linesT;rw [if_neg (by rw [HGL.out];exact h0)]
  have hll:L.length=n:=by rw [hd,HN.out]
  have HCL:Hid (∀ k (hk:k<L.length),w1.cell? ⟨b,k,none⟩=some (encStr L[k])):=by
   subst hd
   exact fun k hk=>HC.out k hk
  have HLL:Hid (∀ x∈L,x.length≤t.length):=fun x hx=>HLL0.out x (by rw [hd] at hx;exact hx)
  have HLD:=Lib.hid hL
  clear h0 hL hd HC HGL HLL0
  go_upto_region 4 with (fail)
  subst hll
  have hlq:L.length≤4294967282:=hn2
  clear hn1 hn2
  by_cases hb1:16384<t.length
  ·go_wp2_with (fail)
   go_ret2
   exact ⟨HX.out, .inl ⟨.inl hb1,rfl⟩⟩
  by_cases hb2:400<L.length
  ·go_wp2_with (fail)
   go_ret2
   exact ⟨HX.out, .inl ⟨.inr (by rw [HLD.out];exact hb2),rfl⟩⟩
  have HNB:Hid (¬ bigT t):=fun h=>by
   rcases h with h|h
   ·exact hb1 h
   ·rw [HLD.out] at h;exact hb2 h
  have HT1:Hid (t.length≤16384):=Nat.le_of_not_lt hb1
  go_wp2_with (fail)
  clear hb1
  go_loopw [5,36] (fun s5 s36 wr=>ParRel w1 L s5 s36 wr) (fun _ s36 _=>L.length - (intOf s36).toNat)
  case atStart=>exact ⟨0,[],[],Nat.zero_le _,rfl,rfl,⟨rfl, .inl ⟨rfl,rfl⟩⟩,⟨rfl,fun i h=>absurd h (Nat.not_lt_zero i)⟩,Kp.refl _ _⟩
  case round=>
   obtain ⟨k,acts,vs,hk,rfl,hacts,how,hat,hxr⟩:=hrel
   have HOW:=Lib.hid how
   have HAT:=Lib.hid hat
   have HXR:=Lib.hid hxr
   have HAC:=Lib.hid hacts
   clear how hat hxr hacts
   by_cases hlt:k<L.length
   ·have hc:=HXR.out.cell (HCL.out k hlt) (fun f=>f)
    have hxl:=HLL.out _ (List.getElem_mem hlt)
    obtain ⟨x,hx⟩:∃ x,L[k]=x:=⟨_,rfl⟩
    rw [hx] at hc hxl
    have hxs:(bA x).size=x.length:=bA_size x
    have HXK:=Lib.hid hx
    clear hx
    change wr.cell? _=some (Value.string (bA x)) at hc
    go_upto_region 11 with (fail)
    obtain ⟨wb,hwb⟩:∃ wb,wr.alloc (.cells #[.slice none 0 0, .bool false] rdT)=wb:=⟨_,rfl⟩
    have hxb:Ext wr wb:=by rw [← hwb];exact (Kp.refl (fun _=>False) wr).alloc _
    have hbb:Blk wb wr.heap.size #[.slice none 0 0, .bool false] rdT:=by rw [← hwb];exact heap_alloc_new wr _
    rw [hwb]
    have HXB:=Lib.hid hxb
    have HBB:=Lib.hid hbb
    have HSP:=Lib.hid (SplitG_any 32 x wb (((HG.out.ext HX.out).ext HXR.out).ext hxb) (by have:=HT1.out;omega))
    have HXL:=Lib.hid hxl
    clear hwb hxb hbb hc hxs hxl
    go_wp2_with (fail)
    refine HSP.out.mono ?_
    rintro e w2 ⟨b2,rfl,hb2,hc2,hl2,hx2⟩
    have HRB:Hid (wr.heap.size<w2.heap.size):=Nat.lt_of_lt_of_le HBB.out.lt hx2.size
    have HNB2:Hid (b2≠wr.heap.size):=by have:=HBB.out.lt;show b2≠_;omega
    obtain ⟨W,hW⟩:∃ W,cutG 32 x=W:=⟨_,rfl⟩
    rw [hW] at hc2 hl2 ⊢
    have hwl:W.length≤16385:=by have:=HT1.out;have:=HXL.out;omega
    have HC2:=Lib.hid hc2
    have HX2:=Lib.hid hx2
    have HB2:=Lib.hid (HBB.out.kp hx2 (fun f=>f))
    have HW:=Lib.hid hW
    clear hb2 hc2 hl2 hx2 hW HSP
    obtain ⟨wo,hwo⟩:∃ wo:World,wo=wr:=⟨_,rfl⟩
    rw [← hwo] at HRB HNB2 HB2
    rw [← hwo]
    obtain ⟨rb,hrb⟩:∃ rb,wo.heap.size=rb:=⟨_,rfl⟩
    rw [hrb] at HRB HNB2 HB2
    rw [hrb]
    have HRX:=Lib.hid hrb
    have HWO:=Lib.hid hwo
    clear hwo hrb
    go_wp2_with (fail)
    go_loopw [45] (fun s45 wi=>InRel w2 rb W s45 wi) (fun s45 _=>W.length - (intOf s45).toNat)
    case atStart=>exact ⟨0, .slice none 0 0,Nat.zero_le _,rfl,HB2.out,⟨rfl, .inl ⟨rfl,rfl⟩⟩,Kp.refl _ _⟩
    case round=>
     obtain ⟨j,v3,hj,rfl,hb3,how3,hk3⟩:=hrel
     have HB3:=Lib.hid hb3
     have HO3:=Lib.hid how3
     have HK3:=Lib.hid hk3
     obtain ⟨va,vc,rfl⟩:=owns_slice how3
     clear hb3 how3 hk3
     by_cases hlt2:j<W.length
     ·have hc3:=HK3.out.cell (HC2.out j hlt2) HNB2.out
      have HFS:=Lib.hid (fW_skip hlt2)
      have HFA:=Lib.hid (fW_add hlt2)
      have HFL:=Lib.hid (fW_len W j)
      obtain ⟨y,hy⟩:∃ y,W[j]=y:=⟨_,rfl⟩
      rw [hy] at hc3 HFS HFA
      change wr.cell? _=some (Value.string (bA y)) at hc3
      clear hy
      by_cases hy0:y=[]
      ·have q9:((bA y).toList == [])=true:=by rw [bA_beq];exact decide_eq_true hy0
       have hfs:=Lib.hid (HFS.out hy0)
       clear hy0 HFS HFA
       go_wp2_with (fail)
       go_light
       exact ⟨⟨j+1,_,by omega,by go_num,HB3.out,by rw [hfs.out];exact HO3.out,HK3.out⟩,by simp [intOf];omega⟩
      ·have q9:((bA y).toList == [])=false:=by rw [bA_beq];exact decide_eq_false hy0
       have hfa:=Lib.hid (HFA.out hy0)
       clear hy0 HFS HFA
       have c0:=HB3.out.cell 0 _ rfl
       go_wp2_with (at_builtin;refine wpList_app1 36 9 str_facts rfl _ _ rfl w2.heap.size _ (fW W j).length _ rfl (ownsRow.ext HO3.out ((Kp.refl _ wr).alloc _)) wr.heap.size 1 (encStr y) rfl (Blk.cell (heap_alloc_new wr _) 0 _ rfl) rfl ?c1 ?c2 ?_)
       case c1=>have:=HFL.out;omega
       case c2=>exact Nat.le_trans HK3.out.size ((Kp.refl (fun _=>False) wr).alloc _).size
       intro v' w' h1' h2'
       obtain ⟨va2,vc2,rfl⟩:=owns_slice h1'
       have hb4:=(HB3.out.kp ((Kp.refl (fun _=>False) wr).alloc _) (fun f=>f)).kp h2' (fun e=>by have h9:=(own_in HO3.out e).1;have:=HRB.out;omega)
       have H1:=Lib.hid h1'
       have H2:=Lib.hid ((HK3.out.alloc _).next h2' (fun i hi e=>by have:=(own_in HO3.out e).1;omega))
       have HB4:=Lib.hid hb4
       have d0:=hb4.cell 0 _ rfl
       have f0:=hb4.free 0
       clear hb4 h1' h2' c0
       go_wp2_with (fail)
       go_light
       refine ⟨⟨j+1,_,by omega,by go_num,HB4.out.set 0 _, ?_,H2.out.set1 rb 0 _ rfl⟩,by simp [intOf];omega⟩
       rw [hfa.out,List.length_append,List.map_append]
       exact ownsRow.kp H1.out ((Kp.refl (fun i=>i=rb) w').set1 rb 0 _ rfl) (fun i hi e=>by have h9:=(own_in H1.out hi).1;have:=HRB.out;omega)
     ·have hj2:j=W.length:=by omega
      subst hj2
      have hws:fW W W.length=wordsT x:=by rw [← HW.out];exact fW_all x
      rw [hws] at HO3 HB3
      obtain ⟨ws,hwe⟩:∃ ws,wordsT x=ws:=⟨_,rfl⟩
      have hwn:ws.length≤16385:=by rw [← hwe,← hws];exact Nat.le_trans (fW_len _ _) hwl
      have hsm:SmR (ws,false):=by
       intro s hs
       have h1:s∈cutG 32 x:=by rw [← hwe] at hs;exact (List.mem_filter.1 hs).1
       have:=cutG_len_le 32 x s h1
       have:=HT1.out
       have:=HXL.out
       omega
      rw [hwe] at HO3 HB3
      have HWE:=Lib.hid hwe
      have HSM:=Lib.hid hsm
      have c0:=HB3.out.cell 0 _ rfl
      clear hsm hwe hws
      have hex:=(HXB.out.next HX2.out (fun _ _ f=>f.elim)).next HK3.out (fun i hi e=>by have:=HRX.out;rw [HWO.out] at this;omega)
      have HEX:=Lib.hid hex
      have HE1:=Lib.hid (HXR.out.next hex (fun _ _ f=>f.elim))
      clear hex
      by_cases hw0:ws=[]
      ·subst hw0
       have HSK:=Lib.hid (acts_skip HWE.out)
       go_wp2_with (fail)
       go_light
       refine ⟨⟨k+1,acts,vs,by omega,by go_num, ?_,ownsRow.ext HOW.out HEX.out,HAT.out.ext HEX.out,HE1.out⟩,by simp [intOf];omega⟩
       rw [acts_take hlt HAC.out,HXK.out,HSK.out]
       simp
      ·have hwl0:0<ws.length:=List.length_pos_iff.2 hw0
       have hrd:=rdr_of HB3.out HO3.out HRB.out (by omega)
       have HPL:=Lib.hid (play_any rb wr.heap.size (ws,false) wr hrd HSM.out (Nat.le_refl _) (by show ws.length≤_;omega))
       have HWN:=Lib.hid hw0
       clear hrd hw0
       go_wp2_with (fail)
       refine HPL.out.mono ?_
       rintro e w4 ⟨v,rfl,h4,k4,hcl⟩
       have HE4:=Lib.hid (HE1.out.next k4 (fun i hi e=>by have:=HRX.out;rw [HWO.out] at this;have:=HXR.out.size;omega))
       have HX4:=Lib.hid (HEX.out.next k4 (fun i hi e=>by have:=HRX.out;rw [HWO.out] at this;omega))
       have HPS:=Lib.hid (play_some (ws,false))
       have HLR:Hid (lineR ws=if (playR (ws,false)).2=([],false) then (playR (ws,false)).1 else none):=rfl
       obtain ⟨Y,hY⟩:∃ Y,playR (ws,false)=Y:=⟨_,rfl⟩
       rw [hY] at h4 hcl HPS HLR
       obtain ⟨oa,lw,bd⟩:=Y
       have HCL4:=Lib.hid hcl
       obtain ⟨a4,c4,d0,d1,_,_⟩:=h4.cells
       clear h4 k4 hcl hY HPL c0
       cases bd with
       | true=>
         have HBAD:=Lib.hid (acts_bad hlt HAC.out (by rw [HXK.out];exact acts_none (by rw [HWE.out];exact HWN.out) (by rw [HWE.out,HLR.out];simp)))
         go_wp2_with (fail)
         go_ret2
         exact ⟨HX.out.next HE4.out (fun _ _ f=>f.elim), .inr (.inl ⟨HNB.out,by rw [HLD.out];exact HBAD.out,rfl⟩)⟩
       | false=>
         cases lw with
         | cons l1 l2=>
           have HBAD:=Lib.hid (acts_bad hlt HAC.out (by rw [HXK.out];exact acts_none (by rw [HWE.out];exact HWN.out) (by rw [HWE.out,HLR.out];simp)))
           have hlw:0<(l1::l2).length:=Nat.succ_pos _
           go_wp2_with (fail)
           go_ret2
           exact ⟨HX.out.next HE4.out (fun _ _ f=>f.elim), .inr (.inl ⟨HNB.out,by rw [HLD.out];exact HBAD.out,rfl⟩)⟩
         | nil=>
           cases oa with
           | none=>exact absurd (HPS.out rfl) (by simp)
           | some ac=>
             obtain ⟨f1,f2,f3,rfl⟩:=clos_func HCL4.out
             have HONE:=Lib.hid (acts_one (a:=ac) (by rw [HWE.out];exact HWN.out) (by rw [HWE.out,HLR.out];simp) (x:=x))
             have HO4:=Lib.hid (ownsRow.ext HOW.out HX4.out)
             have HA4:=Lib.hid (HAT.out.ext HX4.out)
             have HAL:Hid (acts.length≤L.length):=acts_len HAC.out
             go_wp2_with (at_builtin;refine wpList_app1 168 fnT fn_facts rfl _ _ rfl w1.heap.size _ acts.length vs rfl (ownsRow.ext HO4.out ((Kp.refl _ w4).alloc _)) w4.heap.size 1 (.func f1 f2 f3) rfl (Blk.cell (heap_alloc_new w4 _) 0 _ rfl) rfl ?c1 ?c2 ?_)
             case c1=>have:=HAL.out;omega
             case c2=>exact Nat.le_trans HE4.out.size ((Kp.refl (fun _=>False) w4).alloc _).size
             intro v' w' h1' h2'
             have HE5:=Lib.hid ((HE4.out.alloc _).next h2' (fun i hi e=>by have:=(own_in HO4.out e).1;omega))
             have hk5:Kp (fun k=>u5.ownBlock=some k) w4 w':=((Kp.refl (fun k=>u5.ownBlock=some k) w4).alloc _).next h2' (fun _ _ e=>e)
             have HS5:Hid (∀ i,u5.ownBlock=some i→∃ cur f,w4.heap[i]? = some (.cells cur fnT f)):=fun i hi=>own_type HO4.out hi
             have ha5:=(HA4.out.kp hk5 HS5.out).snoc (HCL4.out.kp hk5 HS5.out)
             have HA5:=Lib.hid ha5
             have H5:=Lib.hid h1'
             clear h1' h2' hk5 ha5
             go_wp2_with (fail)
             go_light
             refine ⟨⟨k+1,acts++[ac],vs++[.func f1 f2 f3],by omega,by go_num, ?_, ?_,HA5.out,HE5.out⟩,by simp [intOf];omega⟩
             ·rw [acts_take hlt HAC.out,HXK.out,HONE.out]
              rfl
             ·rw [List.length_append]
              exact H5.out
   ·have hk2:k=L.length:=by omega
    subst hk2
    have hta:L.take L.length=L:=List.take_length
    rw [hta] at HAC
    go_wp2_with (fail)
    go_ret2
    exact ⟨HX.out.next HXR.out (fun _ _ f=>f.elim), .inr (.inr ⟨HNB.out,acts,_,vs,by rw [HLD.out];exact HAC.out,rfl,Sl.of_owns HOW.out,HAT.out⟩)⟩
end Go.Proofs.YtnlefnhdhigecaaGreatDoor

namespace Go.Proofs.YtnlefnhdhigecaaGreatDoor
set_option maxRecDepth 100000
open Go.RowKit Av
def dpB (s:Bs):Nat:=(partsL s).length
def St (l m:List Bs):Prop:=m.length=l.length∧∀ k,(m.filter fun s=>decide (dpB s=k))=l.filter fun s=>decide (dpB s=k)
theorem St.refl (l:List Bs):St l l:=⟨rfl,fun _=>rfl⟩
theorem St.trans {l m n:List Bs} (h:St l m) (k:St m n):St l n:=⟨k.1.trans h.1,fun q=>(k.2 q).trans (h.2 q)⟩
theorem St.mem {l m:List Bs} (h:St l m) (x:Bs):x∈m↔x∈l:=by
 have key:∀ n:List Bs,x∈n↔x∈n.filter fun s=>decide (dpB s=dpB x):=fun n=>by rw [List.mem_filter];simp
 rw [key m,key l,h.2]
theorem St.swap (A B:List Bs) (x y:Bs) (h:dpB x≠dpB y):St (A++x::y::B) (A++y::x::B):=by
 refine ⟨by simp,fun k=>?_⟩
 simp only [List.filter_append,List.filter_cons]
 by_cases h1:dpB x=k<;>by_cases h2:dpB y=k<;>simp [h1,h2]
 omega
def gtB (l:List Bs) (i:Nat):Bs:=l.getD i []
theorem gtB_eq {l:List Bs} {i:Nat} (h:i<l.length):gtB l i=l[i]:=by unfold gtB;simp [h]
def swB (l:List Bs) (i:Nat):List Bs:=(l.set (i+1) (gtB l i)).set i (gtB l (i+1))
theorem swB_get (l:List Bs) (i p:Nat) (hi:i+1<l.length):gtB (swB l i) p=if p=i then gtB l (i+1) else if p=i+1 then gtB l i else gtB l p:=by
 have h1:i<l.length:=by omega
 by_cases e1:p=i
 ·subst e1
  rw [if_pos rfl]
  unfold swB
  show (List.set _ _ _).getD p []=_
  rw [List.getD_eq_getElem?_getD,List.getElem?_set_self (by simpa using h1)];rfl
 ·rw [if_neg e1]
  unfold swB
  show (List.set _ _ _).getD p []=_
  rw [List.getD_eq_getElem?_getD,List.getElem?_set_ne (fun e=>e1 e.symm)]
  by_cases e2:p=i+1
  ·subst e2
   rw [if_pos rfl,List.getElem?_set_self hi];rfl
  ·rw [if_neg e2,List.getElem?_set_ne (fun e=>e2 e.symm)]
   unfold gtB
   rw [List.getD_eq_getElem?_getD]
theorem swB_st (l:List Bs) (i:Nat) (hi:i+1<l.length) (h:dpB (gtB l i)≠dpB (gtB l (i+1))):St l (swB l i):=by
 have hl:l=l.take i++gtB l i::gtB l (i+1)::l.drop (i+2):=by
  rw [gtB_eq hi,gtB_eq (show i<l.length by omega),← List.drop_eq_getElem_cons hi,← List.drop_eq_getElem_cons (show i<l.length by omega),List.take_append_drop]
 have hs:swB l i=l.take i++gtB l (i+1)::gtB l i::l.drop (i+2):=by
  unfold swB
  conv=>lhs;rw [show l=l.take i++gtB l i::gtB l (i+1)::l.drop (i+2) from hl]
  have ht:(l.take i).length=i:=by rw [List.length_take];omega
  rw [List.set_append_right _ _ (by omega),List.set_append_right _ _ (by omega),ht]
  simp only [Nat.add_sub_cancel_left,Nat.sub_self,List.set_cons_succ,List.set_cons_zero]
  rw [← hl]
 rw [hs]
 conv=>lhs;rw [hl]
 exact St.swap _ _ _ _ h
def Fall (l:List Bs) (a b:Nat):Prop:=∀ p q,a≤p→p<q→q<b→dpB (gtB l q)≤dpB (gtB l p)
def FallBut (l:List Bs) (a b j:Nat):Prop:=∀ p q,a≤p→p<q→q<b→q≠j→dpB (gtB l q)≤dpB (gtB l p)
theorem Fall.but {l:List Bs} {a i:Nat} (h:Fall l a i):FallBut l a (i+1) i:=fun p q h1 h2 h3 h4=>h p q h1 h2 (by omega)
theorem FallBut.stop {l:List Bs} {a i j:Nat} (h:FallBut l a i j) (hs:j≤a∨dpB (gtB l j)≤dpB (gtB l (j - 1))):Fall l a i:=fun p q h1 h2 h3=>by
 by_cases e:q=j
 ·subst e
  rcases hs with hs|hs
  ·omega
  ·by_cases e2:p=q - 1
   ·rw [e2];exact hs
   ·exact Nat.le_trans hs (h p (q - 1) h1 (by omega) (by omega) (by omega))
 ·exact h p q h1 h2 h3 e
theorem FallBut.step {l:List Bs} {a b j:Nat} (h:FallBut l a b (j+1)) (ha:a≤j) (hb:j+1<b) (hl:b≤l.length) (hlt:dpB (gtB l j)<dpB (gtB l (j+1))):FallBut (swB l j) a b j:=fun p q h1 h2 h3 h4=>by
 rw [swB_get l j p (by omega),swB_get l j q (by omega)]
 rw [if_neg h4]
 by_cases e1:q=j+1
 ·rw [if_pos e1]
  by_cases e2:p=j
  ·rw [if_pos e2];omega
  ·rw [if_neg e2,if_neg (by omega)]
   exact h p j h1 (by omega) (by omega) (by omega)
 ·rw [if_neg e1]
  by_cases e2:p=j
  ·rw [if_pos e2]
   exact h (j+1) q (by omega) (by omega) h3 e1
  ·rw [if_neg e2]
   by_cases e3:p=j+1
   ·rw [if_pos e3]
    exact h j q ha (by omega) h3 e1
   ·rw [if_neg e3]
    exact h p q h1 h2 h3 e1
theorem fall_eq:∀ (l m:List Bs),l.Pairwise (fun x y=>dpB y≤dpB x)→m.Pairwise (fun x y=>dpB y≤dpB x)→(∀ k,(l.filter fun s=>decide (dpB s=k))=m.filter fun s=>decide (dpB s=k))→l=m
 | [],[],_,_,_=>rfl
 | [],y::m,_,_,h=>by have:=h (dpB y);simp at this
 | x::l,[],_,_,h=>by have:=h (dpB x);simp at this
 | x::l,y::m,h1,h2,h=>by
   have hx:x∈y::m:=by
    have:x∈(y::m).filter fun s=>decide (dpB s=dpB x):=by rw [← h];simp
    exact (List.mem_filter.1 this).1
   have hy:y∈x::l:=by
    have:y∈(x::l).filter fun s=>decide (dpB s=dpB y):=by rw [h];simp
    exact (List.mem_filter.1 this).1
   have a1:dpB y≤dpB x:=by
    rcases List.mem_cons.1 hy with e|e
    ·rw [e];exact Nat.le_refl _
    ·exact (List.pairwise_cons.1 h1).1 y e
   have a2:dpB x≤dpB y:=by
    rcases List.mem_cons.1 hx with e|e
    ·rw [e];exact Nat.le_refl _
    ·exact (List.pairwise_cons.1 h2).1 x e
   have he:dpB x=dpB y:=Nat.le_antisymm a2 a1
   have h3:=h (dpB x)
   rw [List.filter_cons,if_pos (by simp),List.filter_cons,if_pos (by simp [he])] at h3
   obtain ⟨e1,e2⟩:=List.cons.injEq _ _ _ _ ▸ h3
   subst e1
   rw [fall_eq l m (List.pairwise_cons.1 h1).2 (List.pairwise_cons.1 h2).2 (fun k=>?_)]
   have h4:=h k
   rw [List.filter_cons,List.filter_cons] at h4
   split at h4
   ·exact (List.cons.injEq _ _ _ _ ▸ h4).2
   ·exact h4
end Go.Proofs.YtnlefnhdhigecaaGreatDoor

