/- Texts put together: AvScrP, AvTreeU, AvFrame, AvActs, AvPackLaw, AvReqArg, AvArg, AvActN. -/
import Derived.Test.YtnlefnhdhigecaaGreatDoorAvG12
import Derived.Lib.SplitLaws
import Derived.Lib.Atoi
import Derived.Lib.ItoaMem
import Derived.Lib.Join
import Derived.Test.YtnlefnhdhigecaaGreatDoorAvG11
import Derived.Test.YtnlefnhdhigecaaGreatDoorAvG8
import Derived.Test.YtnlefnhdhigecaaGreatDoorRows
import Derived.Test.YtnlefnhdhigecaaGreatDoorTie
import Derived.Test.YtnlefnhdhigecaaGreatDoorCards
import Derived.Test.YtnlefnhdhigecaaGreatDoorAvS
import Derived.Test.YtnlefnhdhigecaaGreatDoorAvG1
import Derived.ProofKit
import Derived.OpenShut
import Derived.LaidMore
import Derived.Lay
import Derived.SevenTiedAt
import Derived.HandedShaped
import Derived.Carry
import Derived.ChangeOld
import Derived.SliceStrings
import Derived.WideShapes
import Derived.Laws.BitsLemmas
import Derived.Laws.Bits64
import Derived.Test.YtnlefnhdhigecaaGreatDoorAvG4
namespace Av
set_option maxRecDepth 100000
def cutG (d:UInt8):Bs→List Bs
 | []=>[[]]
 | c::t=>if c=d then []::cutG d t else match cutG d t with
   | h::r=>(c::h)::r
   | []=>[[c]]
theorem cutG_ne (d:UInt8) (l:Bs):cutG d l≠[]:=by
 cases l with
 | nil=>simp [cutG]
 | cons c t=>
   unfold cutG
   split
   ·simp
   ·split<;>simp
theorem cutG_cons (d c:UInt8) (t:Bs):cutG d (c::t)=if c=d then []::cutG d t else match cutG d t with
  | h::r=>(c::h)::r
  | []=>[[c]]:=rfl
theorem cutG_app (d:UInt8) (b:Bs):∀ a:Bs,cutG d (a++d::b)=cutG d a++cutG d b
 | []=>by simp [cutG]
 | c::t=>by
   rw [List.cons_append,cutG_cons,cutG_cons,cutG_app d b t]
   by_cases h:c=d
   ·simp [h]
   ·simp only [h,if_false]
    cases ht:cutG d t with
    | nil=>exact absurd ht (cutG_ne d t)
    | cons x y=>simp
theorem cutG_length (d:UInt8) (l:Bs):(cutG d l).length=l.count d+1:=by
 induction l with
 | nil=>simp [cutG]
 | cons c t ih=>
   unfold cutG
   by_cases h:c=d
   ·subst h;simp [ih]
   ·simp only [h,if_false]
    cases ht:cutG d t with
    | nil=>exact absurd ht (cutG_ne d t)
    | cons a b=>
      rw [ht] at ih
      rw [List.count_cons_of_ne (by simpa using h)]
      simpa using ih
theorem cutG_len_le (d:UInt8) (l:Bs):∀ s∈cutG d l,s.length≤l.length:=by
 induction l with
 | nil=>simp [cutG]
 | cons c t ih=>
   unfold cutG
   intro s hs
   by_cases h:c=d
   ·simp only [h,if_true,List.mem_cons] at hs
    rcases hs with rfl|hs
    ·simp
    ·have:=ih s hs;simp;omega
   ·simp only [h,if_false] at hs
    cases ht:cutG d t with
    | nil=>exact absurd ht (cutG_ne d t)
    | cons a b=>
      rw [ht] at hs
      simp only [List.mem_cons] at hs
      rcases hs with rfl|hs
      ·have:=ih a (by rw [ht];simp);simp;omega
      ·have:=ih s (by rw [ht];simp [hs]);simp;omega
theorem splitK_consG (d:UInt8) (k:Nat) (c:UInt8) (t:Bs) (h:c≠d):∃ a b,Go.Lib.splitK [d] 0 k t=a::b∧Go.Lib.splitK [d] 0 k (c::t)=(c::a)::b:=by
 cases k with
 | zero=>exact ⟨t,[],rfl,rfl⟩
 | succ k=>
   have hp:List.isPrefixOf [d] (c::t)=false:=by
    simp only [List.isPrefixOf,Bool.and_true]
    simpa using fun e=>h e.symm
   have hi:Go.Lib.index (c::t) [d]=if Go.Lib.index t [d] == -1 then -1 else Go.Lib.index t [d]+1:=by
    simp only [Go.Lib.index,hp];rfl
   have hge:=Go.Lib.index_ge t [d]
   unfold Go.Lib.splitK
   by_cases hm:Go.Lib.index t [d]=-1
   ·simp [hm,hi]
   ·have e1:(Go.Lib.index t [d] == -1)=false:=by simpa using hm
    have e2:(Go.Lib.index t [d]+1 == -1)=false:=by simp;omega
    have e3:(Go.Lib.index t [d]+1).toNat=(Go.Lib.index t [d]).toNat+1:=by omega
    simp [hi,e1,e2,e3]
theorem splitK_cutG (d:UInt8):∀ (s:Bs) (k:Nat),s.count d=k→Go.Lib.splitK [d] 0 k s=cutG d s:=by
 intro s
 induction s with
 | nil=>intro k h;simp at h;subst h;simp [Go.Lib.splitK,cutG]
 | cons c t ih=>
   intro k h
   by_cases hc:c=d
   ·subst hc
    simp at h
    subst h
    have hi:Go.Lib.index (c::t) [c]=0:=by simp [Go.Lib.index,List.isPrefixOf]
    unfold Go.Lib.splitK cutG
    simp [hi,ih _ rfl]
   ·have hk:t.count d=k:=by rw [List.count_cons_of_ne (by simpa using hc)] at h;exact h
    obtain ⟨a,b,e1,e2⟩:=splitK_consG d k c t hc
    rw [e2]
    have:=ih k hk
    rw [e1] at this
    unfold cutG
    simp [hc,← this]
end Av
namespace Go.Proofs.YtnlefnhdhigecaaGreatDoor
open Go.RowKit Av
def linesT (t:Bs):List Bs:=if (cutG 10 t).getLast (cutG_ne 10 t)=[] then (cutG 10 t).dropLast else cutG 10 t
def wordsT (l:Bs):List Bs:=(cutG 32 l).filter fun s=>!s.isEmpty
def digitB (c:UInt8):Bool:=decide (48≤c)&&decide (c≤57)
def restN (s:Bs):Bs:=if s.head? = some 45 then s.tail else s
def numL (s:Bs):Option Int:=if 1≤(restN s).length∧(restN s).length≤9∧(restN s).all digitB=true then some ((Go.Lib.atoi s).getD 0) else none
abbrev RdS:=List Bs×Bool
def wordR (r:RdS):Bs×RdS:=match r.1 with
 | []=>([],([],true))
 | s::l=>(s,(l,r.2))
def numR (r:RdS):Int×RdS:=match numL (wordR r).1 with
 | none=>(0,((wordR r).2.1,true))
 | some n=>(n,(wordR r).2)
def partR (r:RdS):Bs×RdS:=((wordR r).1,((wordR r).2.1,(wordR r).2.2||decide ((wordR r).1=[43])))
def dataR (r:RdS):Bs×RdS:=(if (partR r).1=[45] then [] else (partR r).1,(partR r).2)
def kCreate:Bs:=[99,114,101,97,116,101]
def kDelete:Bs:=[100,101,108,101,116,101]
def kSet:Bs:=[115,101,116]
def kCheck:Bs:=[99,104,101,99,107]
def kGet:Bs:=[103,101,116]
def kExists:Bs:=[101,120,105,115,116,115]
def kChildren:Bs:=[99,104,105,108,100,114,101,110]
def bA (s:Bs):ByteArray:=⟨s.toArray⟩
def opR (r:RdS):OpV×RdS:=
 let k:=wordR r
 let p:=partR k.2
 if k.1=kCreate then (⟨1,bA p.1,bA (dataR p.2).1,0,(numR (dataR p.2).2).1⟩,(numR (dataR p.2).2).2)
 else if k.1=kDelete then (⟨2,bA p.1,bA [],(numR p.2).1,0⟩,(numR p.2).2)
 else if k.1=kSet then (⟨3,bA p.1,bA (dataR p.2).1,(numR (dataR p.2).2).1,0⟩,(numR (dataR p.2).2).2)
 else if k.1=kCheck then (⟨4,bA p.1,bA [],(numR p.2).1,0⟩,(numR p.2).2)
 else if k.1=kGet then (⟨5,bA p.1,bA [],0,0⟩,p.2)
 else if k.1=kExists then (⟨6,bA p.1,bA [],0,0⟩,p.2)
 else if k.1=kChildren then (⟨7,bA p.1,bA [],0,0⟩,p.2)
 else (⟨0,bA p.1,bA [],0,0⟩,(p.2.1,true))
def plusR (r:RdS):RdS:=((wordR r).2.1,(wordR r).2.2||!decide ((wordR r).1=[43]))
def moreR:Nat→RdS→List OpV→List OpV×RdS
 | 0,r,ops=>(ops,r)
 | f+1,r,ops=>if r.1=[]∨r.2=true then (ops,r) else moreR f (opR (plusR r)).2 (ops++[(opR (plusR r)).1])
inductive SAct where
 | opn (n:Int)
 | cls (n:Int)
 | tick
 | ask (sess num:Int) (ops:List OpV)
 | watch (n:Int) (p:Bs) (k:Int)
 | evs (n:Int)
 | paths
def kOpen:Bs:=[111,112,101,110]
def kClose:Bs:=[99,108,111,115,101]
def kTick:Bs:=[116,105,99,107]
def kAsk:Bs:=[97,115,107]
def kWatch:Bs:=[119,97,116,99,104]
def kEvents:Bs:=[101,118,101,110,116,115]
def kPaths:Bs:=[112,97,116,104,115]
def reqR (r:RdS):(Int×Int×List OpV)×RdS:=
 let a:=numR r
 let b:=numR a.2
 let o:=opR b.2
 let m:=moreR o.2.1.length o.2 [o.1]
 ((a.1,b.1,m.1),m.2)
def playR (r:RdS):Option SAct×RdS:=
 let k:=wordR r
 if k.1=kOpen then (some (.opn (numR k.2).1),(numR k.2).2)
 else if k.1=kClose then (some (.cls (numR k.2).1),(numR k.2).2)
 else if k.1=kTick then (some .tick,k.2)
 else if k.1=kAsk then (some (.ask (reqR k.2).1.1 (reqR k.2).1.2.1 (reqR k.2).1.2.2),(reqR k.2).2)
 else if k.1=kWatch then (some (.watch (numR k.2).1 (wordR (numR k.2).2).1 (numR (wordR (numR k.2).2).2).1),(numR (wordR (numR k.2).2).2).2)
 else if k.1=kEvents then (some (.evs (numR k.2).1),(numR k.2).2)
 else if k.1=kPaths then (some .paths,k.2)
 else (none,(k.2.1,true))
def lineR (ws:List Bs):Option SAct:=if (playR (ws,false)).2=([],false) then (playR (ws,false)).1 else none
def actsT:List Bs→Option (List SAct)
 | []=>some []
 | l::ls=>if wordsT l=[] then actsT ls else match lineR (wordsT l) with
   | none=>none
   | some a=>(actsT ls).map (a::·)
def errT (e:Int):Bs:=if e=0 then [111,107] else 69::Go.Lib.itoa e
def orT (s:Bs):Bs:=if s=[] then [45] else s
def resT (x:Rp):Bs:=59::Go.Lib.join [Go.Lib.itoa x.err,orT x.path.data.toList,orT x.data.data.toList,orT (Go.Lib.join x.names [44]),Go.Lib.itoa x.st.ver,Go.Lib.itoa x.st.kids,Go.Lib.itoa x.st.own] [32]
def answerT (r:RpV):Bs:=Go.Lib.join [Go.Lib.itoa r.zxid,Go.Lib.itoa r.err,Go.Lib.itoa r.at_] [32]++r.res.flatMap resT
def evT_ (x:Wt):Bs:=Go.Lib.itoa x.kind++32::x.path.data.toList
def doneT (s:SoV) (a:SAct):Bs×SoV:=match a with
 | .opn n=>(if (openO s n).2.2=0 then Go.Lib.itoa (openO s n).2.1 else errT (openO s n).2.2,(openO s n).1)
 | .cls n=>(errT (closeO s n).2,(closeO s n).1)
 | .tick=>(Go.Lib.join ((tickO s).2.map Go.Lib.itoa) [32],(tickO s).1)
 | .ask i n ops=>(answerT (askS s i n ops).2,(askS s i n ops).1)
 | .watch n p k=>(errT (watchO s ⟨n,bA p,k⟩).2,(watchO s ⟨n,bA p,k⟩).1)
 | .evs n=>(Go.Lib.join ((eventsO s n).2.map evT_) [59],(eventsO s n).1)
 | .paths=>(Go.Lib.join (s.tr.map fun e=>e.1.data.toList) [32],s)
def playT:SoV→List SAct→Bs
 | _,[]=>[]
 | s,a::l=>(doneT s a).1++10::playT (doneT s a).2 l
def runT (t:Bs):Bs×Int:=if 16384<t.length∨400<(linesT t).length then ([],2) else match actsT (linesT t) with
 | none=>([],13)
 | some l=>(playT (soZ 100) l,0)
theorem lines_app (a b:Bs):linesT (a++10::b)=cutG 10 a++linesT b:=by
 have h:=cutG_app 10 b a
 have hb:=cutG_ne 10 b
 have hl:∀ h1,(cutG 10 (a++10::b)).getLast h1=(cutG 10 b).getLast hb:=by
  rw [h]
  intro h1
  rw [List.getLast_append_of_ne_nil _ hb]
 unfold linesT
 rw [hl,h]
 split
 ·rw [List.dropLast_append_of_ne_nil hb]
 ·rfl
theorem lines_end (a:Bs):linesT (a++[10])=cutG 10 a:=by
 rw [lines_app a []]
 have:linesT []=[]:=by unfold linesT;simp [cutG]
 rw [this,List.append_nil]
theorem acts_cons (l:Bs) (ls:List Bs):actsT (l::ls)=if wordsT l=[] then actsT ls else match lineR (wordsT l) with
  | none=>none
  | some a=>(actsT ls).map (a::·):=rfl
theorem acts_app (m:List Bs):∀ l:List Bs,actsT (l++m)=match actsT l with
  | none=>none
  | some x=>(actsT m).map (x++·)
 | []=>by
   show actsT m=(actsT m).map ([]++·)
   cases actsT m<;>simp
 | x::l=>by
   rw [List.cons_append,acts_cons,acts_cons,acts_app m l]
   split
   ·rfl
   ·cases lineR (wordsT x) with
    | none=>rfl
    | some a=>
      cases actsT l with
      | none=>rfl
      | some y=>cases actsT m<;>simp
theorem play_app (m:List SAct):∀ (l:List SAct) (s:SoV),∃ x,playT s (l++m)=playT s l++x
 | [],s=>⟨playT s m,rfl⟩
 | a::l,s=>by
   obtain ⟨x,hx⟩:=play_app m l (doneT s a).2
   refine ⟨x, ?_⟩
   show (doneT s a).1++10::playT (doneT s a).2 (l++m)=(doneT s a).1++10::playT (doneT s a).2 l++x
   rw [hx];simp
theorem turns_law (a b:Bs) (h1:(runT (a++[10])).2=0) (h2:(runT (a++10::b)).2=0):∃ x,(runT (a++10::b)).1=(runT (a++[10])).1++x:=by
 unfold runT at *
 rw [lines_end] at *
 rw [lines_app] at *
 split at h1
 ·cases h1
 ·rename_i c1
  rw [if_neg c1]
  split at h2
  ·cases h2
  ·rename_i c2
   rw [if_neg c2]
   rw [acts_app] at *
   cases hA:actsT (cutG 10 a) with
   | none=>rw [hA] at h1;cases h1
   | some l=>
     rw [hA] at h2
     simp only at *
     cases hB:actsT (linesT b) with
     | none=>rw [hB] at h2;cases h2
     | some m=>exact play_app m l _
theorem turns_err (a b:Bs) (h1:(runT (a++[10])).2≠0):(runT (a++10::b)).2≠0:=by
 unfold runT at *
 rw [lines_end] at h1
 rw [lines_app,acts_app]
 split at h1
 ·rename_i c1
  rw [if_pos (by
   rcases c1 with c|c
   ·left;simp only [List.length_append,List.length_cons,List.length_nil] at *;omega
   ·right;rw [List.length_append];omega)]
  decide
 ·split
  ·decide
  ·cases hA:actsT (cutG 10 a) with
   | none=>simp
   | some l=>rw [hA] at h1;exact absurd rfl h1
end Go.Proofs.YtnlefnhdhigecaaGreatDoor

namespace Go.Proofs.YtnlefnhdhigecaaGreatDoor
set_option maxRecDepth 100000
open Go.RowKit Av
theorem tsPaths {w0 w:World} {b m:Nat} {room:Int} {K:Nat} {t:Tr} (h:TS w0 w b m room K t) (hs:SoundP room (pl t)) (hr:room≤100000) :
  Calls Tryz.prog 75 #[.pointer (some ⟨b,0,none⟩)] w fun e w'=>PathsPost w (pathsP (pl t)) e w':=by
 refine treePaths_any w0.heap.size b m room t w h.tr (fun e he=>?_) ?_
 ·have h1:mget (pl t) e.1=some e.2.2:=by
   rw [pl_get,mget_of_mem h.tr.keys (k:=e.1) he];rfl
  have:=path_small e.1 (hs.good _ _ h1)
  unfold maxLen
  omega
 ·have:=hs.size
  rw [pl_len] at this
  omega
theorem strs_open {w:World} {base n:Nat} {v:Value} {L:List Bs} (h:w.ownsRow base strT 1 v n (L.map encStr)):∃ a c,v=.slice a n c∧(0<n→∃ g off,a=some ⟨g,off,none⟩∧∀ k (hk:k<L.length),w.cell? ⟨g,off+k,none⟩=some (encStr L[k])):=by
 obtain ⟨a,c,e,_,_,_,hop⟩:=Sl.open (Sl.of_owns h)
 refine ⟨a,c,e,fun h0=>?_⟩
 obtain ⟨g,off,e2,_,hc⟩:=hop h0
 exact ⟨g,off,e2,fun k hk=>hc k _ (by rw [List.getElem?_map,List.getElem?_eq_getElem hk];rfl)⟩
structure SoundAt (t:Pt) (p:ByteArray) (n:NodeV):Prop where
 size:p.size≤200
 cnt:n.cnt=n.names.length
 eph:n.own≠0→n.names=[]
 kid:∀ x∈n.names,∃ y,mget t (childB p x)=some y
 small:∀ x∈n.names,x.length≤200
 par:∀ up,parentL p.data.toList=some up→∃ m,mget t ⟨up.toArray⟩=some m∧m.own=0∧lastL p.data.toList∈m.names
end Go.Proofs.YtnlefnhdhigecaaGreatDoor

namespace Go.Proofs.YtnlefnhdhigecaaGreatDoor
set_option maxRecDepth 100000
open Go.ChangeShapes Go.WideShapes Go.ChangeAt Go.RowKit Av
def rowedAll (P:Program) (ts:List TypeId):Bool:=ts.all fun t=>P.readableRec t&&decide (t<P.types.size)
theorem trodAll_ext {H:Type} {enc:TypeId×Value→H} {P:Program} (hl:laidOutB P=true) {W W':World} (hb:Below W.heap.size W W'):∀ {ts:List TypeId} {vs:List Value} {ds:List (DataW H)} {ps:List MemPlace},rowedAll P ts=true→
  DataW.TrodAll enc P W 0 (fun _=>true) true ts vs ds ps→DataW.TrodAll enc P W' 0 (fun b=>decide (b<W.heap.size)) true ts vs ds ps:=by
 intro ts
 induction ts with
 | nil=>intro vs ds ps _ h;obtain ⟨rfl,rfl,rfl⟩:=trodAll_nil h;rfl
 | cons t ts ih=>
   intro vs ds ps hr h
   simp only [rowedAll,List.all_cons,Bool.and_eq_true,decide_eq_true_eq] at hr
   obtain ⟨v,vs',d,ds',p,q,rfl,rfl,rfl,h1,h2⟩:=trodAll_cons h
   exact trodAll_cons_mk (Below.trod hl hr.1.1 hr.1.2 h1 hb (fun x hx=>(DataW.TrodAll.lt (trodAll_mk1 h1)) x hx)) (ih hr.2 h2)
theorem gl_of_shape {W:World} (h:W.ShapedOpen Tryz.prog):∃ m:Int,W.cell? ⟨0,0,none⟩=some (.int .i64 m):=Tryz.laysM146.s1_3 W h
end Go.Proofs.YtnlefnhdhigecaaGreatDoor

namespace Go.Proofs.YtnlefnhdhigecaaGreatDoor
set_option maxRecDepth 100000
open Go.ChangeShapes Go.WideShapes Go.ChangeAt Go.RowKit Av
structure ActV where
 op:Int
 who:Int
 v:Value
 ps:List ByteArray
def ActV.cells (a:ActV):List Value:=[.int .i64 a.op, .int .i64 a.who,a.v]
def Acts (w:World) (v:Value) (xs:List ActV):Prop:=Sl w 3 v xs.length (xs.flatMap ActV.cells)∧∀ a∈xs,Strs w a.v a.ps∧(∀ p∈a.ps,p.size≤maxLen)∧(a.v=.slice none 0 0∨∃ ad l c,a.v=.slice (some ad) l c)
variable {P:Program} {H:Type} {enc:TypeId×Value→H} {W:World}
end Go.Proofs.YtnlefnhdhigecaaGreatDoor

namespace Av
set_option maxRecDepth 100000
open Go Go.RowKit
def I64 (v:Int):Prop:=-9223372036854775808≤v∧v≤9223372036854775807
def byteAt (v:Int) (i:Nat):UInt8:=UInt8.ofNat ((v / 2 ^ (8*i)) % 256).toNat
def be8 (v:Int):Bs:=[byteAt v 7,byteAt v 6,byteAt v 5,byteAt v 4,byteAt v 3,byteAt v 2,byteAt v 1,byteAt v 0]
def fold8 (l:Bs):Nat:=l.foldl (fun u b=>u*256+b.toNat) 0
def un8 (l:Bs):Int:=wrap64 (fold8 l)
attribute [local irreducible] be8 un8
abbrev Rd:=Option Bs
def rdI:Rd→Int×Rd
 | some l=>if 8≤l.length then (un8 (l.take 8),some (l.drop 8)) else (0,none)
 | none=>(0,none)
def rdC (most:Int) (s:Rd):Int×Rd:=if (rdI s).1<0∨most<(rdI s).1 then (0,none) else rdI s
def rdT (most:Int) (s:Rd):Bs×Rd:=match rdC most s with
 | (n,some l)=>if l.length<n.toNat then ([],none) else (l.take n.toNat,some (l.drop n.toNat))
 | (_,none)=>([],none)
end Av

namespace Go.Proofs.YtnlefnhdhigecaaGreatDoor
set_option maxRecDepth 100000
open Go.ChangeShapes Go.WideShapes Go.ChangeAt Go.RowKit Av
def Op64 (o:OpV):Prop:=I64 o.kind∧I64 o.ver∧I64 o.flags
section
variable {P:Program} {H:Type} {enc:TypeId×Value→H} {W:World}
end
section
variable {H:Type} {enc:TypeId×Value→H} {W:World}
end
end Go.Proofs.YtnlefnhdhigecaaGreatDoor

namespace Go.Proofs.YtnlefnhdhigecaaGreatDoor
set_option maxRecDepth 100000
open Go.ChangeShapes Go.WideShapes Go.ChangeAt Go.RowKit Av
section
variable {P:Program} {H:Type} {enc:TypeId×Value→H} {W:World}
end
end Go.Proofs.YtnlefnhdhigecaaGreatDoor

namespace Go.Proofs.YtnlefnhdhigecaaGreatDoor
set_option maxRecDepth 100000
open Go.ChangeShapes Go.WideShapes Go.ChangeAt Go.RowKit Av
structure ActN where
 op:Int
 o:OpV
 sess:Int
 z:Int
 n:NodeV
 nv:Value
structure ActOk (W:World) (a:ActN):Prop where
 path:a.o.path.size≤maxLen
 data:a.o.data.size≤maxLen
 ndata:a.n.data.size≤maxLen
 names:NmS W a.nv a.n.names
 nsize:∀ s∈a.n.names,s.length≤maxLen
 i64:Op64 a.o∧I64 a.op∧I64 a.sess∧I64 a.z
 n64:I64 a.n.ver∧I64 a.n.kids∧I64 a.n.next
section
variable {H:Type} {enc:TypeId×Value→H} {W:World}
end
end Go.Proofs.YtnlefnhdhigecaaGreatDoor

