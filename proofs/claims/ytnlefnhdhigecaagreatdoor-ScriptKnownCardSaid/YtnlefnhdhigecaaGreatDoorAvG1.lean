/- Texts put together: AvPath, AvPathLaw, AvBase, AvOpLaw, AvTopsLaw, AvApp2, AvRows, AvRowB. -/
import Derived.Lib.SplitLaws
import Derived.Lib.Strings
import Derived.Lib.Join
import Derived.Lib.ItoaNum
import Derived.WalkKit
import Derived.WalkSpells
import Derived.WalkLawsBesides
import Derived.Lib.Hide
import Derived.Deep.Light
import Derived.Lib.SlicesCompact
import Derived.Laws.AppendOwnNone
import Derived.Lib.AppendStr
import Derived.Laws.IdiomCopy
import Derived.Lib.SliceRun
namespace Av
set_option maxRecDepth 100000
abbrev Bs:=List UInt8
def sign (c:UInt8):Bool:=decide (33≤c)&&decide (c≤126)
def nameL (l:Bs):Bool:=l.all sign&&decide (1≤l.length)&&decide (l.length≤40)&&(l != [46])&&(l != [46,46])
def cut:Bs→List Bs
 | []=>[[]]
 | c::t=>if c=47 then []::cut t else match cut t with
   | h::r=>(c::h)::r
   | []=>[[c]]
theorem cut_ne (l:Bs):cut l≠[]:=by
 cases l with
 | nil=>simp [cut]
 | cons c t=>
   unfold cut
   split
   ·simp
   ·split<;>simp
theorem cut_snoc (l:Bs) (c:UInt8) (h:c≠47):∃ i x,cut l=i++[x]∧cut (l++[c])=i++[x++[c]]:=by
 induction l with
 | nil=>exact ⟨[],[],by simp [cut],by simp [cut,h]⟩
 | cons d t ih=>
   obtain ⟨i,x,e1,e2⟩:=ih
   by_cases hd:d=47
   ·exact ⟨[]::i,x,by simp [cut,hd,e1],by simp [cut,hd,e2]⟩
   ·cases i with
    | nil=>exact ⟨[],d::x,by simp [cut,hd,e1],by simp [cut,hd,e2]⟩
    | cons a i=>exact ⟨(d::a)::i,x,by simp [cut,hd,e1],by simp [cut,hd,e2]⟩
theorem cut_length (l:Bs):(cut l).length=l.count 47+1:=by
 induction l with
 | nil=>simp [cut]
 | cons c t ih=>
   unfold cut
   by_cases h:c=47
   ·subst h;simp [ih]
   ·simp only [h,if_false]
    cases ht:cut t with
    | nil=>exact absurd ht (cut_ne t)
    | cons a b=>simp only [ht,List.length_cons] at ih ⊢;rw [List.count_cons_of_ne (by simpa using h)];exact ih
theorem cut_free (l:Bs):∀ s∈cut l,(47:UInt8)∉s:=by
 induction l with
 | nil=>simp [cut]
 | cons c t ih=>
   unfold cut
   by_cases h:c=47
   ·simp only [h,if_true,List.mem_cons]
    rintro s (rfl|hs)
    ·simp
    ·exact ih s hs
   ·simp only [h,if_false]
    cases ht:cut t with
    | nil=>exact absurd ht (cut_ne t)
    | cons a b=>
      intro s hs
      simp only [List.mem_cons] at hs
      rcases hs with rfl|hs
      ·have:=ih a (by rw [ht];simp)
       simp only [List.mem_cons,not_or];exact ⟨fun e=>h e.symm,this⟩
      ·exact ih s (by rw [ht];simp [hs])
theorem cut_len_le (l:Bs):∀ s∈cut l,s.length≤l.length:=by
 induction l with
 | nil=>simp [cut]
 | cons c t ih=>
   unfold cut
   by_cases h:c=47
   ·simp only [h,if_true,List.mem_cons,List.length_cons]
    rintro s (rfl|hs)
    ·simp
    ·have:=ih s hs;omega
   ·simp only [h,if_false]
    cases ht:cut t with
    | nil=>exact absurd ht (cut_ne t)
    | cons a b=>
      intro s hs
      simp only [List.mem_cons] at hs
      rcases hs with rfl|hs
      ·have:=ih a (by rw [ht];simp);simp;omega
      ·have:=ih s (by rw [ht];simp [hs]);simp;omega
theorem splitK_cons (k:Nat) (c:UInt8) (t:Bs) (h:c≠47):∃ a b,Go.Lib.splitK [47] 0 k t=a::b∧Go.Lib.splitK [47] 0 k (c::t)=(c::a)::b:=by
 cases k with
 | zero=>exact ⟨t,[],rfl,rfl⟩
 | succ k=>
   have hp:List.isPrefixOf [47] (c::t)=false:=by
    simp only [List.isPrefixOf,Bool.and_true]
    simpa using fun e=>h e.symm
   have hi:Go.Lib.index (c::t) [47]=if Go.Lib.index t [47] == -1 then -1 else Go.Lib.index t [47]+1:=by
    simp only [Go.Lib.index,hp];rfl
   have hge:=Go.Lib.index_ge t [47]
   unfold Go.Lib.splitK
   by_cases hm:Go.Lib.index t [47]=-1
   ·simp [hm,hi]
   ·have e1:(Go.Lib.index t [47] == -1)=false:=by simpa using hm
    have e2:(Go.Lib.index t [47]+1 == -1)=false:=by simp;omega
    have e3:(Go.Lib.index t [47]+1).toNat=(Go.Lib.index t [47]).toNat+1:=by omega
    simp [hi,e1,e2,e3]
theorem splitK_cut:∀ (s:Bs) (k:Nat),s.count 47=k→Go.Lib.splitK [47] 0 k s=cut s:=by
 intro s
 induction s with
 | nil=>intro k h;simp at h;subst h;simp [Go.Lib.splitK,cut]
 | cons c t ih=>
   intro k h
   by_cases hc:c=47
   ·subst hc
    simp at h
    subst h
    have hi:Go.Lib.index (47::t) [47]=0:=by simp [Go.Lib.index,List.isPrefixOf]
    unfold Go.Lib.splitK cut
    simp [hi,ih _ rfl]
   ·have hk:t.count 47=k:=by rw [List.count_cons_of_ne (by simpa using hc)] at h;exact h
    obtain ⟨a,b,e1,e2⟩:=splitK_cons k c t hc
    rw [e2]
    have:=ih k hk
    rw [e1] at this
    unfold cut
    simp [hc,← this]
def goodL (p:Bs):Bool:=match p with
 | []=>false
 | c::t=>(c == 47)&&decide (p.length≤200)&&(cut t).all nameL&&decide ((cut t).length≤8)
def partsL (p:Bs):List Bs:=if goodL p then cut (p.drop 1) else []
def ofL (l:List Bs):Bs:=l.flatMap fun s=>47::s
def parentL (p:Bs):Option Bs:=if (partsL p).length<2 then none else some (ofL (partsL p).dropLast)
def topL (p:Bs):Bs:=(partsL p).headD []
def lastL (p:Bs):Bs:=(partsL p).getLastD []
theorem good_iff_parts (p:Bs):goodL p=true↔partsL p≠[]:=by
 unfold partsL
 by_cases h:goodL p=true
 ·simp [h,cut_ne]
 ·simp [h]
theorem good_head (p:Bs) (h:goodL p=true):∃ t,p=47::t∧t.length<200∧(cut t).all nameL=true∧(cut t).length≤8∧partsL p=cut t:=by
 cases p with
 | nil=>simp [goodL] at h
 | cons c t=>
   have h':=h
   simp only [goodL,Bool.and_eq_true,decide_eq_true_eq,beq_iff_eq,List.length_cons] at h'
   obtain ⟨⟨⟨rfl,h2⟩,h3⟩,h4⟩:=h'
   exact ⟨t,rfl,by omega,h3,h4,by simp [partsL,h]⟩
theorem parts_len (p:Bs):(partsL p).length≤8:=by
 by_cases h:goodL p=true
 ·obtain ⟨t,rfl,_,_,h4,h5⟩:=good_head p h
  rw [h5];exact h4
 ·simp [partsL,h]
theorem parts_name (p:Bs):∀ s∈partsL p,nameL s=true∧(47:UInt8)∉s:=by
 by_cases h:goodL p=true
 ·obtain ⟨t,rfl,_,h3,_,h5⟩:=good_head p h
  rw [h5]
  intro s hs
  exact ⟨List.all_eq_true.1 h3 s hs,cut_free t s hs⟩
 ·simp [partsL,h]
theorem join_ofL:∀ (l:List Bs),l≠[]→47::Go.Lib.join l [47]=ofL l
 | [],h=>absurd rfl h
 | [x],_=>by simp [Go.Lib.join,List.intercalate,ofL]
 | x::y::r,_=>by
   have ih:=join_ofL (y::r) (by simp)
   have e:Go.Lib.join (x::y::r) [47]=x++47::Go.Lib.join (y::r) [47]:=by simp [Go.Lib.join,List.intercalate]
   rw [e,ih]
   simp [ofL]
theorem ofL_dropLast (l:List Bs):(ofL l.dropLast).length≤(ofL l).length:=by
 unfold ofL
 rw [List.length_flatMap,List.length_flatMap]
 cases h:l.getLast? with
 | none=>rw [List.getLast?_eq_none_iff.1 h];simp
 | some x=>
   obtain ⟨i,rfl⟩:=List.getLast?_eq_some_iff.1 h
   simp
theorem ofL_cut (t:Bs):ofL (cut t)=47::t:=by
 induction t with
 | nil=>simp [cut,ofL]
 | cons c t ih=>
   unfold cut
   by_cases h:c=47
   ·subst h
    simp only [if_true,ofL,List.flatMap_cons,List.singleton_append] at ih ⊢
    rw [ih]
   ·simp only [h,if_false]
    cases ht:cut t with
    | nil=>exact absurd ht (cut_ne t)
    | cons a b=>
      rw [ht] at ih
      simp only [ofL,List.flatMap_cons,List.cons_append,List.cons.injEq,true_and] at ih ⊢
      rw [ih]
theorem good_cons' (t:Bs) (h:t.length<200):goodL (47::t)=((cut t).all nameL&&decide ((cut t).length≤8)):=by
 have:decide ((47::t).length≤200)=true:=by simp;omega
 simp only [goodL,this,beq_self_eq_true,Bool.true_and]
theorem good_len (p:Bs) (h:goodL p=true):2≤p.length∧p.length≤200:=by
 obtain ⟨t,rfl,h1,h2,_,_⟩:=good_head p h
 refine ⟨?_,by simp;omega⟩
 cases t with
 | nil=>simp [cut,nameL] at h2
 | cons c t=>simp
theorem ofL_parts (p:Bs) (h:goodL p=true):ofL (partsL p)=p:=by
 obtain ⟨t,rfl,_,_,_,h5⟩:=good_head p h
 rw [h5,ofL_cut]
theorem parent_len (p:Bs):(ofL (partsL p).dropLast).length≤200:=by
 by_cases h:goodL p=true
 ·have h1:=ofL_dropLast (partsL p)
  rw [ofL_parts p h] at h1
  have:=good_len p h
  omega
 ·simp [partsL,h,ofL]
theorem cut_names:∀ (l:List Bs),l≠[]→(∀ s∈l,(47:UInt8)∉s)→cut ((ofL l).drop 1)=l
 | [],h,_=>absurd rfl h
 | [s],hne,h=>by
   have hs:=h s (by simp)
   simp only [ofL,List.flatMap_cons,List.flatMap_nil,List.append_nil,List.drop_succ_cons,List.drop_zero]
   clear h hne
   induction s with
   | nil=>rfl
   | cons c t ih=>
     simp only [List.mem_cons,not_or] at hs
     have hc:¬ c=47:=fun e=>hs.1 e.symm
     simp [cut,hc,ih hs.2]
 | s::y::r,hne,h=>by
   have ih:=cut_names (y::r) (by simp) (fun x hx=>h x (List.mem_cons_of_mem _ hx))
   have hs:=h s (by simp)
   have e:(ofL (s::y::r)).drop 1=s++47::(ofL (y::r)).drop 1:=by simp [ofL]
   rw [e]
   clear h e hne
   generalize (ofL (y::r)).drop 1=z at ih ⊢
   induction s with
   | nil=>simp [cut,ih]
   | cons c t ih2=>
     simp only [List.mem_cons,not_or] at hs
     have hc:¬ c=47:=fun e=>hs.1 e.symm
     simp only [List.cons_append,cut,hc,if_false,ih2 hs.2]
theorem ofL_head (l:List Bs) (h:l≠[]):ofL l=47::(ofL l).drop 1:=by
 cases l with
 | nil=>exact absurd rfl h
 | cons a b=>simp [ofL]
theorem parts_of_names (l:List Bs) (h:l≠[]) (hn:∀ s∈l,nameL s=true) (hf:∀ s∈l,(47:UInt8)∉s) (h8:l.length≤8) (hl:(ofL l).length≤200):goodL (ofL l)=true∧partsL (ofL l)=l:=by
 have hc:=cut_names l h hf
 have hg:goodL (ofL l)=true:=by
  obtain ⟨t,ht⟩:∃ t,ofL l=47::t:=⟨_,ofL_head l h⟩
  rw [ht] at hl hc ⊢
  simp only [List.drop_succ_cons,List.drop_zero] at hc
  simp only [List.length_cons] at hl
  rw [good_cons' _ (by omega),hc]
  simp only [Bool.and_eq_true,decide_eq_true_eq]
  exact ⟨List.all_eq_true.2 hn,h8⟩
 exact ⟨hg,by unfold partsL;rw [hg,if_pos rfl];exact hc⟩
theorem parent_good (p:Bs) (h2:2≤(partsL p).length):goodL (ofL (partsL p).dropLast)=true∧partsL (ofL (partsL p).dropLast)=(partsL p).dropLast:=by
 have hne:(partsL p).dropLast≠[]:=by intro e;have:=congrArg List.length e;simp at this;omega
 have hmem:∀ s∈(partsL p).dropLast,s∈partsL p:=fun s hs=>List.dropLast_subset _ hs
 exact parts_of_names _ hne (fun s hs=>(parts_name p s (hmem s hs)).1) (fun s hs=>(parts_name p s (hmem s hs)).2) (by have:=parts_len p;simp;omega) (parent_len p)
theorem top_parent (p q:Bs) (h:parentL p=some q):topL q=topL p∧goodL q=true∧(partsL q).length+1=(partsL p).length:=by
 unfold parentL at h
 split at h
 ·cases h
 ·rename_i h2
  simp only [Option.some.injEq] at h
  subst h
  obtain ⟨h3,h4⟩:=parent_good p (by omega)
  refine ⟨?_,h3,by rw [h4];simp;omega⟩
  unfold topL
  rw [h4]
  cases hp:partsL p with
  | nil=>simp [hp] at h2
  | cons a b=>
    cases b with
    | nil=>simp [hp] at h2
    | cons c d=>rfl
end Av

namespace Av
set_option maxRecDepth 100000
theorem cut_app (a r:Bs):cut (a++47::r)=cut a++cut r:=by
 induction a with
 | nil=>simp [cut]
 | cons c t ih=>
   by_cases h:c=47
   ·subst h;simp [cut,ih]
   ·simp only [List.cons_append,cut,h,if_false,ih]
    cases ht:cut t with
    | nil=>exact absurd ht (cut_ne t)
    | cons a b=>simp
theorem cut_app_free (d:Bs):∀ (t:Bs),(47:UInt8)∉d→∃ i x,cut t=i++[x]∧cut (t++d)=i++[x++d]:=by
 induction d with
 | nil=>
   intro t _
   rcases List.eq_nil_or_concat (cut t) with h|⟨i,x,h⟩
   ·exact absurd h (cut_ne t)
   ·exact ⟨i,x,by simpa using h,by simpa using h⟩
 | cons c d ih=>
   intro t h
   simp only [List.mem_cons,not_or] at h
   obtain ⟨i,x,e1,e2⟩:=cut_snoc t c (fun e=>h.1 e.symm)
   obtain ⟨i',x',e3,e4⟩:=ih (t++[c]) h.2
   rw [e2] at e3
   obtain ⟨rfl,h3⟩:=List.append_inj' e3 rfl
   simp only [List.cons.injEq,and_true] at h3
   subst h3
   exact ⟨i,x,e1,by rw [show t++c::d=t++[c]++d by simp,e4];simp⟩
theorem cut_one {s:Bs} (h:(cut s).length=1):cut s=[s]:=by
 have h47:(47:UInt8)∉s:=by
  rw [cut_length] at h
  exact List.count_eq_zero.1 (by omega)
 obtain ⟨i,x,e1,e2⟩:=cut_app_free s [] h47
 simp only [cut,List.nil_append] at e1 e2
 cases i with
 | nil=>simp at e1;subst e1;simpa using e2
 | cons a b=>simp at e1
theorem ofL_app (a b:List Bs):ofL (a++b)=ofL a++ofL b:=by simp [ofL]
theorem deeper_parts {p s:Bs} (hp:goodL p=true) (hq:goodL (p++(47::s))=true):partsL (p++(47::s))=partsL p++cut s:=by
 obtain ⟨t,rfl,_,_,_,h5⟩:=good_head p hp
 obtain ⟨t',ht',_,_,_,h5'⟩:=good_head _ hq
 rw [h5',h5]
 have:t'=t++47::s:=by simpa using ht'.symm
 rw [this,cut_app]
def padL (n:Nat):Bs:=List.replicate (10 - (Go.Lib.decDigits n).length) 48++Go.Lib.decDigits n
def numberL (p:Bs) (n:Int):Option Bs:=if (goodL p&&(decide (0≤n)&&decide (n≤2147483647)))&&goodL (p++padL n.toNat) then some (p++padL n.toNat) else none
def fw:Nat→Nat→Bs
 | 0,_=>[]
 | k+1,u=>fw k (u / 10)++[UInt8.ofNat (48+u % 10)]
theorem fw_zero (k:Nat):fw k 0=List.replicate k 48:=by
 induction k with
 | zero=>rfl
 | succ k ih=>simp [fw,ih,List.replicate_succ']
theorem fw_len (k u:Nat):(fw k u).length=k:=by
 induction k generalizing u with
 | zero=>rfl
 | succ k ih=>simp [fw,ih]
theorem nDigits_le:∀ (k u:Nat),u<10 ^ (k+1)→Go.Lib.nDigits u≤k+1
 | 0,u,h=>by rw [Go.Lib.nDigits_small (by simpa using h)];exact Nat.le_refl _
 | k+1,u,h=>by
   by_cases h10:u<10
   ·rw [Go.Lib.nDigits_small h10];omega
   ·rw [Go.Lib.nDigits_big h10]
    have:=nDigits_le k (u / 10) (by rw [Nat.pow_succ] at h;omega)
    omega
theorem fw_dec:∀ (k u:Nat),1≤k→Go.Lib.nDigits u≤k→List.replicate (k - Go.Lib.nDigits u) 48++Go.Lib.decDigits u=fw k u
 | 0,_,h,_=>absurd h (by omega)
 | k+1,u,_,h=>by
   by_cases h10:u<10
   ·rw [Go.Lib.nDigits_small h10,Go.Lib.decDigits,dif_pos h10]
    have e:u / 10=0:=by omega
    have e2:u % 10=u:=by omega
    simp only [fw,e,e2,fw_zero,Nat.add_sub_cancel]
   ·rw [Go.Lib.nDigits_big h10] at h ⊢
    rw [Go.Lib.decDigits,dif_neg h10]
    have hk:1≤k:=by have:=Go.Lib.nDigits_pos (u / 10);omega
    have:=fw_dec k (u / 10) hk (by omega)
    unfold fw
    rw [← this,← List.append_assoc]
    congr 3
    omega
theorem padL_fw {n:Nat} (h:n≤2147483647):padL n=fw 10 n:=by
 unfold padL
 rw [Go.Lib.decDigits_length]
 exact fw_dec 10 n (by omega) (nDigits_le 9 n (by omega))
theorem padL_len {n:Nat} (h:n≤2147483647):(padL n).length=10:=by rw [padL_fw h,fw_len]
theorem dec_len {n:Nat} (h:n≤2147483647):1≤(Go.Lib.decDigits n).length∧(Go.Lib.decDigits n).length≤10:=by
 rw [Go.Lib.decDigits_length]
 exact ⟨Go.Lib.nDigits_pos n,nDigits_le 9 n (by omega)⟩
theorem fw_free (k u:Nat):(47:UInt8)∉fw k u:=by
 induction k generalizing u with
 | zero=>simp [fw]
 | succ k ih=>
   simp only [fw,List.mem_append,List.mem_singleton,not_or]
   refine ⟨ih _,fun e=>?_⟩
   have h1:=congrArg UInt8.toNat e
   have h2:(47:UInt8).toNat=47:=rfl
   have h3:(UInt8.ofNat (48+u % 10)).toNat=48+u % 10:=by
    have:48+u % 10<256:=by omega
    simp [UInt8.toNat_ofNat,Nat.mod_eq_of_lt this]
   omega
theorem number_some {p:Bs} {n:Int} {s:Bs} (h:numberL p n=some s):goodL p=true∧0≤n∧n≤2147483647∧s=p++fw 10 n.toNat∧goodL s=true:=by
 unfold numberL at h
 split at h
 ·rename_i hc
  simp only [Bool.and_eq_true,decide_eq_true_eq] at hc
  obtain ⟨⟨h1,h2,h3⟩,h4⟩:=hc
  simp only [Option.some.injEq] at h
  subst h
  exact ⟨h1,h2,h3,by rw [padL_fw (by omega)],h4⟩
 ·cases h
theorem number_parts {p d:Bs} (hd:(47:UInt8)∉d) (hp:goodL p=true) (hq:goodL (p++d)=true):∃ i x,partsL p=i++[x]∧partsL (p++d)=i++[x++d]:=by
 obtain ⟨t,rfl,_,_,_,h5⟩:=good_head p hp
 obtain ⟨t',ht',_,_,_,h5'⟩:=good_head _ hq
 have e:t'=t++d:=by simpa using ht'.symm
 rw [h5,h5',e]
 exact cut_app_free d t hd
theorem number_parent {p d:Bs} (hd:(47:UInt8)∉d) (hp:goodL p=true) (hq:goodL (p++d)=true):parentL (p++d)=parentL p:=by
 obtain ⟨i,x,e1,e2⟩:=number_parts hd hp hq
 unfold parentL
 rw [e1,e2]
 simp
end Av

namespace Av
set_option maxRecDepth 100000
open Go Go.RowKit
structure Kp (S:Nat→Prop) (w w':World):Prop where
 os:w'.os=w.os
 tape:w'.tape=w.tape
 output:w'.output=w.output
 size:w.heap.size≤w'.heap.size
 block:∀ k,k<w.heap.size→¬ S k→w'.heap[k]? = w.heap[k]?
abbrev Ext (w w':World):Prop:=Kp (fun _=>False) w w'
theorem Kp.refl (S:Nat→Prop) (w:World):Kp S w w:=⟨rfl,rfl,rfl,Nat.le_refl _,fun _ _ _=>rfl⟩
theorem Kp.trans {S:Nat→Prop} {a b c:World} (h:Kp S a b) (k:Kp S b c):Kp S a c:=
 ⟨k.os.trans h.os,k.tape.trans h.tape,k.output.trans h.output,Nat.le_trans h.size k.size,
  fun i hi hs=>(k.block i (Nat.lt_of_lt_of_le hi h.size) hs).trans (h.block i hi hs)⟩
theorem Kp.next {S T:Nat→Prop} {a b c:World} (h:Kp S a b) (k:Kp T b c) (hT:∀ i,i<a.heap.size→T i→S i):Kp S a c:=
 ⟨k.os.trans h.os,k.tape.trans h.tape,k.output.trans h.output,Nat.le_trans h.size k.size,
  fun i hi hs=>(k.block i (Nat.lt_of_lt_of_le hi h.size) (fun t=>hs (hT i hi t))).trans (h.block i hi hs)⟩
theorem Kp.mono {S T:Nat→Prop} {w w':World} (h:Kp S w w') (hst:∀ i,i<w.heap.size→S i→T i):Kp T w w':=
 ⟨h.os,h.tape,h.output,h.size,fun i hi hs=>h.block i hi (fun s=>hs (hst i hi s))⟩
theorem Kp.ext {S:Nat→Prop} {a b c:World} (h:Kp S a b) (k:Ext b c):Kp S a c:=h.next k (fun _ _ f=>f.elim)
theorem Ext.kp {S:Nat→Prop} {w w':World} (h:Ext w w'):Kp S w w':=h.mono (fun _ _ f=>f.elim)
theorem Kp.drew {S:Nat→Prop} {a w:World} (h:Kp S a w):Kp S a w.drew:=⟨h.os,h.tape,h.output,h.size,h.block⟩
theorem Kp.drewN {S:Nat→Prop} {a w:World} (h:Kp S a w) (n:Nat):Kp S a (w.drewN n):=⟨h.os,h.tape,h.output,h.size,h.block⟩
theorem Kp.alloc {S:Nat→Prop} {a w:World} (h:Kp S a w) (o:Obj):Kp S a (w.alloc o):=
 h.next (T:=fun _=>False) ⟨rfl,rfl,rfl,by simp,fun k hk _=>Below.heap_alloc _ _ _ hk⟩ (fun _ _ f=>f.elim)
theorem Kp.setCell {S:Nat→Prop} {a w:World} (h:Kp S a w) (p:Addr) (u:Value) (hp:p.block<a.heap.size→S p.block):Kp S a (w.setCell p u):=
 h.next (T:=fun k=>k=p.block) ⟨rfl,rfl,rfl,by simp [World.setCell],fun k _ hs=>Below.heap_setCell _ _ _ _ hs⟩ (fun i hi e=>by subst e;exact hp hi)
theorem Kp.of_below {w w':World} (h:Below w.heap.size w w'):Ext w w':=⟨h.os,h.tape,h.output,h.size,fun k hk _=>h.block k hk⟩
theorem Kp.below {w w':World} (h:Ext w w'):Below w.heap.size w w':=⟨h.os,h.tape,h.output,h.size,fun k hk=>h.block k hk (fun f=>f)⟩
theorem Kp.grown {S:Nat→Prop} {a w w':World} {row:Option Nat} (h:Kp S a w) (hg:w.grownBy w' row) (hr:∀ k,row=some k→k<a.heap.size→S k):Kp S a w':=
 h.next (T:=fun k=>row=some k) ⟨hg.os,hg.tape,hg.output,hg.size,fun k hk hs=>hg.block k hk (fun e=>hs e.symm)⟩ (fun i hi e=>hr i e hi)
theorem Kp.cell {S:Nat→Prop} {w w':World} (h:Kp S w w') {p:Addr} {v:Value} (hc:w.cell? p=some v) (hs:¬ S p.block):w'.cell? p=some v:=
 (World.cell?_of_block (w:=w) (h.block p.block (World.block_lt_of_cell? w p hc) hs)).trans hc
theorem Kp.obj {S:Nat→Prop} {w w':World} (h:Kp S w w') {b:Nat} {o:Obj} (ho:w.heap[b]? = some o) (hs:¬ S b):w'.heap[b]? = some o:=
 (h.block b (Array.getElem?_eq_some_iff.1 ho).1 hs).trans ho
def Sl (w:World) (k:Nat) (v:Value) (n:Nat) (xs:List Value):Prop:=
 xs.length=n*k∧n≤maxLen∧∃ a c,v=.slice a n c∧n≤c∧(n=0∨∃ b off,a=some ⟨b,off,none⟩∧b<w.heap.size∧∀ i x,xs[i]? = some x→w.cell? ⟨b,off+i,none⟩=some x)
theorem Sl.kp {S:Nat→Prop} {w w':World} {k:Nat} {v:Value} {n:Nat} {xs:List Value} (h:Sl w k v n xs) (hk:Kp S w w') (hs:∀ b,v.ownBlock=some b→b<w.heap.size→¬ S b):Sl w' k v n xs:=by
 obtain ⟨h1,h2,a,c,rfl,hcc,h3⟩:=h
 refine ⟨h1,h2,a,c,rfl,hcc, ?_⟩
 rcases h3 with h3|⟨b,off,rfl,hb,hc⟩
 ·exact .inl h3
 ·exact .inr ⟨b,off,rfl,Nat.lt_of_lt_of_le hb hk.size,fun i x hx=>hk.cell (hc i x hx) (hs b rfl hb)⟩
theorem Sl.ext {w w':World} {k:Nat} {v:Value} {n:Nat} {xs:List Value} (h:Sl w k v n xs) (hk:Ext w w'):Sl w' k v n xs:=h.kp hk (fun _ _ _ f=>f)
theorem Sl.open {w:World} {k:Nat} {v:Value} {n:Nat} {xs:List Value} (h:Sl w k v n xs) :
  ∃ a c,v=.slice a n c∧n≤c∧n≤maxLen∧xs.length=n*k∧(0<n→∃ b off,a=some ⟨b,off,none⟩∧b<w.heap.size∧∀ i x,xs[i]? = some x→w.cell? ⟨b,off+i,none⟩=some x):=by
 obtain ⟨h1,h2,a,c,rfl,hcc,h3⟩:=h
 refine ⟨a,c,rfl,hcc,h2,h1,fun hn=>?_⟩
 rcases h3 with h3|h3
 ·omega
 ·exact h3
theorem Sl.nil (w:World) (k:Nat):Sl w k (.slice none 0 0) 0 []:=⟨by simp,Nat.zero_le _,none,0,rfl,Nat.le_refl _, .inl rfl⟩
theorem Sl.of_owns {w:World} {base:Nat} {e:TypeId} {k:Nat} {v:Value} {n:Nat} {xs:List Value} (h:w.ownsRow base e k v n xs):Sl w k v n xs:=by
 obtain ⟨h1,h2⟩:=h
 rcases h2 with ⟨rfl,rfl⟩|⟨g,cap,cur,rfl,hb,hg,hn,hm,hcs,ht⟩
 ·exact ⟨h1,Nat.zero_le _,none,0,rfl,Nat.le_refl _, .inl rfl⟩
 ·refine ⟨h1,Nat.le_trans hn hm,some ⟨g,0,none⟩,cap,rfl,hn, .inr ⟨g,0,rfl,(Array.getElem?_eq_some_iff.1 hg).1,fun i x hx=>?_⟩⟩
  rw [← ht,List.getElem?_take] at hx
  split at hx
  ·simp [World.cell?,hg];simpa using hx
  ·simp at hx
theorem Sl.of_block {w:World} {b:Nat} {k n c:Nat} {xs:List Value} {e:TypeId} {fr:Nat×Nat} (h:w.heap[b]? = some (.cells xs.toArray e fr)) (hl:xs.length=n*k) (hm:n≤maxLen) (hcc:n≤c) :
  Sl w k (.slice (some ⟨b,0,none⟩) n c) n xs:=
 ⟨hl,hm,_,_,rfl,hcc, .inr ⟨b,0,rfl,(Array.getElem?_eq_some_iff.1 h).1,fun i x hx=>by simp [World.cell?,h];simpa using hx⟩⟩
theorem ownsRow.kp {S:Nat→Prop} {w w':World} {base:Nat} {e:TypeId} {k:Nat} {v:Value} {n:Nat} {xs:List Value} (h:w.ownsRow base e k v n xs) (hk:Kp S w w') (hs:∀ b,v.ownBlock=some b→¬ S b):w'.ownsRow base e k v n xs:=by
 obtain ⟨h1,h2⟩:=h
 refine ⟨h1, ?_⟩
 rcases h2 with h2|⟨g,cap,cur,rfl,hb,hg,r⟩
 ·exact .inl h2
 ·exact .inr ⟨g,cap,cur,rfl,hb,hk.obj hg (hs g rfl),r⟩
theorem ownsRow.ext {w w':World} {base:Nat} {e:TypeId} {k:Nat} {v:Value} {n:Nat} {xs:List Value} (h:w.ownsRow base e k v n xs) (hk:Ext w w'):w'.ownsRow base e k v n xs:=ownsRow.kp h hk (fun _ _ f=>f)
theorem ownsRow.base_mono {w:World} {base base':Nat} {e:TypeId} {k:Nat} {v:Value} {n:Nat} {xs:List Value} (h:w.ownsRow base e k v n xs) (hb:base'≤base):w.ownsRow base' e k v n xs:=by
 obtain ⟨h1,h2⟩:=h
 refine ⟨h1, ?_⟩
 rcases h2 with h2|⟨g,cap,cur,rfl,hbg,r⟩
 ·exact .inl h2
 ·exact .inr ⟨g,cap,cur,rfl,Nat.le_trans hb hbg,r⟩
def Strs (w:World) (v:Value) (xs:List ByteArray):Prop:=Sl w 1 v xs.length (xs.map Value.string)
theorem Strs.nil (w:World):Strs w (.slice none 0 0) []:=Sl.nil w 1
theorem Strs.open {w:World} {v:Value} {xs:List ByteArray} (h:Strs w v xs) :
  ∃ a c,v=.slice a xs.length c∧xs.length≤c∧xs.length≤maxLen∧(0<xs.length→∃ b off,a=some ⟨b,off,none⟩∧b<w.heap.size∧∀ i (hi:i<xs.length),w.cell? ⟨b,off+i,none⟩=some (.string xs[i])):=by
 obtain ⟨a,c,rfl,hcc,h1,h2,h3⟩:=Sl.open h
 refine ⟨a,c,rfl,hcc,h1,fun hn=>?_⟩
 obtain ⟨b,off,rfl,hb,hc⟩:=h3 hn
 exact ⟨b,off,rfl,hb,fun i hi=>hc i _ (by rw [List.getElem?_map,List.getElem?_eq_getElem hi];rfl)⟩
theorem Strs.of_cells {w:World} {b off c:Nat} {xs:List ByteArray} (hm:xs.length≤maxLen) (hcc:xs.length≤c) (hb:b<w.heap.size) (h:∀ i (hi:i<xs.length),w.cell? ⟨b,off+i,none⟩=some (.string xs[i])) :
  Strs w (.slice (some ⟨b,off,none⟩) xs.length c) xs:=
 ⟨by simp,hm,_,_,rfl,hcc, .inr ⟨b,off,rfl,hb,fun i x hx=>by
  rw [List.getElem?_map,Option.map_eq_some_iff] at hx
  obtain ⟨y,hy,rfl⟩:=hx
  obtain ⟨hi,rfl⟩:=List.getElem?_eq_some_iff.1 hy
  exact h i hi⟩⟩
theorem wpList_app1 {P:Program} {ops:Array Oper} {rest:List Oper} {o:Oper} {a:Act} {Q:Exit→Act→World→Prop} {w:World} (t e:TypeId) (hfacts:P.underlying t=some (.slice e)∧(P.info? e).map (fun i=>(i.zero.map fun z=>z.cells.size,i.size,decide (i.bytes≤64)))=some (some 1,1,true))
  (hgd:o.guard=none) (s x:Operand) (ho:o.op=.call { callee:=.builtin .append,args:=#[s,x],argTypes:=#[t,t] })
  (base:Nat) (v:Value) (n:Nat) (xs:List Value) (hs:a.eval s=v) (hown:w.ownsRow base e 1 v n xs)
  (b c:Nat) (u:Value) (hx:a.eval x=.slice (some ⟨b,0,none⟩) 1 c) (hy:w.cell? ⟨b,0,none⟩=some u) (hu:u.oneCell'=true) (hn:n≤1000000000000) (hbase:base≤w.heap.size)
  (h:∀ v' w',w'.ownsRow base e 1 v' (n+1) (xs++[u])→Kp (fun k=>v.ownBlock=some k) w w'→wpList P ops Q rest (a.put o.dst v') w'):wpList P ops Q (o::rest) a w:=by
 obtain ⟨ht,hi⟩:=hfacts
 cases hie:P.info? e with
 | none=>simp [hie] at hi
 | some i=>
   simp only [hie,Option.map_some,Option.some.injEq,Prod.mk.injEq,decide_eq_true_eq] at hi
   obtain ⟨hz,hsz,hby⟩:=hi
   cases hze:i.zero with
   | none=>simp [hze] at hz
   | some z=>
     simp only [hze,Option.map_some,Option.some.injEq] at hz
     have hnb:(n+1)*i.bytes≤140737488355328:=by
      have:=Nat.mul_le_mul (show n+1≤1000000000001 by omega) hby
      omega
     refine wpList_append_own w hgd s x t ho base e i z 1 i.bytes ht hie hze hsz rfl hz (by decide) v n xs hs hown ⟨b,0,none⟩ 1 c [u] hx rfl ?_ ?_ (by unfold maxLen;omega) hnb hbase ?_
     ·intro j u' hj
      match j,hj with
      | 0,hj=>simp at hj;subst hj;exact hy
     ·intro u' hu';simp at hu';subst hu';exact hu
     ·intro v' w' h1 h2 _
      exact h v' w' h1 ((Kp.refl _ w).grown h2 (fun k hk _=>hk))
theorem bytes_append (a b:List UInt8):(⟨a.toArray⟩++⟨b.toArray⟩:ByteArray)=⟨(a++b).toArray⟩:=by
 apply ByteArray.ext;simp
theorem bytes_eq {a b:ByteArray} (h:a.data.toList=b.data.toList):a=b:=by
 apply ByteArray.ext;exact Array.toList_inj.1 h
theorem bytes_self (a:ByteArray):(⟨a.data.toList.toArray⟩:ByteArray)=a:=bytes_eq (by simp)
theorem ret_val {a b:Value} (h:a=b):Ending.returned a=.returned b:=by rw [h]
end Av

namespace Av
set_option maxRecDepth 100000
open Go Go.RowKit
structure OpV where
 kind:Int
 path:ByteArray
 data:ByteArray
 ver:Int
 flags:Int
deriving DecidableEq
def OpV.cells (o:OpV):List Value:=[.int .i64 o.kind, .string o.path, .string o.data, .int .i64 o.ver, .int .i64 o.flags]
def OpV.val (o:OpV):Value:=.agg #[.int .i64 o.kind, .string o.path, .string o.data, .int .i64 o.ver, .int .i64 o.flags]
def versionedB (k:Int):Bool:=decide (k=2)||(decide (k=3)||decide (k=4))
def readsB (k:Int):Bool:=decide (k=5)||(decide (k=6)||decide (k=7))
def formedB (o:OpV):Bool:=decide (1≤o.kind)&&(decide (o.kind≤7)&&(goodL o.path.data.toList&&(decide (-1≤o.ver)&&(decide (0≤o.flags)&&decide (o.flags≤3)))))
def ownB (o:OpV):Bool:=(decide (o.data.size=0)||(decide (o.kind=1)||decide (o.kind=3)))&&((decide (o.ver=0)||versionedB o.kind)&&(decide (o.flags=0)||decide (o.kind=1)))
def numberedB (o:OpV):Bool:=decide (o.flags<2)||(decide (1<(partsL o.path.data.toList).length)&&(numberL o.path.data.toList 0).isSome)
def goodO (o:OpV):Int:=if formedB o then (if 1000<o.data.size then 2 else if ownB o&&numberedB o then 0 else 1) else 1
end Av

namespace Av
set_option maxRecDepth 100000
open Go
abbrev Rising (l:List Bs):Prop:=l.Pairwise (·<·)
theorem rising_ext:∀ {a b:List Bs},Rising a→Rising b→(∀ x,x∈a↔x∈b)→a=b
 | [],[],_,_,_=>rfl
 | [],y::b,_,_,h=>absurd ((h y).2 (by simp)) (by simp)
 | x::a,[],_,_,h=>absurd ((h x).1 (by simp)) (by simp)
 | x::a,y::b,ha,hb,h=>by
   obtain ⟨hx,ha'⟩:=List.pairwise_cons.1 ha
   obtain ⟨hy,hb'⟩:=List.pairwise_cons.1 hb
   have hxy:x=y:=by
    rcases List.mem_cons.1 ((h x).1 (by simp)) with e|e
    ·exact e
    ·rcases List.mem_cons.1 ((h y).2 (by simp)) with e2|e2
     ·exact e2.symm
     ·exact absurd (List.lt_trans (hx y e2) (hy x e)) (List.lt_irrefl x)
   subst hxy
   rw [rising_ext ha' hb' (fun z=>?_)]
   constructor
   ·intro hz
    rcases List.mem_cons.1 ((h z).1 (by simp [hz])) with e|e
    ·exact absurd (hx z hz) (by rw [e];exact List.lt_irrefl x)
    ·exact e
   ·intro hz
    rcases List.mem_cons.1 ((h z).2 (by simp [hz])) with e|e
    ·exact absurd (hy z hz) (by rw [e];exact List.lt_irrefl x)
    ·exact e
def lessN (s:Bs):List Bs→Nat
 | []=>0
 | t::r=>if t<s then lessN s r+1 else 0
theorem lessN_yes {s t:Bs} {r:List Bs} (h:t<s):lessN s (t::r)=lessN s r+1:=if_pos h
theorem lessN_no {s t:Bs} {r:List Bs} (h:¬ t<s):lessN s (t::r)=0:=if_neg h
theorem lessN_le (s:Bs):∀ (l:List Bs),lessN s l≤l.length
 | []=>Nat.le_refl _
 | t::r=>by unfold lessN;split<;>simp [lessN_le s r]
theorem lessN_take (s:Bs):∀ (l:List Bs),∀ x∈l.take (lessN s l),x<s
 | [],x,h=>by simp at h
 | t::r,x,h=>by
   unfold lessN at h
   split at h
   ·rename_i ht
    rw [List.take_succ_cons] at h
    rcases List.mem_cons.1 h with e|e
    ·subst e;exact ht
    ·exact lessN_take s r x e
   ·simp at h
theorem lessN_at (s:Bs):∀ (l:List Bs) (k:Nat) (hk:k<l.length),(∀ x∈l.take k,x<s)→¬ l[k]<s→lessN s l=k
 | [],k,hk,_,_=>by simp at hk
 | t::r,0,_,_,h=>by unfold lessN;rw [if_neg (by simpa using h)]
 | t::r,k+1,hk,h1,h2=>by
   unfold lessN
   rw [if_pos (h1 t (by simp)),lessN_at s r k (by simpa using hk) (fun x hx=>h1 x (by simp [hx])) (by simpa using h2)]
theorem lessN_get (s:Bs):∀ (l:List Bs) (h:lessN s l<l.length),¬ l[lessN s l]<s
 | [],h=>by simp at h
 | t::r,h=>by
   by_cases ht:t<s
   ·have e:lessN s (t::r)=lessN s r+1:=lessN_yes ht
    have h2:lessN s r<r.length:=by rw [e] at h;simpa using h
    have:=lessN_get s r h2
    simpa [e] using this
   ·have e:lessN s (t::r)=0:=lessN_no ht
    simpa [e] using ht
theorem lt_of_not {a b:Bs} (h:¬ a<b) (hne:a≠b):b<a:=by
 by_cases h2:b<a
 ·exact h2
 ·exact absurd (List.le_antisymm (show a≤b from h2) (show b≤a from h)) hne
end Av

namespace Av
set_option maxRecDepth 100000
open Go Go.RowKit
def Shp (u:Value):Prop:=u=.slice none 0 0∨∃ ad l c,u=.slice (some ad) l c
theorem Shp.some {ad:Addr} {l c:Nat}:Shp (.slice (some ad) l c):=.inr ⟨_,_,_,rfl⟩
theorem Shp.none:Shp (.slice none 0 0):=.inl rfl
theorem shp_owns {w:World} {base:Nat} {e:TypeId} {k:Nat} {v:Value} {n:Nat} {xs:List Value} (h:w.ownsRow base e k v n xs):Shp v:=by
 rcases h.2 with ⟨h,_⟩|⟨g,cap,cur,h,_⟩
 ·exact .inl h
 ·exact .inr ⟨_,_,_,h⟩
def ElemOk (P:Program) (t e:TypeId) (k:Nat):Prop:=P.underlying t=some (.slice e)∧(P.info? e).map (fun i=>(i.zero.map fun z=>z.cells.size,i.size,decide (i.bytes≤1000)))=some (some k,k,true)
theorem wpList_appK {P:Program} {ops:Array Oper} {rest:List Oper} {o:Oper} {a:Act} {Q:Exit→Act→World→Prop} {w:World} (t e:TypeId) (k:Nat) (hk:0<k) (hfacts:ElemOk P t e k)
  (hgd:o.guard=none) (s x:Operand) (ho:o.op=.call { callee:=.builtin .append,args:=#[s,x],argTypes:=#[t,t] })
  (base:Nat) (v:Value) (n:Nat) (xs:List Value) (hs:a.eval s=v) (hown:w.ownsRow base e k v n xs)
  (u:Value) (m:Nat) (ys:List Value) (hx:a.eval x=u) (hu:Sl w k u m ys) (hsh:Shp u) (hone:∀ y∈ys,y.oneCell'=true) (hn:n+m≤100000000000) (hbase:base≤w.heap.size)
  (h:∀ v' w',w'.ownsRow base e k v' (n+m) (xs++ys)→Kp (fun k=>v.ownBlock=some k) w w'→wpList P ops Q rest (a.put o.dst v') w'):wpList P ops Q (o::rest) a w:=by
 obtain ⟨ht,hi⟩:=hfacts
 cases hie:P.info? e with
 | none=>simp [hie] at hi
 | some i=>
   simp only [hie,Option.map_some,Option.some.injEq,Prod.mk.injEq,decide_eq_true_eq] at hi
   obtain ⟨hz,hsz,hby⟩:=hi
   cases hze:i.zero with
   | none=>simp [hze] at hz
   | some z=>
     simp only [hze,Option.map_some,Option.some.injEq] at hz
     rcases hsh with hsh|⟨ad,l,c,hsh⟩
     ·obtain ⟨a2,c2,hv,_,_,hyl,_⟩:=Sl.open hu
      have h0:m=0:=by rw [hsh] at hv;simp at hv;exact hv.2.1.symm ▸ rfl
      subst h0
      obtain rfl:ys=[]:=List.length_eq_zero_iff.1 (by simpa using hyl)
      refine wpList_append_own_none hgd s x t ho base e i k ht hie v n xs hs hown (hx.trans hsh) ?_
      exact h v w (by simpa using hown) (Kp.refl _ w)
     ·obtain ⟨a2,c2,hv,_,_,hyl,hcells⟩:=Sl.open hu
      rw [hsh] at hv
      simp at hv
      obtain ⟨h1,h2,h3⟩:=hv
      subst h2 h3
      have hnb:(n+l)*i.bytes≤140737488355328:=by
       have:=Nat.mul_le_mul hn hby
       omega
      refine wpList_append_own w hgd s x t ho base e i z k i.bytes ht hie hze hsz rfl hz hk v n xs hs hown ad l _ ys (hx.trans hsh) hyl ?_ hone (by unfold maxLen;omega) hnb hbase ?_
      ·intro j u' hj
       have hj':j<l*k:=by have:=(List.getElem?_eq_some_iff.1 hj).1;omega
       have hl0:0<l:=by
        rcases Nat.eq_zero_or_pos l with h0|h0
        ·subst h0;simp at hj'
        ·exact h0
       obtain ⟨b,off,e2,_,hc⟩:=hcells hl0
       rw [← h1] at e2
       obtain rfl:ad=⟨b,off,none⟩:=by simpa using e2
       rw [show (⟨b,off,none⟩:Addr).add j=⟨b,off+j,none⟩ by by_cases h:j=0<;>simp [Addr.add,h]]
       exact hc j u' hj
      ·intro v' w' h1 h2 _
       exact h v' w' h1 ((Kp.refl _ w).grown h2 (fun k hk _=>hk))
def Blk (w:World) (g:Nat) (cs:Array Value) (T:TypeId):Prop:=w.heap[g]? = some (.cells cs T (0,0))
theorem Blk.cell {w:World} {g:Nat} {cs:Array Value} {T:TypeId} (h:Blk w g cs T) (i:Nat) (v:Value) (hv:cs[i]? = some v):w.cell? ⟨g,i,none⟩=some v:=by
 unfold Blk at h
 simp [World.cell?,h,hv]
theorem Blk.free {w:World} {g:Nat} {cs:Array Value} {T:TypeId} (h:Blk w g cs T) (i:Nat):w.frozen? ⟨g,i,none⟩=false:=by
 unfold Blk at h
 simp [World.frozen?,h]
theorem Blk.set {w:World} {g:Nat} {cs:Array Value} {T:TypeId} (h:Blk w g cs T) (i:Nat) (u:Value):Blk (w.setCell ⟨g,i,none⟩ u) g (cs.setIfInBounds i u) T:=by
 unfold Blk at *
 simp [World.setCell,Array.getElem?_modify,h]
theorem Blk.kp {S:Nat→Prop} {w w':World} {g:Nat} {cs:Array Value} {T:TypeId} (h:Blk w g cs T) (k:Kp S w w') (hs:¬ S g):Blk w' g cs T:=k.obj h hs
theorem Blk.lt {w:World} {g:Nat} {cs:Array Value} {T:TypeId} (h:Blk w g cs T):g<w.heap.size:=(Array.getElem?_eq_some_iff.1 h).1
theorem Kp.set1 {S:Nat→Prop} {a w:World} (h:Kp S a w) (g i:Nat) (u:Value) (hs:S g):Kp S a (w.setCell ⟨g,i,none⟩ u):=h.setCell ⟨g,i,none⟩ u (fun _=>hs)
end Av

namespace Av
set_option maxRecDepth 100000
open Go Go.RowKit
theorem rowK_cell {α:Type} (f:α→List Value) (K:Nat) (hf:∀ x,(f x).length=K):∀ (xs:List α) (k:Nat) (hk:k<xs.length) (j:Nat),j<K→(xs.flatMap f)[k*K+j]? = (f xs[k])[j]?
 | [],_,hk,_,_=>by simp at hk
 | a::xs,0,_,j,hj=>by
   simp only [List.flatMap_cons,List.getElem_cons_zero,Nat.zero_mul,Nat.zero_add]
   rw [List.getElem?_append_left (by rw [hf];exact hj)]
 | a::xs,k+1,hk,j,hj=>by
   simp only [List.flatMap_cons,List.getElem_cons_succ]
   rw [List.getElem?_append_right (by rw [hf,Nat.succ_mul];omega),hf]
   rw [show (k+1)*K+j - K=k*K+j by rw [Nat.succ_mul];omega]
   exact rowK_cell f K hf xs k (by simpa using hk) j hj
theorem rowK_len {α:Type} (f:α→List Value) (K:Nat) (hf:∀ x,(f x).length=K) (xs:List α):(xs.flatMap f).length=xs.length*K:=by
 induction xs with
 | nil=>simp
 | cons a l ih=>rw [List.flatMap_cons,List.length_append,hf,ih,List.length_cons,Nat.succ_mul];omega
theorem Sl.rows {α:Type} {f:α→List Value} {K:Nat} (hf:∀ x,(f x).length=K) {w:World} {v:Value} {xs:List α} (h:Sl w K v xs.length (xs.flatMap f)) :
  ∃ a c,v=.slice a xs.length c∧xs.length≤c∧xs.length≤maxLen∧(0<xs.length→∃ b off,a=some ⟨b,off,none⟩∧b<w.heap.size∧∀ k (hk:k<xs.length) j x,j<K→(f xs[k])[j]? = some x→w.cell? ⟨b,off+k*K+j,none⟩=some x):=by
 obtain ⟨a,c,rfl,hcc,h1,_,h3⟩:=Sl.open h
 refine ⟨a,c,rfl,hcc,h1,fun hn=>?_⟩
 obtain ⟨b,off,rfl,hb,hc⟩:=h3 hn
 refine ⟨b,off,rfl,hb,fun k hk j x hj hx=>?_⟩
 rw [Nat.add_assoc]
 exact hc (k*K+j) x (by rw [rowK_cell f K hf xs k hk j hj];exact hx)
theorem flatMap_snoc {α:Type} (f:α→List Value) (xs:List α) (x:α):(xs++[x]).flatMap f=xs.flatMap f++f x:=by rw [List.flatMap_append,List.flatMap_singleton]
end Av

namespace Av
set_option maxRecDepth 100000
open Go Go.RowKit
def RowB (w:World) (b:Nat) (e:TypeId) (k cap:Nat) (xs:List Value):Prop:=
 ∃ cur,w.heap[b]? = some (.cells cur e (0,0))∧cur.size=cap*k∧cur.toList.take xs.length=xs
section
variable {w:World} {b:Nat} {e:TypeId} {k cap:Nat} {xs:List Value}
theorem RowB.lt (h:RowB w b e k cap xs):b<w.heap.size:=by obtain ⟨cur,h1,_⟩:=h;exact (Array.getElem?_eq_some_iff.1 h1).1
theorem RowB.len (h:RowB w b e k cap xs):xs.length≤cap*k:=by
 obtain ⟨cur,_,h2,h3⟩:=h
 have:=congrArg List.length h3
 rw [List.length_take] at this
 simp at this;omega
theorem RowB.cell (h:RowB w b e k cap xs) {i:Nat} {v:Value} (hv:xs[i]? = some v):w.cell? ⟨b,i,none⟩=some v:=by
 obtain ⟨cur,h1,h2,h3⟩:=h
 obtain ⟨hi,_⟩:=List.getElem?_eq_some_iff.1 hv
 rw [← h3,List.getElem?_take,if_pos hi] at hv
 simp [World.cell?,h1];simpa using hv
theorem RowB.free (h:RowB w b e k cap xs) (i:Nat):w.frozen? ⟨b,i,none⟩=false:=by
 obtain ⟨cur,h1,h2,h3⟩:=h
 simp [World.frozen?,h1]
theorem RowB.kp {S:Nat→Prop} {w':World} (h:RowB w b e k cap xs) (hk:Kp S w w') (hs:¬ S b):RowB w' b e k cap xs:=by
 obtain ⟨cur,h1,h2,h3⟩:=h
 exact ⟨cur,hk.obj h1 hs,h2,h3⟩
theorem RowB.set (h:RowB w b e k cap xs) (i:Nat) (v:Value):RowB (w.setCell ⟨b,i,none⟩ v) b e k cap (xs.set i v):=by
 obtain ⟨cur,h1,h2,h3⟩:=h
 refine ⟨cur.setIfInBounds i v, ?_,by simpa using h2, ?_⟩
 ·simp [World.setCell,Array.getElem?_modify,h1]
 ·rw [Array.toList_setIfInBounds,List.length_set,List.take_set,h3]
def setMs (xs:List Value):Nat→List Value→List Value
 | _,[]=>xs
 | o,v::r=>setMs (xs.set o v) (o+1) r
theorem RowB.setCells:∀ (vs:List Value) {w:World} {xs:List Value} (o:Nat),RowB w b e k cap xs→RowB (w.setCells b o vs) b e k cap (setMs xs o vs)
 | [],_,_,_,h=>h
 | v::r,_,_,o,h=>RowB.setCells r (o+1) (h.set o v)
theorem kp_setCells:∀ (vs:List Value) (w:World) (o:Nat),Kp (fun i=>i=b) w (w.setCells b o vs)
 | [],w,_=>Kp.refl _ w
 | v::r,w,o=>(Kp.setCell (S:=fun i=>i=b) (Kp.refl _ w) ⟨b,o,none⟩ v (fun _=>rfl)).trans (kp_setCells r _ (o+1))
theorem setMs_len:∀ (vs xs:List Value) (o:Nat),(setMs xs o vs).length=xs.length
 | [],_,_=>rfl
 | v::r,xs,o=>by unfold setMs;rw [setMs_len,List.length_set]
theorem setMs_take:∀ (vs xs:List Value) (o m:Nat),m≤o→(setMs xs o vs).take m=xs.take m
 | [],_,_,_,_=>rfl
 | v::r,xs,o,m,h=>by
   unfold setMs
   rw [setMs_take r _ _ _ (by omega),List.take_set,List.set_eq_of_length_le (by rw [List.length_take];omega)]
end
theorem RowB.of_owns {w:World} {base n cap k:Nat} {e:TypeId} {xs:List Value} {ad:Addr} (h:w.ownsRow base e k (.slice (some ad) n cap) n xs) :
  ∃ b,ad=⟨b,0,none⟩∧RowB w b e k cap xs∧xs.length=n*k∧n≤cap∧cap≤maxLen∧base≤b:=by
 obtain ⟨h1,h2|⟨g,c,cur,hv,hb,hg,hn,hm,hs,ht⟩⟩:=h
 ·simp at h2
 ·simp only [Value.slice.injEq,Option.some.injEq,true_and] at hv
  obtain ⟨rfl,rfl⟩:=hv
  exact ⟨g,rfl,⟨cur,hg,hs,by rw [h1];exact ht⟩,h1,hn,hm,hb⟩
theorem RowB.owns {w:World} {base b m cap k:Nat} {e:TypeId} {xs:List Value} (h:RowB w b e k cap xs) (hm:m*k≤xs.length) (hc:m≤cap) (hx:cap≤maxLen) (hb:base≤b) :
  w.ownsRow base e k (.slice (some ⟨b,0,none⟩) m cap) m (xs.take (m*k)):=by
 obtain ⟨cur,h1,h2,h3⟩:=h
 refine ⟨by rw [List.length_take];omega, .inr ⟨b,cap,cur,rfl,hb,h1,hc,hx,h2, ?_⟩⟩
 rw [← h3,List.take_take,Nat.min_eq_left (by omega)]
theorem flat_len {α:Type} (f:α→List Value) (K:Nat) (hf:∀ x,(f x).length=K) (xs:List α):(xs.flatMap f).length=xs.length*K:=rowK_len f K hf xs
theorem flat_take {α:Type} (f:α→List Value) (K:Nat) (hf:∀ x,(f x).length=K):∀ (xs:List α) (m:Nat),(xs.flatMap f).take (m*K)=(xs.take m).flatMap f
 | [],m=>by simp
 | x::r,0=>by simp
 | x::r,m+1=>by
   rw [List.flatMap_cons,List.take_succ_cons,List.flatMap_cons,List.take_append,hf,Nat.succ_mul,Nat.add_sub_cancel,flat_take f K hf r m,List.take_of_length_le (by rw [hf];omega)]
theorem flat_set3 {α:Type} (f:α→List Value) (x:α) (a b c:Value) (hx:f x=[a,b,c]) (hf:∀ x,(f x).length=3):∀ (xs:List α) (i:Nat),(((xs.flatMap f).set (i*3) a).set (i*3+1) b).set (i*3+2) c=(xs.set i x).flatMap f
 | [],i=>by simp
 | y::r,0=>by
   have:=hf y
   match hy:f y,this with
   | [p,q,s],_=>simp [hy,hx]
 | y::r,i+1=>by
   have ih:=flat_set3 f x a b c hx hf r i
   rw [List.set_cons_succ,List.flatMap_cons,List.flatMap_cons,← ih]
   have hl:=hf y
   rw [List.set_append_right _ _ (by rw [hl];omega),List.set_append_right _ _ (by rw [hl];omega),List.set_append_right _ _ (by rw [hl];omega),hl]
   rw [show (i+1)*3 - 3=i*3 by omega,show (i+1)*3+1 - 3=i*3+1 by omega,show (i+1)*3+2 - 3=i*3+2 by omega]
theorem run_clear_rows {P:Program} (w:World) (t e:TypeId) (z:Value) (K:Nat) (hK:z.cells.size=K) (h0:0<K) (ht:P.underlying t=some (.slice e)) (hv:∀ w,(zeroValue e).run P w=.ok z w) (h1:∀ v∈z.cells.toList,v.oneCell'=true) (b o n c:Nat) (hn:0<n)
  (hc:∀ j,j<n*K→(w.cell? ⟨b,o+j,none⟩).isSome=true) (hf:∀ j,j<n*K→w.frozen? ⟨b,o+j,none⟩=false) :
  ∃ vs:List Value,vs.length=n*K∧∀ ty,(Builtin.clear_ #[t] ty #[.slice (some ⟨b,o,none⟩) n c]).run P w=.ok (.tuple #[]) (w.setCells b o vs):=by
 refine ⟨(Builtin.zeroCells z.cells n).toList,by simp [Builtin.zeroCells,hK],fun ty=>?_⟩
 have hst:=run_storeCells_cells (P:=P) b o (Builtin.zeroCells z.cells n).toList 0 w (by simpa [Builtin.zeroCells,hK] using hc) (by simpa [Builtin.zeroCells,hK] using hf) (by
  intro v hv'
  simp only [Builtin.zeroCells,Array.toList_map,List.mem_map] at hv'
  obtain ⟨i,_,rfl⟩:=hv'
  have hlt:i % z.cells.size<z.cells.size:=Nat.mod_lt _ (by omega)
  rw [getElem!_pos z.cells _ hlt]
  exact h1 _ (by simp))
 simp only [Nat.add_zero] at hst
 obtain ⟨m,rfl⟩:∃ m,n=m+1:=⟨n - 1,by omega⟩
 simp [Builtin.clear_,run_underlying ht,hv,hst]
theorem kp_set3 {S:Nat→Prop} {a w:World} (h:Kp S a w) (b o:Nat) (x y z:Value) (hs:S b):Kp S a (((w.setCell ⟨b,o,none⟩ x).setCell ⟨b,o+1,none⟩ y).setCell ⟨b,o+2,none⟩ z):=
 ((h.set1 b _ _ hs).set1 b _ _ hs).set1 b _ _ hs
end Av

