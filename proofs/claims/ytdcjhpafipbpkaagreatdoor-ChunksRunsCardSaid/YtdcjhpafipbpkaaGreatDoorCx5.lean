/- Parts of the proof of ChunksRuns,joined: TreeP,TreeQ,TreeI,TreeJ,TreeK,TreeL,TreeM,TreeN,TreeR. No condition. -/
import Derived.Test.YtdcjhpafipbpkaaGreatDoorCx4
import Derived.Sort.Walk0
import Derived.Shelf.Spec.SearchS
import Derived.BigQuiet
set_option linter.unusedSimpArgs false
set_option linter.unusedVariables false
set_option linter.unusedSectionVars false
namespace Go.Proofs.YtdcjhpafipbpkaaGreatDoor
set_option maxRecDepth 100000
set_option maxHeartbeats 1000000
open Go.RowKit
def kless (a b:ByteArray):Bool:=Op.bytesLess a.toList b.toList
theorem kless_iff (a b:ByteArray):kless a b=true ↔ a.data.toList < b.data.toList:=by
 unfold kless; rw [bytesLess_eq,Lib.toList_data,Lib.toList_data]; simp
theorem kless_irrefl (a:ByteArray):kless a a=false:=by
 cases h:kless a a with
 | false=>rfl
 | true=>exact absurd ((kless_iff _ _).1 h) (List.lt_irrefl _)
theorem kless_trans {a b c:ByteArray} (h:kless a b=true) (g:kless b c=true):kless a c=true :=
 (kless_iff _ _).2 (List.lt_trans ((kless_iff _ _).1 h) ((kless_iff _ _).1 g))
theorem kless_total {a b:ByteArray} (h:kless a b=false) (g:kless b a=false):a=b:=by
 have h1:¬ a.data.toList < b.data.toList:=fun e=>by rw [(kless_iff _ _).2 e] at h; cases h
 have g1:¬ b.data.toList < a.data.toList:=fun e=>by rw [(kless_iff _ _).2 e] at g; cases g
 have:a.data.toList=b.data.toList:=List.le_antisymm (List.not_lt.1 g1) (List.not_lt.1 h1)
 exact ByteArray.ext (Array.toList_inj.1 this)
theorem kless_asymm {a b:ByteArray} (h:kless a b=true):kless b a=false:=by
 cases g:kless b a with
 | false=>rfl
 | true=>have k:=kless_trans h g; rw [kless_irrefl] at k; cases k
theorem kless_of_le {a b c:ByteArray} (h:kless b a=false) (g:kless b c=true):kless a c=true:=by
 by_cases e:a=b
 ·rw [e]; exact g
 ·cases k:kless a b with
  | true=>exact kless_trans k g
  | false=>exact absurd (kless_total k h) e
theorem kless_of_lt_le {a b c:ByteArray} (h:kless a b=true) (g:kless c b=false):kless a c=true:=by
 by_cases e:b=c
 ·rw [<- e]; exact h
 ·cases k:kless b c with
  | true=>exact kless_trans h k
  | false=>exact absurd (kless_total k g) e
theorem kless_ne {a b:ByteArray} (h:kless a b=true):a ≠ b:=fun e=>by rw [e,kless_irrefl] at h; cases h
theorem kle_trans {a b c:ByteArray} (h:kless b a=false) (g:kless c b=false):kless c a=false:=by
 cases k:kless c a with
 | false=>rfl
 | true=>rw [kless_of_le g k] at h; cases h
@[reducible] def PT:Nat -> Type
 | 0=>List (ByteArray × ByteArray)
 | h + 1=>List (ByteArray × Nat × PT h)
def nd:(h:Nat) -> PT h -> Nd
 | 0,l=>.leaf l
 | h + 1,l=>.inner (List.map (fun x=>(x.1,x.2.1)) l)
def ents:(h:Nat) -> PT h -> List (ByteArray × ByteArray)
 | 0,l=>l
 | h + 1,l=>List.flatMap (fun x=>ents h x.2.2) l
def pgs:(h:Nat) -> Nat -> PT h -> List Nat
 | 0,p,_=>[p]
 | h + 1,p,l=>p :: List.flatMap (fun x=>pgs h x.2.1 x.2.2) l
def sing:(h:Nat) -> PT h -> Nat
 | 0,_=>0
 | h + 1,l=>(if List.length l=1 then 1 else 0) + (List.map (fun x=>sing h x.2.2) l).sum
def Seps (h:Nat) (l:List (ByteArray × Nat × PT h)):Prop :=
 l.Pairwise (fun x y=>∀ e ∈ ents h x.2.2,kless e.1 y.1=true) /\ ∀ y ∈ l.tail,∀ e ∈ ents h y.2.2,kless e.1 y.1=false
def Wf:(h:Nat) -> PT h -> Prop
 | 0,l=>(∀ e ∈ (l:List (ByteArray × ByteArray)),e.1.size <= 96 /\ e.2.size <= 56) /\ List.Pairwise (fun a b:ByteArray × ByteArray=>kless a.1 b.1=true) l
 | h + 1,l=>(∀ x ∈ (l:List (ByteArray × Nat × PT h)),x.1.size <= 96 /\ x.2.1 < 65536 /\ 0 < (nd h x.2.2).len /\ (nd h x.2.2).size <= 512 /\ Wf h x.2.2) /\ Seps h l
def On (S:RS):(h:Nat) -> Nat -> PT h -> Prop
 | 0,p,l=>S.used p=true /\ S.cont p=pad (ofL (nd 0 l).bytes)
 | h + 1,p,l=>(S.used p=true /\ S.cont p=pad (ofL (nd (h + 1) l).bytes)) /\ ∀ x ∈ (l:List (ByteArray × Nat × PT h)),On S h x.2.1 x.2.2
structure Tr (S:RS) (h p:Nat) (t:PT h):Prop where
 wf:Wf h t
 pos:0 < (nd h t).len
 fit:(nd h t).size <= 512
 on:On S h p t
 nod:(pgs h p t).Nodup
theorem On.top {S:RS} {h p:Nat} {t:PT h} (H:On S h p t):S.used p=true /\ S.cont p=pad (ofL (nd h t).bytes):=by
 cases h with
 | zero=>exact H
 | succ h=>exact H.1
theorem On.used {S:RS}:∀ {h p:Nat} {t:PT h},On S h p t -> ∀ q ∈ pgs h p t,S.used q=true
 | 0,p,t,H,q,hq=>by simp [pgs] at hq; rw [hq]; exact H.1
 | h + 1,p,t,H,q,hq=>by
   simp only [pgs,List.mem_cons,List.mem_flatMap] at hq
   rcases hq with rfl | ⟨x,hx,hq⟩
   ·exact H.1.1
   ·exact (H.2 x hx).used q hq
theorem On.frame {S S':RS}:∀ {h p:Nat} {t:PT h},On S h p t -> (∀ q ∈ pgs h p t,S'.used q=S.used q /\ S'.cont q=S.cont q) -> On S' h p t
 | 0,p,t,H,hq=>by
   have:=hq p (by simp [pgs])
   exact ⟨this.1.trans H.1,this.2.trans H.2⟩
 | h + 1,p,t,H,hq=>by
   have:=hq p (by simp [pgs])
   refine ⟨⟨this.1.trans H.1.1,this.2.trans H.1.2⟩,fun x hx=>(H.2 x hx).frame fun q h'=>hq q ?_⟩
   simp only [pgs,List.mem_cons,List.mem_flatMap]
   exact .inr ⟨x,hx,h'⟩
theorem Tr.frame {S S':RS} {h p:Nat} {t:PT h} (H:Tr S h p t) (hq:∀ q ∈ pgs h p t,S'.used q=S.used q /\ S'.cont q=S.cont q):Tr S' h p t:=⟨H.wf,H.pos,H.fit,H.on.frame hq,H.nod⟩
theorem Tr.kid {S:RS} {h p:Nat} {l:PT (h + 1)} (H:Tr S (h + 1) p l) {x:ByteArray × Nat × PT h} (hx:x ∈ (l:List (ByteArray × Nat × PT h))):Tr S h x.2.1 x.2.2:=by
 obtain ⟨h1,h2,h3,h4,h5⟩:=H.wf.1 x hx
 refine ⟨h5,h3,h4,H.on.2 x hx,?_⟩
 have:=(List.nodup_cons.1 H.nod).2
 obtain ⟨A,B,rfl⟩:=List.append_of_mem hx
 rw [List.flatMap_append,List.flatMap_cons] at this
 exact (List.nodup_append.1 (List.nodup_append.1 this).2.1).1
theorem nd_leaf (l:PT 0):nd 0 l=.leaf l:=rfl
theorem nd_len0 (l:PT 0):(nd 0 l).len=List.length l:=by simp [nd,Nd.len,Nd.keys]
theorem nd_lenS (h:Nat) (l:PT (h + 1)):(nd (h + 1) l).len=List.length l:=by simp [nd,Nd.len,Nd.keys]
theorem ents_pos:∀ {h:Nat} {t:PT h},Wf h t -> 0 < (nd h t).len -> 0 < (ents h t).length
 | 0,t,_,hp=>by rw [nd_len0] at hp; exact hp
 | h + 1,t,H,hp=>by
   rw [nd_lenS] at hp
   cases t with
   | nil=>simp at hp
   | cons x t =>
     obtain ⟨h1,h2,h3,h4,h5⟩:=H.1 x (by simp)
     have:=ents_pos h5 h3
     simp only [ents,List.flatMap_cons,List.length_append]; omega
def esL (e:ByteArray × ByteArray):Nat:=2 + e.1.size + e.2.size
def esI (e:ByteArray × Nat):Nat:=5 + e.1.size
theorem szUp_leaf (l:List (ByteArray × ByteArray)) (n:Nat) (hn:n <= l.length):szUp true (l.map Prod.fst) (l.map Prod.snd) n=3 + ((l.take n).map esL).sum:=by
 induction n with
 | zero=>simp [szUp]
 | succ n ih =>
   have hlt:n < l.length:=hn
   rw [szUp,ih (by omega),List.take_succ_eq_append_getElem hlt,List.map_append,List.sum_append]
   simp only [esz,if_true,List.map_cons,List.map_nil,List.sum_cons,List.sum_nil,esL]
   rw [getD_at _ _ (by simpa using hlt),getD_at _ _ (by simpa using hlt)]
   simp; omega
theorem szUp_inner (l:List (ByteArray × Nat)) (V:List ByteArray) (n:Nat) (hn:n <= l.length):szUp false (l.map Prod.fst) V n=3 + ((l.take n).map esI).sum:=by
 induction n with
 | zero=>simp [szUp]
 | succ n ih =>
   have hlt:n < l.length:=hn
   rw [szUp,ih (by omega),List.take_succ_eq_append_getElem hlt,List.map_append,List.sum_append]
   simp only [esz,Bool.false_eq_true,if_false,List.map_cons,List.map_nil,List.sum_cons,List.sum_nil,esI]
   rw [getD_at _ _ (by simpa using hlt)]
   simp; omega
theorem size_leaf (l:List (ByteArray × ByteArray)):(Nd.leaf l).size=3 + (l.map esL).sum:=by
 have:=szUp_leaf l l.length (Nat.le_refl _)
 rw [List.take_length] at this
 simpa [Nd.size,Nd.isLeaf,Nd.keys,Nd.vals,Nd.len] using this
theorem size_inner (l:List (ByteArray × Nat)):(Nd.inner l).size=3 + (l.map esI).sum:=by
 have:=szUp_inner l [] l.length (Nat.le_refl _)
 rw [List.take_length] at this
 simpa [Nd.size,Nd.isLeaf,Nd.keys,Nd.vals,Nd.len] using this
theorem sum_ge {α:Type} (f:α -> Nat) (c:Nat) (l:List α) (h:∀ x ∈ l,c <= f x):c * l.length <= (l.map f).sum:=by
 induction l with
 | nil=>simp
 | cons x t ih =>
   have h1:=h x (by simp)
   have h2:=ih fun y hy=>h y (by simp [hy])
   simp only [List.length_cons,List.map_cons,List.sum_cons,Nat.mul_add]; omega
theorem sum_le {α:Type} (f:α -> Nat) (c:Nat) (l:List α) (h:∀ x ∈ l,f x <= c):(l.map f).sum <= c * l.length:=by
 induction l with
 | nil=>simp
 | cons x t ih =>
   have h1:=h x (by simp)
   have h2:=ih fun y hy=>h y (by simp [hy])
   simp only [List.length_cons,List.map_cons,List.sum_cons,Nat.mul_add]; omega
theorem size_len (d:Nd):3 + 2 * d.len <= d.size:=by
 cases d with
 | leaf l =>
   rw [size_leaf]
   have:=sum_ge esL 2 l fun x _=>by unfold esL; omega
   simp [Nd.len,Nd.keys]; omega
 | inner l =>
   rw [size_inner]
   have:=sum_ge esI 2 l fun x _=>by unfold esI; omega
   simp [Nd.len,Nd.keys]; omega
theorem Wf.ok {h:Nat} {t:PT h} (H:Wf h t) (hp:0 < (nd h t).len) (hs:(nd h t).size <= 100000):(nd h t).Ok:=by
 have hl:=size_len (nd h t)
 cases h with
 | zero =>
   refine ⟨hp,by omega,fun k hk=>?_,fun v hv=>?_,fun c hc=>?_⟩
   ·simp only [nd,Nd.keys,List.mem_map] at hk
    obtain ⟨e,he,rfl⟩:=hk
    exact (H.1 e he).1
   ·simp only [nd,Nd.vals,List.mem_map] at hv
    obtain ⟨e,he,rfl⟩:=hv
    exact (H.1 e he).2
   ·simp [nd,Nd.kids] at hc
 | succ h =>
   refine ⟨hp,by omega,fun k hk=>?_,fun v hv=>?_,fun c hc=>?_⟩
   ·simp only [nd,Nd.keys,List.map_map,List.mem_map] at hk
    obtain ⟨e,he,rfl⟩:=hk
    exact (H.1 e he).1
   ·simp [nd,Nd.vals] at hv
   ·simp only [nd,Nd.kids,List.map_map,List.mem_map] at hc
    obtain ⟨e,he,rfl⟩:=hc
    have:=(H.1 e he).2.1
    exact Nat.lt_trans this (by decide)
theorem Tr.ok {S:RS} {h p:Nat} {t:PT h} (H:Tr S h p t):(nd h t).Ok:=H.wf.ok H.pos (Nat.le_trans H.fit (by decide))
theorem bytes_len (d:Nd):d.bytes.length=d.size:=by
 cases d with
 | leaf l =>
   have e:(l.flatMap entL).length=(l.map esL).sum:=by
    rw [List.length_flatMap]
    congr 1
    refine List.map_congr_left fun e _=>?_
    simp only [entL,esL,List.length_append,List.length_cons,List.length_nil,Lib.size_eq]; omega
   rw [size_leaf,<- e]
   simp [Nd.bytes,Nd.body]; omega
 | inner l =>
   have e:(l.flatMap entI).length=(l.map esI).sum:=by
    rw [List.length_flatMap]
    congr 1
    refine List.map_congr_left fun e _=>?_
    simp only [entI,esI,be4,List.length_append,List.length_cons,List.length_nil,Lib.size_eq]; omega
   rw [size_inner,<- e]
   simp [Nd.bytes,Nd.body]; omega
def Srt (E:List (ByteArray × ByteArray)):Prop:=List.Pairwise (fun a b:ByteArray × ByteArray=>kless a.1 b.1=true) E
def Ins (key val:ByteArray) (E E':List (ByteArray × ByteArray)):Prop :=
 ∃ A B,E'=A ++ (key,val) :: B /\ (E=A ++ B \/ ∃ v,E=A ++ (key,v) :: B) /\ (∀ a ∈ A,kless a.1 key=true) /\ ∀ b ∈ B,kless key b.1=true
theorem Ins.lift {key val:ByteArray} {E E':List (ByteArray × ByteArray)} (H:Ins key val E E') (X Y:List (ByteArray × ByteArray)) (hX:∀ a ∈ X,kless a.1 key=true) (hY:∀ b ∈ Y,kless key b.1=true):Ins key val (X ++ (E ++ Y)) (X ++ (E' ++ Y)):=by
 obtain ⟨A,B,rfl,h,hA,hB⟩:=H
 refine ⟨X ++ A,B ++ Y,by simp,?_,fun a ha=>?_,fun b hb=>?_⟩
 ·rcases h with rfl | ⟨v,rfl⟩
  ·exact .inl (by simp)
  ·exact .inr ⟨v,by simp⟩
 ·rcases List.mem_append.1 ha with h | h
  ·exact hX a h
  ·exact hA a h
 ·rcases List.mem_append.1 hb with h | h
  ·exact hB b h
  ·exact hY b h
theorem Ins.mem {key val:ByteArray} {E E':List (ByteArray × ByteArray)} (H:Ins key val E E'):∀ e ∈ E',e.1=key \/ e ∈ E:=by
 obtain ⟨A,B,rfl,h,hA,hB⟩:=H
 intro e he
 rcases List.mem_append.1 he with h1 | h1
 ·right; rcases h with rfl | ⟨v,rfl⟩ <;> simp [h1]
 ·rcases List.mem_cons.1 h1 with rfl | h1
  ·exact .inl rfl
  ·right; rcases h with rfl | ⟨v,rfl⟩ <;> simp [h1]
theorem srt_mid {A B:List (ByteArray × ByteArray)} {key val:ByteArray} (h:Srt (A ++ B)) (hA:∀ a ∈ A,kless a.1 key=true) (hB:∀ b ∈ B,kless key b.1=true):Srt (A ++ (key,val) :: B):=by
 obtain ⟨h1,h2,h3⟩:=List.pairwise_append.1 h
 refine List.pairwise_append.2 ⟨h1,List.pairwise_cons.2 ⟨hB,h2⟩,fun a ha b hb=>?_⟩
 rcases List.mem_cons.1 hb with rfl | hb
 ·exact hA a ha
 ·exact h3 a ha b hb
theorem srt_of {A B:List (ByteArray × ByteArray)} {e:ByteArray × ByteArray} (h:Srt (A ++ e :: B)):Srt (A ++ B) /\ (∀ a ∈ A,kless a.1 e.1=true) /\ ∀ b ∈ B,kless e.1 b.1=true:=by
 obtain ⟨h1,h2,h3⟩:=List.pairwise_append.1 h
 obtain ⟨h4,h5⟩:=List.pairwise_cons.1 h2
 exact ⟨List.pairwise_append.2 ⟨h1,h5,fun a ha b hb=>h3 a ha b (by simp [hb])⟩,fun a ha=>h3 a ha e (by simp),h4⟩
theorem lb_split (l:List (ByteArray × ByteArray)) (key:ByteArray) (h:Srt l):∃ A B,l=A ++ B /\ (∀ a ∈ A,kless a.1 key=true) /\ (∀ b ∈ B,kless b.1 key=false) /\ ((∃ v B',B=(key,v) :: B' /\ ∀ b ∈ B',kless key b.1=true) \/ (∀ b ∈ B,kless key b.1=true)):=by
 induction l with
 | nil=>exact ⟨[],[],rfl,by simp,by simp,.inr (by simp)⟩
 | cons x t ih =>
   obtain ⟨hx,ht⟩:=List.pairwise_cons.1 h
   cases hk:kless x.1 key with
   | true =>
     obtain ⟨A,B,rfl,hA,hB,h3⟩:=ih ht
     exact ⟨x :: A,B,rfl,fun a ha=>(by rcases List.mem_cons.1 ha with rfl | ha <;> first | exact hk | exact hA a ha),hB,h3⟩
   | false =>
     have hle:∀ b ∈ x :: t,kless b.1 key=false:=fun b hb=>by
      rcases List.mem_cons.1 hb with rfl | hb
      ·exact hk
      ·cases g:kless b.1 key with
       | false=>rfl
       | true=>rw [kless_trans (hx b hb) g] at hk; cases hk
     refine ⟨[],x :: t,rfl,by simp,hle,?_⟩
     cases g:kless key x.1 with
     | true =>
       refine .inr fun b hb=>?_
       rcases List.mem_cons.1 hb with rfl | hb
       ·exact g
       ·exact kless_trans g (hx b hb)
     | false =>
       have e:x.1=key:=kless_total hk g
       refine .inl ⟨x.2,t,by rw [<- e],fun b hb=>by rw [<- e]; exact hx b hb⟩
abbrev Kid (h:Nat):=ByteArray × Nat × PT h
def Way (key:ByteArray) {h:Nat} (A:List (Kid h)) (x:Kid h) (B:List (Kid h)):Prop:=(A ≠ [] -> kless key x.1=false) /\ ∀ y ∈ B,kless key y.1=true
theorem seps_tail {h:Nat} {A:List (Kid h)} {x:Kid h} {B:List (Kid h)}:(∀ y ∈ (A ++ x :: B).tail,∀ e ∈ ents h y.2.2,kless e.1 y.1=false) ↔ (∀ y ∈ A.tail,∀ e ∈ ents h y.2.2,kless e.1 y.1=false) /\ (A ≠ [] -> ∀ e ∈ ents h x.2.2,kless e.1 x.1=false) /\ ∀ y ∈ B,∀ e ∈ ents h y.2.2,kless e.1 y.1=false:=by
 cases A with
 | nil=>simp
 | cons a A =>
   simp only [List.cons_append,List.tail_cons,List.mem_append,List.mem_cons]
   constructor
   ·intro H; exact ⟨fun y hy=>H y (.inl hy),fun _=>H x (.inr (.inl rfl)),fun y hy=>H y (.inr (.inr hy))⟩
   ·rintro ⟨h1,h2,h3⟩ y (hy | rfl | hy) <;> first | exact h1 y hy | exact h2 (by simp) | exact h3 y hy
theorem seps_pair {h:Nat} {A:List (Kid h)} {x:Kid h} {B:List (Kid h)}:((A ++ x :: B).Pairwise (fun x y=>∀ e ∈ ents h x.2.2,kless e.1 y.1=true)) ↔
 A.Pairwise (fun x y=>∀ e ∈ ents h x.2.2,kless e.1 y.1=true) /\ B.Pairwise (fun x y=>∀ e ∈ ents h x.2.2,kless e.1 y.1=true) /\ (∀ a ∈ A,∀ e ∈ ents h a.2.2,kless e.1 x.1=true) /\ (∀ b ∈ B,∀ e ∈ ents h x.2.2,kless e.1 b.1=true) /\ ∀ a ∈ A,∀ b ∈ B,∀ e ∈ ents h a.2.2,kless e.1 b.1=true:=by
 rw [List.pairwise_append,List.pairwise_cons]
 constructor
 ·rintro ⟨h1,⟨h2,h3⟩,h4⟩
  exact ⟨h1,h3,fun a ha=>h4 a ha x (by simp),h2,fun a ha b hb=>h4 a ha b (by simp [hb])⟩
 ·rintro ⟨h1,h2,h3,h4,h5⟩
  refine ⟨h1,⟨h4,h2⟩,fun a ha b hb=>?_⟩
  rcases List.mem_cons.1 hb with rfl | hb <;> first | exact h3 a ha | exact h5 a ha b hb
theorem Seps.way {h:Nat} {A B:List (Kid h)} {x:Kid h} {key:ByteArray} (H:Seps h (A ++ x :: B)) (W:Way key A x B):(∀ a ∈ A,∀ e ∈ ents h a.2.2,kless e.1 key=true) /\ ∀ b ∈ B,∀ e ∈ ents h b.2.2,kless key e.1=true:=by
 obtain ⟨-,-,h3,-,-⟩:=seps_pair.1 H.1
 obtain ⟨-,-,h6⟩:=seps_tail.1 H.2
 refine ⟨fun a ha e he=>?_,fun b hb e he=>?_⟩
 ·exact kless_of_lt_le (h3 a ha e he) (W.1 (List.ne_nil_of_mem ha))
 ·exact kless_of_lt_le (W.2 b hb) (h6 b hb e he)
theorem Seps.set {h:Nat} {A B:List (Kid h)} {x:Kid h} {key:ByteArray} (H:Seps h (A ++ x :: B)) (W:Way key A x B) (p:Nat) (t:PT h) (ht:∀ e ∈ ents h t,e.1=key \/ e ∈ ents h x.2.2):Seps h (A ++ (x.1,p,t) :: B):=by
 obtain ⟨h1,h2,h3,h4,h5⟩:=seps_pair.1 H.1
 obtain ⟨h6,h7,h8⟩:=seps_tail.1 H.2
 refine ⟨seps_pair.2 ⟨h1,h2,h3,fun b hb e he=>?_,h5⟩,seps_tail.2 ⟨h6,fun hA e he=>?_,h8⟩⟩
 ·rcases ht e he with h | h
  ·rw [h]; exact W.2 b hb
  ·exact h4 b hb e h
 ·rcases ht e he with h | h
  ·rw [h]; exact W.1 hA
  ·exact h7 hA e h
theorem Seps.part {h:Nat} {A B:List (Kid h)} {x:Kid h} {key k:ByteArray} (H:Seps h (A ++ x :: B)) (W:Way key A x B) (p q:Nat) (t u:PT h) (ht:∀ e ∈ ents h t,e.1=key \/ e ∈ ents h x.2.2) (hu:∀ e ∈ ents h u,e.1=key \/ e ∈ ents h x.2.2)
 (h0:0 < (ents h t).length) (hk:∀ e ∈ ents h t,kless e.1 k=true) (hk2:∀ e ∈ ents h u,kless e.1 k=false):Seps h (A ++ (x.1,p,t) :: (k,q,u) :: B):=by
 obtain ⟨h1,h2,h3,h4,h5⟩:=seps_pair.1 H.1
 obtain ⟨h6,h7,h8⟩:=seps_tail.1 H.2
 have T:=H.set W p t ht
 obtain ⟨g1,g2,g3,g4,g5⟩:=seps_pair.1 T.1
 obtain ⟨g6,g7,g8⟩:=seps_tail.1 T.2
 have hu':∀ b ∈ B,∀ e ∈ ents h u,kless e.1 b.1=true:=fun b hb e he=>by
  rcases hu e he with h | h
  ·rw [h]; exact W.2 b hb
  ·exact h4 b hb e h
 obtain ⟨e0,he0⟩:∃ e0,e0 ∈ ents h t:=⟨_,List.getElem_mem h0⟩
 refine ⟨seps_pair.2 ⟨h1,List.pairwise_cons.2 ⟨hu',h2⟩,h3,fun b hb e he=>?_,fun a ha b hb e he=>?_⟩,seps_tail.2 ⟨h6,g7,fun y hy=>?_⟩⟩
 ·rcases List.mem_cons.1 hb with rfl | hb
  ·exact hk e he
  ·exact g4 b hb e he
 ·rcases List.mem_cons.1 hb with rfl | hb
  ·exact kless_trans (kless_of_lt_le (h3 a ha e he) (g7 (List.ne_nil_of_mem ha) e0 he0)) (hk e0 he0)
  ·exact h5 a ha b hb e he
 ·rcases List.mem_cons.1 hy with rfl | hy
  ·exact hk2
  ·exact h8 y hy
theorem Seps.away {h:Nat} {A B:List (Kid h)} {x:Kid h} (H:Seps h (A ++ x :: B)):Seps h (A ++ B):=by
 obtain ⟨h6,h7,h8⟩:=seps_tail.1 H.2
 refine ⟨H.1.sublist (by simp),fun y hy=>?_⟩
 cases A with
 | nil=>exact h8 y (List.mem_of_mem_tail hy)
 | cons a A =>
   simp only [List.cons_append,List.tail_cons,List.mem_append] at hy
   rcases hy with hy | hy
   ·exact h6 y hy
   ·exact h8 y hy
theorem Seps.join {h:Nat} {A B:List (Kid h)} {x y:Kid h} (H:Seps h (A ++ x :: y :: B)) (p:Nat) (t:PT h) (ht:ents h t=ents h x.2.2 ++ ents h y.2.2) (h0:0 < (ents h x.2.2).length):Seps h (A ++ (x.1,p,t) :: B):=by
 obtain ⟨h1,h2,h3,h4,h5⟩:=seps_pair.1 H.1
 obtain ⟨h6,h7,h8⟩:=seps_tail.1 H.2
 obtain ⟨h9,h10⟩:=List.pairwise_cons.1 h2
 obtain ⟨e0,he0⟩:∃ e0,e0 ∈ ents h x.2.2:=⟨_,List.getElem_mem h0⟩
 refine ⟨seps_pair.2 ⟨h1,h10,h3,fun b hb e he=>?_,fun a ha b hb=>h5 a ha b (by simp [hb])⟩,seps_tail.2 ⟨h6,fun hA e he=>?_,fun b hb=>h8 b (by simp [hb])⟩⟩
 ·simp only [ht,List.mem_append] at he
  rcases he with he | he
  ·exact h4 b (by simp [hb]) e he
  ·exact h9 b hb e he
 ·simp only [ht,List.mem_append] at he
  rcases he with he | he
  ·exact h7 hA e he
  ·have a1:=h7 hA e0 he0
   have a2:=h4 y (by simp) e0 he0
   have a3:=h8 y (by simp) e he
   have:=kless_of_lt_le a2 a3
   exact kle_trans a1 (kless_asymm this)
theorem ents_mid (h:Nat) (A B:List (Kid h)) (x:Kid h):ents (h + 1) (A ++ x :: B)=ents (h + 1) A ++ (ents h x.2.2 ++ ents (h + 1) B):=by
 simp [ents]
theorem ents_app (h:Nat) (A B:List (Kid h)):ents (h + 1) (A ++ B:List (Kid h))=ents (h + 1) A ++ ents (h + 1) B:=by
 simp [ents]
theorem ents_mem (h:Nat) (A:List (Kid h)) (e:ByteArray × ByteArray):e ∈ ents (h + 1) A ↔ ∃ a ∈ A,e ∈ ents h a.2.2:=by
 simp [ents]
theorem Wf.srt:∀ {h:Nat} {t:PT h},Wf h t -> Srt (ents h t)
 | 0,t,H=>H.2
 | h + 1,t,H=>by
   show List.Pairwise _ (List.flatMap (fun x:Kid h=>ents h x.2.2) t)
   rw [List.pairwise_flatMap]
   refine ⟨fun x hx=>Wf.srt (H.1 x hx).2.2.2.2,?_⟩
   have:=H.2
   have hs:∀ l:List (Kid h),Seps h l -> l.Pairwise (fun x y=>∀ e ∈ ents h x.2.2,∀ f ∈ ents h y.2.2,kless e.1 f.1=true):=by
    intro l
    induction l with
    | nil=>intro _; exact List.Pairwise.nil
    | cons x l ih =>
      intro hl
      obtain ⟨a1,a2⟩:=List.pairwise_cons.1 hl.1
      refine List.pairwise_cons.2 ⟨fun y hy e he f hf=>kless_of_lt_le (a1 y hy e he) (hl.2 y hy f hf),ih ⟨a2,fun y hy=>hl.2 y (List.mem_of_mem_tail hy)⟩⟩
   exact hs t this
theorem way_split {h:Nat} (l:List (Kid h)) (key:ByteArray) (hs:l.tail.Pairwise (fun x y=>kless x.1 y.1=true)) (hp:0 < l.length):∃ A x B,l=A ++ x :: B /\ Way key A x B /\ ∀ y ∈ A.tail,kless key y.1=false:=by
 cases l with
 | nil=>simp at hp
 | cons x0 l =>
   simp only [List.tail_cons] at hs
   clear hp
   induction l generalizing x0 with
   | nil=>exact ⟨[],x0,[],rfl,⟨by simp,by simp⟩,by simp⟩
   | cons x1 l ih =>
     obtain ⟨a1,a2⟩:=List.pairwise_cons.1 hs
     cases hk:kless key x1.1 with
     | true =>
       refine ⟨[],x0,x1 :: l,rfl,⟨by simp,fun y hy=>?_⟩,by simp⟩
       rcases List.mem_cons.1 hy with rfl | hy
       ·exact hk
       ·exact kless_trans hk (a1 y hy)
     | false =>
       obtain ⟨A,x,B,e,W,hA⟩:=ih x1 a2
       refine ⟨x0 :: A,x,B,by rw [e]; rfl,⟨fun _=>?_,W.2⟩,fun y hy=>?_⟩
       ·cases A with
        | nil=>simp at e; rw [<- e.1]; exact hk
        | cons a A=>exact W.1 (by simp)
       ·cases A with
        | nil=>simp at hy
        | cons a A =>
          simp at e
          rcases List.mem_cons.1 hy with rfl | hy
          ·rw [<- e.1]; exact hk
          ·exact hA y hy
theorem Seps.keys {h:Nat} {l:List (Kid h)} (H:Seps h l) (hp:∀ x ∈ l,0 < (ents h x.2.2).length):l.tail.Pairwise (fun x y=>kless x.1 y.1=true):=by
 cases l with
 | nil=>exact List.Pairwise.nil
 | cons x l =>
   refine List.Pairwise.imp_of_mem (R:=fun x y=>∀ e ∈ ents h x.2.2,kless e.1 y.1=true) (fun {a b} ha hb hab=>?_) (List.pairwise_cons.1 H.1).2
   obtain ⟨e0,he0⟩:∃ e0,e0 ∈ ents h a.2.2:=⟨_,List.getElem_mem (hp a (by simp at ha; simp [ha]))⟩
   exact kless_of_le (H.2 a ha e0 he0) (hab e0 he0)
theorem Upd.drewN {S:Nat -> Prop} {a w:World} (h:Upd S a w) (q:Nat):Upd S a (w.drewN q):=⟨h.os,h.tape,h.output,h.size,h.block⟩
def DelRow (e:TypeId) (base:Nat) (v:Value) (n:Nat) (xs:List Value) (w:World) (v':Value) (w':World):Prop :=
 w'.ownsRow base e 1 v' n xs /\ Upd (fun k=>v.ownBlock=some k) w w' /\ v'.ownBlock=v.ownBlock
theorem strs_map (K:List ByteArray) (d:ByteArray):(Lib.strsOf (fun i=>K.getD i d) K.length).map encStr=K.map Value.string:=by
 apply List.ext_getElem
 ·simp [Lib.strsOf]
 ·intro i h1 h2
  have h3:i < K.length:=by simpa using h2
  simp [Lib.strsOf,encStr,getD_at _ _ h3]
  simp [h3]
theorem cut_mid {α:Type} (A B:List α) (x:α):(A ++ x :: B).take A.length=A /\ (A ++ x :: B).drop (A.length + 1)=B:=by
 refine ⟨List.take_left,?_⟩
 rw [show A ++ x :: B=(A ++ [x]) ++ B by simp]
 exact List.drop_left' (by simp)
theorem DelS_c (base:Nat) (v:Value) (A B:List ByteArray) (x:ByteArray) (w:World) (h:w.ownsRow base 9 1 v (A.length + 1 + B.length) ((A ++ x :: B).map Value.string)) :
 Calls Tryz.prog 217 #[v,.int .i64 (A.length:Nat),.int .i64 ((A.length:Int) + 1)] w fun e w'=>∃ v',e=.returned v' /\ Hid (DelRow 9 base v (A.length + B.length) ((A ++ B).map Value.string) w v' w'):=by
 rcases h.2 with ⟨rfl,h0⟩ | ⟨g,cap,cur0,rfl,-⟩
 ·omega
 ·obtain ⟨cur,g1,g2,g3,g4,g5,g6,g7,Z,g8,g9⟩:=row_lit h
  have hl:(A ++ x :: B).length=A.length + 1 + B.length:=by simp; omega
  have hc:∀ i,i < A.length + 1 + B.length -> w.cell? ⟨g,0 + i,none⟩=some (.string ((A ++ x :: B).getD i ByteArray.empty)):=fun i hi=>by
   rw [Nat.zero_add]; refine cell_lit g1 ?_
   have hi':i < (A ++ x :: B).length:=by omega
   rw [<- Array.getElem?_toList,g8,List.getElem?_append_left (by simpa using hi'),getD_at _ _ hi',List.getElem?_map,List.getElem?_eq_getElem hi']
   rfl
  have e1:((A.length:Int) + 1)=((A.length + 1:Nat):Int):=by omega
  rw [e1]
  refine (Any.slices_Delete_string_cells Tryz.laysNm224 g 0 (A.length + 1 + B.length) cap A.length (A.length + 1) (fun i=>(A ++ x :: B).getD i ByteArray.empty) w g3 (by unfold maxLen at g4; omega) (by omega) (by omega) hc (fun j hj=>frozen_lit g1 _)).mono ?_
  rintro e w' ⟨rfl,q,rfl⟩
  have e2:(Lib.strsOf (fun i=>(A ++ x :: B).getD i ByteArray.empty) (A.length + 1 + B.length)).map encStr=(A ++ x :: B).map Value.string:=by rw [<- hl]; exact strs_map _ _
  have hlA:A.length=(A.map Value.string).length:=by simp
  have e3:(((Lib.strsOf (fun i=>(A ++ x :: B).getD i ByteArray.empty) (A.length + 1 + B.length)).take A.length ++ (Lib.strsOf (fun i=>(A ++ x :: B).getD i ByteArray.empty) (A.length + 1 + B.length)).drop (A.length + 1) ++ List.replicate (A.length + 1 - A.length) []).map encStr)=(A ++ B).map Value.string ++ [Value.string ⟨#[]⟩]:=by
   rw [List.map_append,List.map_append,List.map_take,List.map_drop,e2,List.map_append,List.map_cons,hlA,(cut_mid _ _ _).1,(cut_mid _ _ _).2,List.map_append,Nat.add_sub_cancel_left]
   rfl
  rw [e3,show A.length + 1 + B.length - (A.length + 1 - A.length)=A.length + B.length by omega]
  have a1:=setCells_lit g ((A ++ B).map Value.string ++ [Value.string ⟨#[]⟩]) 0 (w.drewN q) cur g1
  refine ⟨_,rfl,row_mk a1 g2 (by omega) g4 (by rw [wrA_size]; exact g5) (Z:=Value.string ⟨#[]⟩ :: Z) ?_ (by simp),Upd.setCells (S:=fun k=>(Value.slice (some (⟨g,0,none⟩:Addr)) (A.length + 1 + B.length) cap).ownBlock=some k) (b:=g) (.inl rfl) _ _ ((Upd.refl _ _).drewN q),rfl⟩
  exact (wrA_toList ((A ++ B).map Value.string ++ [Value.string ⟨#[]⟩]) 0 cur [] ((A ++ x :: B).map Value.string) Z (by rw [g8]; rfl) rfl (by simp)).trans (by rw [List.nil_append,List.append_assoc]; rfl)
theorem DelI_c (base:Nat) (v:Value) (A B:List Nat) (x:Nat) (w:World) (h:w.ownsRow base 3 1 v (A.length + 1 + B.length) ((A ++ x :: B).map fun c:Nat=>Value.int .i64 (c:Int))) :
 Calls Tryz.prog 218 #[v,.int .i64 (A.length:Nat),.int .i64 ((A.length:Int) + 1)] w fun e w'=>∃ v',e=.returned v' /\ Hid (DelRow 3 base v (A.length + B.length) ((A ++ B).map fun c:Nat=>Value.int .i64 (c:Int)) w v' w'):=by
 rcases h.2 with ⟨rfl,h0⟩ | ⟨g,cap,cur0,rfl,-⟩
 ·omega
 ·obtain ⟨cur,g1,g2,g3,g4,g5,g6,g7,Z,g8,g9⟩:=row_lit h
  have hl:((A ++ x :: B).map fun c:Nat=>(c:Int)).length=A.length + 1 + B.length:=by simp; omega
  have hc:∀ i,i < ((A ++ x :: B).map fun c:Nat=>(c:Int)).length -> w.cell? ⟨g,0 + i,none⟩=some (.int .i64 (((A ++ x :: B).map fun c:Nat=>(c:Int)).getD i 0)):=fun i hi=>by
   rw [Nat.zero_add]; refine cell_lit g1 ?_
   have hi':i < (A ++ x :: B).length:=by simpa using hi
   rw [<- Array.getElem?_toList,g8,List.getElem?_append_left (by simpa using hi'),getD_at _ _ hi,List.getElem?_map,List.getElem?_eq_getElem hi',List.getElem_map]
   rfl
  have e1:((A.length:Int) + 1)=((A.length + 1:Nat):Int):=by omega
  rw [e1]
  refine (Any.slices_Delete_int_cells Tryz.laysNm223 g 0 (A.length + 1 + B.length) cap A.length (A.length + 1) ((A ++ x :: B).map fun c:Nat=>(c:Int)) w (by omega) g3 (by unfold maxLen at g4; omega) (by omega) (by omega) hc (fun j hj=>frozen_lit g1 _)).mono ?_
  rintro e w' ⟨rfl,q,rfl⟩
  have hlA:A.length=(A.map fun c:Nat=>(c:Int)).length:=by simp
  have e3:((((((A ++ x :: B).map fun c:Nat=>(c:Int)).take (A.length + 1 + B.length)).take A.length) ++ ((((A ++ x :: B).map fun c:Nat=>(c:Int)).take (A.length + 1 + B.length)).drop (A.length + 1)) ++ List.replicate (A.length + 1 - A.length) 0).map (Value.int .i64))=((A ++ B).map fun c:Nat=>Value.int .i64 (c:Int)) ++ [Value.int .i64 0]:=by
   rw [List.take_of_length_le (by omega:((A ++ x :: B).map fun c:Nat=>(c:Int)).length <= A.length + 1 + B.length),show ((A ++ x :: B).map fun c:Nat=>(c:Int))=(A.map fun c:Nat=>(c:Int)) ++ (x:Int) :: (B.map fun c:Nat=>(c:Int)) by simp,hlA,(cut_mid _ _ _).1,(cut_mid _ _ _).2,Nat.add_sub_cancel_left,List.map_append,List.map_append,List.map_append,List.map_map,List.map_map]
   rfl
  rw [e3,show A.length + 1 + B.length - (A.length + 1 - A.length)=A.length + B.length by omega]
  have a1:=setCells_lit g (((A ++ B).map fun c:Nat=>Value.int .i64 (c:Int)) ++ [Value.int .i64 0]) 0 (w.drewN q) cur g1
  refine ⟨_,rfl,row_mk a1 g2 (by omega) g4 (by rw [wrA_size]; exact g5) (Z:=Value.int .i64 0 :: Z) ?_ (by simp),Upd.setCells (S:=fun k=>(Value.slice (some (⟨g,0,none⟩:Addr)) (A.length + 1 + B.length) cap).ownBlock=some k) (b:=g) (.inl rfl) _ _ ((Upd.refl _ _).drewN q),rfl⟩
  exact (wrA_toList (((A ++ B).map fun c:Nat=>Value.int .i64 (c:Int)) ++ [Value.int .i64 0]) 0 cur [] ((A ++ x :: B).map fun c:Nat=>Value.int .i64 (c:Int)) Z (by rw [g8]; rfl) rfl (by simp)).trans (by rw [List.nil_append,List.append_assoc]; rfl)
theorem bs_spec (less:Nat -> Bool) (n k:Nat) (hk:k <= n) (h1:∀ t,t < k -> less t=true) (h2:∀ t,k <= t -> less t=false):Lib.bsGo less n 0 n=k:=Lib.bsGo_spec less k h1 h2 n 0 n (by omega) (by omega) hk
theorem find_c (there:Bool) (p:Nat) (d:Nd) (vk vv vi:Value) (A B:List ByteArray) (key:ByteArray) (w:World) (h:NdV w p d vk vv vi) (hd:d.keys=A ++ B) (hp:0 < d.len) (hl:d.len <= 1000000) (hA:∀ a ∈ A,kless a key=true) (hB:∀ b ∈ B,kless b key=false) (hth:there=true ↔ ∃ B',B=key :: B') :
 Calls Tryz.prog 165 #[.pointer (some ⟨p,0,none⟩),.string key] w fun e w'=>e=.returned (.tuple #[.int .i64 (A.length:Nat),.bool there]) /\ ∃ q,w'=w.drewN q:=by
 obtain ⟨g,off,cap,ev,hcap,hc⟩:=h.ks.lit (by simpa [Nd.len] using hp)
 have hlen:d.keys.length=A.length + B.length:=by rw [hd]; simp
 have hlt:d.keys.length <= 1000000:=hl
 have hp':0 < d.keys.length:=hp
 rw [List.length_map] at ev hcap
 subst ev
 have HC:=strs_at hc
 have BS:=Any2.slices_BinarySearch_string Tryz.laysNm226 g off d.keys.length cap (fun t=>d.keys.getD t key) key w (by omega) (fun j hj=>by rw [HC j hj,getD_at _ _ hj,getD_at _ _ hj])
 have e1:Lib.bsGo (fun t=>Op.bytesLess (d.keys.getD t key).toList key.toList) d.keys.length 0 d.keys.length=A.length:=by
  refine bs_spec _ _ _ (by omega) (fun t ht=>?_) fun t ht=>?_
  ·rw [getD_at _ _ (by omega)]
   have:d.keys[t]'(by omega)=A[t]:=by simp only [hd]; exact List.getElem_append_left ht
   rw [this]; exact hA _ (List.getElem_mem ht)
  ·by_cases hx:t < d.keys.length
   ·rw [getD_at _ _ hx]
    have:d.keys[t]=B[t - A.length]'(by omega):=by simp only [hd]; exact List.getElem_append_right ht
    rw [this]; exact hB _ (List.getElem_mem _)
   ·rw [getD_out _ _ (by omega)]; exact kless_irrefl key
 rw [e1] at BS
 have e2:(decide (A.length < d.keys.length /\ d.keys.getD A.length key=key))=there:=by
  cases B with
  | nil =>
    have:there=false:=by cases there with | false=>rfl | true=>obtain ⟨B',e⟩:=hth.1 rfl; cases e
    rw [this,decide_eq_false_iff_not]
    simp at hlen; omega
  | cons b B =>
    have h1:A.length < d.keys.length:=by rw [hlen]; simp
    rw [getD_at _ _ h1]
    have h2:d.keys[A.length]=b:=by simp only [hd]; simp
    rw [h2]
    cases there with
    | true=>obtain ⟨B',e⟩:=hth.1 rfl; cases e; simp [h1]
    | false =>
      rw [decide_eq_false_iff_not]
      rintro ⟨-,rfl⟩
      exact absurd (hth.2 ⟨B,rfl⟩) (by simp)
 rw [e2] at BS
 have BS':Hid (Calls Tryz.prog 204 #[.slice (some ⟨g,off,none⟩) (d.keys.length:Nat) cap,.string key] w fun e w'=>e=.returned (.tuple #[.int .i64 (A.length:Nat),.bool there]) /\ ∃ q,w'=w.drewN q):=Hd BS
 have c1:w.cell? ⟨p,1,none⟩=some (.slice (some ⟨g,off,none⟩) d.keys.length cap):=cell_lit h.blk rfl
 generalize d.keys.length=nn at *
 clear BS e1 e2 HC hc hA hB hd h hth hlen hlt hl hp hp' hcap
 go_enter Tryz.func165,Tryz.ntmps165
 go_wp2_with fail
 refine BS'.out.mono ?_
 rintro e w' ⟨rfl,hq⟩
 have HQ:=Hd hq
 clear hq BS' c1
 go_wp2_with fail
 go_ret2
 exact ⟨rfl,HQ.out⟩
set_option maxHeartbeats 2000000
def NdF (p:Nat) (vk vv vi:Value) (k:Nat):Prop:=k=p \/ vk.ownBlock=some k \/ vv.ownBlock=some k \/ vi.ownBlock=some k
def encN (c:Nat):Value:=Value.int .i64 (c:Int)
structure NdP (w:World) (p:Nat) (leaf:Bool) (K V:List ByteArray) (C:List Nat) (vk vv vi:Value):Prop where
 blk:w.heap[p]?=some (.cells #[.bool leaf,vk,vv,vi] 222 (0,0))
 ks:w.ownsRow 0 9 1 vk K.length (K.map Value.string)
 vs:w.ownsRow 0 9 1 vv V.length (V.map Value.string)
 is:w.ownsRow 0 3 1 vi C.length (C.map encN)
 pk:vk.ownBlock ≠ some p
 pv:vv.ownBlock ≠ some p
 pi:vi.ownBlock ≠ some p
 kv:∀ k,vk.ownBlock=some k -> vv.ownBlock ≠ some k
 ki:∀ k,vk.ownBlock=some k -> vi.ownBlock ≠ some k
 vi':∀ k,vv.ownBlock=some k -> vi.ownBlock ≠ some k
theorem NdO.parts {w:World} {F:Nat -> Prop} {p:Nat} {d:Nd} {vk vv vi:Value} (h:NdO w F p d vk vv vi):NdP w p d.isLeaf d.keys d.vals d.kids vk vv vi :=
 ⟨h.blk,h.ks,h.vs,h.is,h.pk,h.pv,h.pi,h.kv,h.ki,h.vi'⟩
theorem NdP.nd {w:World} {p:Nat} {d:Nd} {vk vv vi:Value} (h:NdP w p d.isLeaf d.keys d.vals d.kids vk vv vi):NdO w (NdF p vk vv vi) p d vk vv vi :=
 ⟨h.blk,h.ks,h.vs,h.is,h.pk,h.pv,h.pi,h.kv,h.ki,h.vi',fun _=>Iff.rfl⟩
section
variable {w W:World} {p:Nat} {leaf:Bool} {K V:List ByteArray} {C:List Nat} {vk vv vi:Value}
theorem NdP.ltp (h:NdP w p leaf K V C vk vv vi):p < w.heap.size:=lt_of_heap h.blk
theorem NdP.lt (h:NdP w p leaf K V C vk vv vi):∀ k,NdF p vk vv vi k -> k < w.heap.size:=by
 intro k hk
 rcases hk with rfl | e | e | e
 ·exact h.ltp
 ·exact (h.ks.lt k e).2
 ·exact (h.vs.lt k e).2
 ·exact (h.is.lt k e).2
theorem NdP.below (h:NdP w p leaf K V C vk vv vi) (hb:Below w.heap.size w W):NdP W p leaf K V C vk vv vi :=
 ⟨(hb.block p h.ltp).trans h.blk,ownsRow_of h.ks fun k e=>hb.block k (h.ks.lt k e).2,ownsRow_of h.vs fun k e=>hb.block k (h.vs.lt k e).2,ownsRow_of h.is fun k e=>hb.block k (h.is.lt k e).2,h.pk,h.pv,h.pi,h.kv,h.ki,h.vi'⟩
theorem row_other {e:TypeId} {v:Value} {n:Nat} {xs:List Value} {S:Nat -> Prop} (h:w.ownsRow 0 e 1 v n xs) (hu:Upd S w W) (hS:∀ k,v.ownBlock=some k -> ¬ S k):W.ownsRow 0 e 1 v n xs :=
 ownsRow_of h fun k e=>hu.block k (h.lt k e).2 (hS k e)
theorem row_set {e:TypeId} {v:Value} {n:Nat} {xs:List Value} (h:W.ownsRow 0 e 1 v n xs) (i:Nat) (u:Value) (hp:v.ownBlock ≠ some p):(W.setCell ⟨p,i,none⟩ u).ownsRow 0 e 1 v n xs :=
 ownsRow_of h fun k e=>heap_set_ne u fun e'=>hp (by rw [<- e']; exact e)
theorem NdP.setK (h:NdP w p leaf K V C vk vv vi) {vk':Value} {K':List ByteArray} (hu:Upd (fun k=>vk.ownBlock=some k) w W) (ho:W.ownsRow 0 9 1 vk' K'.length (K'.map Value.string)) (hn:∀ k,vk'.ownBlock=some k -> vk.ownBlock=some k \/ w.heap.size <= k) :
 NdP (W.setCell ⟨p,1,none⟩ vk') p leaf K' V C vk' vv vi /\ Upd (NdF p vk vv vi) w (W.setCell ⟨p,1,none⟩ vk') /\ ∀ k,NdF p vk' vv vi k -> NdF p vk vv vi k \/ w.heap.size <= k:=by
 have hp:vk'.ownBlock ≠ some p:=fun e=>by rcases hn p e with a | a <;> first | exact h.pk a | exact by have:=h.ltp; omega
 refine ⟨⟨heap_set_lit (hu.at h.blk h.pk) vk',row_set ho 1 vk' hp,row_set (row_other h.vs hu fun k e e'=>h.kv k e' e) 1 vk' h.pv,row_set (row_other h.is hu fun k e e'=>h.ki k e' e) 1 vk' h.pi,hp,h.pv,h.pi,fun k e e'=>?_,fun k e e'=>?_,h.vi'⟩,Upd.setCell (hu.mono fun k _ e=>.inr (.inl e)) (p:=⟨p,1,none⟩) (.inl (.inl rfl)) vk',fun k hk=>?_⟩
 ·rcases hn k e with a | a
  ·exact h.kv k a e'
  ·have:=(h.vs.lt k e').2; omega
 ·rcases hn k e with a | a
  ·exact h.ki k a e'
  ·have:=(h.is.lt k e').2; omega
 ·rcases hk with e | e | e | e
  ·exact .inl (.inl e)
  ·exact (hn k e).imp (fun a=>.inr (.inl a)) id
  ·exact .inl (.inr (.inr (.inl e)))
  ·exact .inl (.inr (.inr (.inr e)))
theorem NdP.setV (h:NdP w p leaf K V C vk vv vi) {vv':Value} {V':List ByteArray} (hu:Upd (fun k=>vv.ownBlock=some k) w W) (ho:W.ownsRow 0 9 1 vv' V'.length (V'.map Value.string)) (hn:∀ k,vv'.ownBlock=some k -> vv.ownBlock=some k \/ w.heap.size <= k) :
 NdP (W.setCell ⟨p,2,none⟩ vv') p leaf K V' C vk vv' vi /\ Upd (NdF p vk vv vi) w (W.setCell ⟨p,2,none⟩ vv') /\ ∀ k,NdF p vk vv' vi k -> NdF p vk vv vi k \/ w.heap.size <= k:=by
 have hp:vv'.ownBlock ≠ some p:=fun e=>by rcases hn p e with a | a <;> first | exact h.pv a | exact by have:=h.ltp; omega
 refine ⟨⟨heap_set_lit (hu.at h.blk h.pv) vv',row_set (row_other h.ks hu fun k e e'=>h.kv k e e') 2 vv' h.pk,row_set ho 2 vv' hp,row_set (row_other h.is hu fun k e e'=>h.vi' k e' e) 2 vv' h.pi,h.pk,hp,h.pi,fun k e e'=>?_,h.ki,fun k e e'=>?_⟩,Upd.setCell (hu.mono fun k _ e=>.inr (.inr (.inl e))) (p:=⟨p,2,none⟩) (.inl (.inl rfl)) vv',fun k hk=>?_⟩
 ·rcases hn k e' with a | a
  ·exact h.kv k e a
  ·have:=(h.ks.lt k e).2; omega
 ·rcases hn k e with a | a
  ·exact h.vi' k a e'
  ·have:=(h.is.lt k e').2; omega
 ·rcases hk with e | e | e | e
  ·exact .inl (.inl e)
  ·exact .inl (.inr (.inl e))
  ·exact (hn k e).imp (fun a=>.inr (.inr (.inl a))) id
  ·exact .inl (.inr (.inr (.inr e)))
theorem NdP.setI (h:NdP w p leaf K V C vk vv vi) {vi':Value} {C':List Nat} (hu:Upd (fun k=>vi.ownBlock=some k) w W) (ho:W.ownsRow 0 3 1 vi' C'.length (C'.map encN)) (hn:∀ k,vi'.ownBlock=some k -> vi.ownBlock=some k \/ w.heap.size <= k) :
 NdP (W.setCell ⟨p,3,none⟩ vi') p leaf K V C' vk vv vi' /\ Upd (NdF p vk vv vi) w (W.setCell ⟨p,3,none⟩ vi') /\ ∀ k,NdF p vk vv vi' k -> NdF p vk vv vi k \/ w.heap.size <= k:=by
 have hp:vi'.ownBlock ≠ some p:=fun e=>by rcases hn p e with a | a <;> first | exact h.pi a | exact by have:=h.ltp; omega
 refine ⟨⟨heap_set_lit (hu.at h.blk h.pi) vi',row_set (row_other h.ks hu fun k e e'=>h.ki k e e') 3 vi' h.pk,row_set (row_other h.vs hu fun k e e'=>h.vi' k e e') 3 vi' h.pv,row_set ho 3 vi' hp,h.pk,h.pv,hp,h.kv,fun k e e'=>?_,fun k e e'=>?_⟩,Upd.setCell (hu.mono fun k _ e=>.inr (.inr (.inr e))) (p:=⟨p,3,none⟩) (.inl (.inl rfl)) vi',fun k hk=>?_⟩
 ·rcases hn k e' with a | a
  ·exact h.ki k e a
  ·have:=(h.ks.lt k e).2; omega
 ·rcases hn k e' with a | a
  ·exact h.vi' k e a
  ·have:=(h.vs.lt k e).2; omega
 ·rcases hk with e | e | e | e
  ·exact .inl (.inl e)
  ·exact .inl (.inr (.inl e))
  ·exact .inl (.inr (.inr (.inl e)))
  ·exact (hn k e).imp (fun a=>.inr (.inr (.inr a))) id
end
theorem str_one (l:List ByteArray):∀ y ∈ l.map Value.string,y.oneCell'=true:=by
 intro y hy
 obtain ⟨x,-,rfl⟩:=List.mem_map.1 hy
 rfl
theorem int_one (l:List Nat):∀ y ∈ l.map encN,y.oneCell'=true:=by
 intro y hy
 obtain ⟨x,-,rfl⟩:=List.mem_map.1 hy
 rfl
def NdGo (w w':World) (F:Nat -> Prop) (p:Nat) (d:Nd):Prop:=∃ F',IsNd w' F' p d /\ (∀ k,F' k -> F k \/ w.heap.size <= k) /\ Upd F w w'
structure NdS (w w':World) (F:Nat -> Prop) (p:Nat) (leaf:Bool) (K V:List ByteArray) (C:List Nat) (vk vv vi:Value):Prop where
 nd:NdP w' p leaf K V C vk vv vi
 sub:∀ k,NdF p vk vv vi k -> F k \/ w.heap.size <= k
 upd:Upd F w w'
section
variable {w w' W:World} {F:Nat -> Prop} {p:Nat} {leaf:Bool} {K V:List ByteArray} {C:List Nat} {vk vv vi:Value}
theorem NdS.start {d:Nd} (h:NdO w F p d vk vv vi):NdS w w F p d.isLeaf d.keys d.vals d.kids vk vv vi :=
 ⟨h.parts,fun k hk=>.inl ((h.own k).2 hk),Upd.refl _ _⟩
theorem NdS.go {d:Nd} (h:NdS w w' F p d.isLeaf d.keys d.vals d.kids vk vv vi):NdGo w w' F p d:=⟨_,⟨_,_,_,h.nd.nd⟩,h.sub,h.upd⟩
theorem NdS.below (h:NdS w w' F p leaf K V C vk vv vi) (hb:Below w'.heap.size w' W):NdS w W F p leaf K V C vk vv vi :=
 ⟨h.nd.below hb,h.sub,h.upd.trans' (hb.upd' (Nat.le_refl _)) fun j _ e=>False.elim e⟩
theorem NdS.alloc (h:NdS w w' F p leaf K V C vk vv vi) (o:Obj):NdS w (w'.alloc o) F p leaf K V C vk vv vi :=
 h.below ((Below.refl _ _).alloc (Nat.le_refl _) o)
theorem NdS.step {vk' vv' vi':Value} {K' V':List ByteArray} {C':List Nat} (h:NdS w w' F p leaf K V C vk vv vi) (hn:NdP W p leaf K' V' C' vk' vv' vi') (hu:Upd (NdF p vk vv vi) w' W) (hs:∀ k,NdF p vk' vv' vi' k -> NdF p vk vv vi k \/ w'.heap.size <= k):NdS w W F p leaf K' V' C' vk' vv' vi':=by
 refine ⟨hn,fun k hk=>?_,h.upd.trans' hu fun j hj e=>?_⟩
 ·rcases hs k hk with a | a
  ·exact h.sub k a
  ·have:=h.upd.size; exact .inr (by omega)
 ·rcases h.sub j e with a | a
  ·exact a
  ·omega
theorem NdS.setK (h:NdS w w' F p leaf K V C vk vv vi) {vk':Value} {K':List ByteArray} (hu:Upd (fun k=>vk.ownBlock=some k) w' W) (ho:W.ownsRow 0 9 1 vk' K'.length (K'.map Value.string)) (hn:∀ k,vk'.ownBlock=some k -> vk.ownBlock=some k \/ w'.heap.size <= k):NdS w (W.setCell ⟨p,1,none⟩ vk') F p leaf K' V C vk' vv vi:=by
 obtain ⟨a,b,c⟩:=h.nd.setK hu ho hn; exact h.step a b c
theorem NdS.setV (h:NdS w w' F p leaf K V C vk vv vi) {vv':Value} {V':List ByteArray} (hu:Upd (fun k=>vv.ownBlock=some k) w' W) (ho:W.ownsRow 0 9 1 vv' V'.length (V'.map Value.string)) (hn:∀ k,vv'.ownBlock=some k -> vv.ownBlock=some k \/ w'.heap.size <= k):NdS w (W.setCell ⟨p,2,none⟩ vv') F p leaf K V' C vk vv' vi:=by
 obtain ⟨a,b,c⟩:=h.nd.setV hu ho hn; exact h.step a b c
theorem NdS.setI (h:NdS w w' F p leaf K V C vk vv vi) {vi':Value} {C':List Nat} (hu:Upd (fun k=>vi.ownBlock=some k) w' W) (ho:W.ownsRow 0 3 1 vi' C'.length (C'.map encN)) (hn:∀ k,vi'.ownBlock=some k -> vi.ownBlock=some k \/ w'.heap.size <= k):NdS w (W.setCell ⟨p,3,none⟩ vi') F p leaf K V C' vk vv vi':=by
 obtain ⟨a,b,c⟩:=h.nd.setI hu ho hn; exact h.step a b c
theorem NdP.cells (h:NdP w p leaf K V C vk vv vi):w.cell? ⟨p,0,none⟩=some (.bool leaf) /\ w.cell? ⟨p,1,none⟩=some vk /\ w.cell? ⟨p,2,none⟩=some vv /\ w.cell? ⟨p,3,none⟩=some vi /\ (∀ i,w.frozen? ⟨p,i,none⟩=false) /\ p < w.heap.size :=
 ⟨cell_lit h.blk rfl,cell_lit h.blk rfl,cell_lit h.blk rfl,cell_lit h.blk rfl,fun i=>frozen_lit h.blk i,h.ltp⟩
theorem NdP.cellsU (h:NdP w p leaf K V C vk vv vi) {v:Value} (hu:Upd (fun k=>v.ownBlock=some k) w W) (hv:v.ownBlock ≠ some p):W.cell? ⟨p,0,none⟩=some (.bool leaf) /\ W.cell? ⟨p,1,none⟩=some vk /\ W.cell? ⟨p,2,none⟩=some vv /\ W.cell? ⟨p,3,none⟩=some vi /\ (∀ i,W.frozen? ⟨p,i,none⟩=false) /\ p < W.heap.size :=
 have hb:=hu.at h.blk hv
 ⟨cell_lit hb rfl,cell_lit hb rfl,cell_lit hb rfl,cell_lit hb rfl,fun i=>frozen_lit hb i,lt_of_heap hb⟩
end
theorem insert_leaf (F:Nat -> Prop) (p:Nat) (A B:List (ByteArray × ByteArray)) (key val:ByteArray) (kid:Int) (w:World) (h:IsNd w F p (.leaf (A ++ B))) (hl:(A ++ B).length <= 90000) :
 Calls Tryz.prog 177 #[.pointer (some ⟨p,0,none⟩),.int .i64 (A.length:Nat),.string key,.string val,.int .i64 kid] w fun e w'=>e=.returned (.tuple #[]) /\ Hid (NdGo w w' F p (.leaf (A ++ (key,val) :: B))):=by
 obtain ⟨vk,vv,vi,hO⟩:=h
 have S0:Hid (NdS w w F p true ((A ++ B).map Prod.fst) ((A ++ B).map Prod.snd) [] vk vv vi):=Hd (NdS.start hO)
 have I1:Hid (∀ W K V C vk vv vi,NdP W p true K V C vk vv vi -> K=(A ++ B).map Prod.fst -> Calls Tryz.prog 213 #[vk,.int .i64 (A.length:Nat),.slice (some ⟨W.heap.size,0,none⟩) 1 1] (W.alloc (.cells #[.string key] 9)) fun e w'=>∃ v',e=.returned v' /\ Hid (w'.ownsRow 0 9 1 v' ((A ++ (key,val) :: B).map Prod.fst).length (((A ++ (key,val) :: B).map Prod.fst).map Value.string) /\ Upd (fun k=>vk.ownBlock=some k) (W.alloc (.cells #[.string key] 9)) w' /\ ∀ k,v'.ownBlock=some k -> vk.ownBlock=some k \/ (W.alloc (.cells #[.string key] 9)).heap.size <= k)):=Hd fun W K V C vk vv vi hW hK=>by
  subst hK
  have hW2:=hW.below ((Below.refl W.heap.size W).alloc (Nat.le_refl _) (.cells #[.string key] 9))
  have:=InsS_c 0 ((A ++ B).map Prod.fst).length vk ((A.map Prod.fst).map Value.string) ((B.map Prod.fst).map Value.string) (.string key) W.heap.size (W.alloc (.cells #[.string key] 9)) (by simpa using hW2.ks) (Nat.zero_le _) (by simpa using Nat.le_trans hl (by omega)) (by rw [<- List.map_append]; exact str_one _) rfl (heap_alloc_new _ _) (fun e=>by have:=(hW.ks.lt _ e).2; omega)
  rw [List.length_map,List.length_map] at this
  simpa [InsRow,Nat.add_assoc] using this
 have I2:Hid (∀ W K V C vk vv vi,NdP W p true K V C vk vv vi -> V=(A ++ B).map Prod.snd -> Calls Tryz.prog 213 #[vv,.int .i64 (A.length:Nat),.slice (some ⟨W.heap.size,0,none⟩) 1 1] (W.alloc (.cells #[.string val] 9)) fun e w'=>∃ v',e=.returned v' /\ Hid (w'.ownsRow 0 9 1 v' ((A ++ (key,val) :: B).map Prod.snd).length (((A ++ (key,val) :: B).map Prod.snd).map Value.string) /\ Upd (fun k=>vv.ownBlock=some k) (W.alloc (.cells #[.string val] 9)) w' /\ ∀ k,v'.ownBlock=some k -> vv.ownBlock=some k \/ (W.alloc (.cells #[.string val] 9)).heap.size <= k)):=Hd fun W K V C vk vv vi hW hK=>by
  subst hK
  have hW2:=hW.below ((Below.refl W.heap.size W).alloc (Nat.le_refl _) (.cells #[.string val] 9))
  have:=InsS_c 0 ((A ++ B).map Prod.snd).length vv ((A.map Prod.snd).map Value.string) ((B.map Prod.snd).map Value.string) (.string val) W.heap.size (W.alloc (.cells #[.string val] 9)) (by simpa using hW2.vs) (Nat.zero_le _) (by simpa using Nat.le_trans hl (by omega)) (by rw [<- List.map_append]; exact str_one _) rfl (heap_alloc_new _ _) (fun e=>by have:=(hW.vs.lt _ e).2; omega)
  rw [List.length_map,List.length_map] at this
  simpa [InsRow,Nat.add_assoc] using this
 clear hO hl
 obtain ⟨c0,c1,c2,c3,cf,cl⟩:=S0.out.nd.cells
 go_enter Tryz.func177,Tryz.ntmps177
 go_wp2_with fail
 refine (I1.out w _ _ _ _ _ _ S0.out.nd rfl).mono ?_
 rintro e w1 ⟨v1,rfl,hR⟩
 have HR:=Hd hR
 obtain ⟨xa,xm,xc,rfl⟩:=slice_form hR.1
 clear hR I1
 have S1:=Hd (NdS.setK (S0.out.alloc (.cells #[.string key] 9)) HR.out.2.1 HR.out.1 HR.out.2.2)
 obtain ⟨d0,d1,d2,d3,df,dl⟩:=(S0.out.alloc (.cells #[.string key] 9)).nd.cellsU HR.out.2.1 S0.out.nd.pk
 have d1f:=df 1
 clear S0 HR c0 c1 c2 c3 cf cl
 have J2:=I2.out _ _ _ _ _ _ _ S1.out.nd rfl
 simp only [World.size_setCell] at J2
 have K2:=Hd J2
 clear J2 I2
 go_wp2_with fail
 refine K2.out.mono ?_
 rintro e w2 ⟨v2,rfl,hR⟩
 have HR:=Hd hR
 obtain ⟨ya,ym,yc,rfl⟩:=slice_form hR.1
 clear hR K2
 have S1':=Hd (S1.out.alloc (.cells #[.string val] 9))
 have S2:=Hd (NdS.setV S1'.out HR.out.2.1 HR.out.1 (fun k hk=>(HR.out.2.2 k hk).imp id fun h=>by simpa using h))
 obtain ⟨g0,g1,g2,g3,gf,gl⟩:=S1'.out.nd.cellsU HR.out.2.1 S1'.out.nd.pv
 have g2f:=gf 2
 clear S1 S1' HR d0 d1 d2 d3 df dl d1f
 go_wp2_with fail
 go_end0
 exact ⟨rfl,NdS.go (d:=.leaf (A ++ (key,val) :: B)) S2.out⟩
theorem insert_inner (F:Nat -> Prop) (p:Nat) (A B:List (ByteArray × Nat)) (key val:ByteArray) (kid:Nat) (w:World) (h:IsNd w F p (.inner (A ++ B))) (hl:(A ++ B).length <= 90000) :
 Calls Tryz.prog 177 #[.pointer (some ⟨p,0,none⟩),.int .i64 (A.length:Nat),.string key,.string val,.int .i64 (kid:Int)] w fun e w'=>e=.returned (.tuple #[]) /\ Hid (NdGo w w' F p (.inner (A ++ (key,kid) :: B))):=by
 obtain ⟨vk,vv,vi,hO⟩:=h
 have S0:Hid (NdS w w F p false ((A ++ B).map Prod.fst) [] ((A ++ B).map Prod.snd) vk vv vi):=Hd (NdS.start hO)
 have I1:Hid (∀ W K V C vk vv vi,NdP W p false K V C vk vv vi -> K=(A ++ B).map Prod.fst -> Calls Tryz.prog 213 #[vk,.int .i64 (A.length:Nat),.slice (some ⟨W.heap.size,0,none⟩) 1 1] (W.alloc (.cells #[.string key] 9)) fun e w'=>∃ v',e=.returned v' /\ Hid (w'.ownsRow 0 9 1 v' ((A ++ (key,kid) :: B).map Prod.fst).length (((A ++ (key,kid) :: B).map Prod.fst).map Value.string) /\ Upd (fun k=>vk.ownBlock=some k) (W.alloc (.cells #[.string key] 9)) w' /\ ∀ k,v'.ownBlock=some k -> vk.ownBlock=some k \/ (W.alloc (.cells #[.string key] 9)).heap.size <= k)):=Hd fun W K V C vk vv vi hW hK=>by
  subst hK
  have hW2:=hW.below ((Below.refl W.heap.size W).alloc (Nat.le_refl _) (.cells #[.string key] 9))
  have:=InsS_c 0 ((A ++ B).map Prod.fst).length vk ((A.map Prod.fst).map Value.string) ((B.map Prod.fst).map Value.string) (.string key) W.heap.size (W.alloc (.cells #[.string key] 9)) (by simpa using hW2.ks) (Nat.zero_le _) (by simpa using Nat.le_trans hl (by omega)) (by rw [<- List.map_append]; exact str_one _) rfl (heap_alloc_new _ _) (fun e=>by have:=(hW.ks.lt _ e).2; omega)
  rw [List.length_map,List.length_map] at this
  simpa [InsRow,Nat.add_assoc] using this
 have I2:Hid (∀ W K V C vk vv vi,NdP W p false K V C vk vv vi -> C=(A ++ B).map Prod.snd -> Calls Tryz.prog 214 #[vi,.int .i64 (A.length:Nat),.slice (some ⟨W.heap.size,0,none⟩) 1 1] (W.alloc (.cells #[.int .i64 (kid:Int)] 3)) fun e w'=>∃ v',e=.returned v' /\ Hid (w'.ownsRow 0 3 1 v' ((A ++ (key,kid) :: B).map Prod.snd).length (((A ++ (key,kid) :: B).map Prod.snd).map encN) /\ Upd (fun k=>vi.ownBlock=some k) (W.alloc (.cells #[.int .i64 (kid:Int)] 3)) w' /\ ∀ k,v'.ownBlock=some k -> vi.ownBlock=some k \/ (W.alloc (.cells #[.int .i64 (kid:Int)] 3)).heap.size <= k)):=Hd fun W K V C vk vv vi hW hK=>by
  subst hK
  have hW2:=hW.below ((Below.refl W.heap.size W).alloc (Nat.le_refl _) (.cells #[.int .i64 (kid:Int)] 3))
  have:=InsI_c 0 ((A ++ B).map Prod.snd).length vi ((A.map Prod.snd).map encN) ((B.map Prod.snd).map encN) (encN kid) W.heap.size (W.alloc (.cells #[.int .i64 (kid:Int)] 3)) (by simpa using hW2.is) (Nat.zero_le _) (by simpa using Nat.le_trans hl (by omega)) (by rw [<- List.map_append]; exact int_one _) rfl (heap_alloc_new _ _) (fun e=>by have:=(hW.is.lt _ e).2; omega)
  rw [List.length_map,List.length_map] at this
  simpa [InsRow,Nat.add_assoc] using this
 clear hO hl
 obtain ⟨c0,c1,c2,c3,cf,cl⟩:=S0.out.nd.cells
 go_enter Tryz.func177,Tryz.ntmps177
 go_wp2_with fail
 refine (I1.out w _ _ _ _ _ _ S0.out.nd rfl).mono ?_
 rintro e w1 ⟨v1,rfl,hR⟩
 have HR:=Hd hR
 obtain ⟨xa,xm,xc,rfl⟩:=slice_form hR.1
 clear hR I1
 have S1:=Hd (NdS.setK (S0.out.alloc (.cells #[.string key] 9)) HR.out.2.1 HR.out.1 HR.out.2.2)
 obtain ⟨d0,d1,d2,d3,df,dl⟩:=(S0.out.alloc (.cells #[.string key] 9)).nd.cellsU HR.out.2.1 S0.out.nd.pk
 have d1f:=df 1
 clear S0 HR c0 c1 c2 c3 cf cl
 have J2:=I2.out _ _ _ _ _ _ _ S1.out.nd rfl
 simp only [World.size_setCell] at J2
 have K2:=Hd J2
 clear J2 I2
 go_wp2_with fail
 refine K2.out.mono ?_
 rintro e w2 ⟨v2,rfl,hR⟩
 have HR:=Hd hR
 obtain ⟨ya,ym,yc,rfl⟩:=slice_form hR.1
 clear hR K2
 have S1':=Hd (S1.out.alloc (.cells #[.int .i64 (kid:Int)] 3))
 have S2:=Hd (NdS.setI S1'.out HR.out.2.1 HR.out.1 (fun k hk=>(HR.out.2.2 k hk).imp id fun h=>by simpa using h))
 obtain ⟨g0,g1,g2,g3,gf,gl⟩:=S1'.out.nd.cellsU HR.out.2.1 S1'.out.nd.pi
 have g3f:=gf 3
 clear S1 S1' HR d0 d1 d2 d3 df dl d1f
 go_wp2_with fail
 go_end0
 exact ⟨rfl,NdS.go (d:=.inner (A ++ (key,kid) :: B)) S2.out⟩
set_option maxHeartbeats 300000
theorem DelN_c (base:Nat) (v:Value) (A B:List Nat) (x:Nat) (w:World) (h:w.ownsRow base 3 1 v (A.length + 1 + B.length) ((A ++ x :: B).map encN)) :
 Calls Tryz.prog 218 #[v,.int .i64 (A.length:Nat),.int .i64 ((A.length:Int) + 1)] w fun e w'=>∃ v',e=.returned v' /\ Hid (DelRow 3 base v (A.length + B.length) ((A ++ B).map encN) w v' w') :=
 DelI_c base v A B x w h
theorem remove_leaf (F:Nat -> Prop) (p:Nat) (A B:List (ByteArray × ByteArray)) (x:ByteArray × ByteArray) (w:World) (h:IsNd w F p (.leaf (A ++ x :: B))) (hl:A.length <= 90000) :
 Calls Tryz.prog 180 #[.pointer (some ⟨p,0,none⟩),.int .i64 (A.length:Nat)] w fun e w'=>e=.returned (.tuple #[]) /\ Hid (NdGo w w' F p (.leaf (A ++ B))):=by
 obtain ⟨vk,vv,vi,hO⟩:=h
 have S0:Hid (NdS w w F p true ((A ++ x :: B).map Prod.fst) ((A ++ x :: B).map Prod.snd) [] vk vv vi):=Hd (NdS.start hO)
 have I1:Hid (∀ W K V C vk vv vi,NdP W p true K V C vk vv vi -> K=(A ++ x :: B).map Prod.fst -> Calls Tryz.prog 217 #[vk,.int .i64 (A.length:Nat),.int .i64 ((A.length:Int) + 1)] W fun e w'=>∃ v',e=.returned v' /\ Hid (w'.ownsRow 0 9 1 v' ((A ++ B).map Prod.fst).length (((A ++ B).map Prod.fst).map Value.string) /\ Upd (fun k=>vk.ownBlock=some k) W w' /\ ∀ k,v'.ownBlock=some k -> vk.ownBlock=some k \/ W.heap.size <= k)):=Hd fun W K V C vk vv vi hW hK=>by
  subst hK
  have:=DelS_c 0 vk (A.map Prod.fst) (B.map Prod.fst) x.1 W (by have:=hW.ks; simpa [Nat.add_assoc,Nat.add_comm 1] using this)
  rw [List.length_map,List.length_map] at this
  refine this.mono ?_
  rintro e w' ⟨v',rfl,a,b,c⟩
  exact ⟨v',rfl,by simpa using a,b,fun k hk=>.inl (by rw [<- c]; exact hk)⟩
 have I2:Hid (∀ W K V C vk vv vi,NdP W p true K V C vk vv vi -> V=(A ++ x :: B).map Prod.snd -> Calls Tryz.prog 217 #[vv,.int .i64 (A.length:Nat),.int .i64 ((A.length:Int) + 1)] W fun e w'=>∃ v',e=.returned v' /\ Hid (w'.ownsRow 0 9 1 v' ((A ++ B).map Prod.snd).length (((A ++ B).map Prod.snd).map Value.string) /\ Upd (fun k=>vv.ownBlock=some k) W w' /\ ∀ k,v'.ownBlock=some k -> vv.ownBlock=some k \/ W.heap.size <= k)):=Hd fun W K V C vk vv vi hW hK=>by
  subst hK
  have:=DelS_c 0 vv (A.map Prod.snd) (B.map Prod.snd) x.2 W (by have:=hW.vs; simpa [Nat.add_assoc,Nat.add_comm 1] using this)
  rw [List.length_map,List.length_map] at this
  refine this.mono ?_
  rintro e w' ⟨v',rfl,a,b,c⟩
  exact ⟨v',rfl,by simpa using a,b,fun k hk=>.inl (by rw [<- c]; exact hk)⟩
 clear hO
 obtain ⟨c0,c1,c2,c3,cf,cl⟩:=S0.out.nd.cells
 go_enter Tryz.func180,Tryz.ntmps180
 go_wp2_with fail
 refine (I1.out w _ _ _ _ _ _ S0.out.nd rfl).mono ?_
 rintro e w1 ⟨v1,rfl,hR⟩
 have HR:=Hd hR
 obtain ⟨xa,xm,xc,rfl⟩:=slice_form hR.1
 clear hR I1
 have S1:=Hd (NdS.setK S0.out HR.out.2.1 HR.out.1 HR.out.2.2)
 obtain ⟨d0,d1,d2,d3,df,dl⟩:=S0.out.nd.cellsU HR.out.2.1 S0.out.nd.pk
 have d1f:=df 1
 clear S0 HR c0 c1 c2 c3 cf cl
 go_wp2_with fail
 refine (I2.out _ _ _ _ _ _ _ S1.out.nd rfl).mono ?_
 rintro e w2 ⟨v2,rfl,hR⟩
 have HR:=Hd hR
 obtain ⟨ya,ym,yc,rfl⟩:=slice_form hR.1
 clear hR I2
 have S2:=Hd (NdS.setV S1.out HR.out.2.1 HR.out.1 HR.out.2.2)
 obtain ⟨g0,g1,g2,g3,gf,gl⟩:=S1.out.nd.cellsU HR.out.2.1 S1.out.nd.pv
 have g2f:=gf 2
 clear S1 HR d0 d1 d2 d3 df dl d1f
 go_wp2_with fail
 go_end0
 exact ⟨rfl,NdS.go (d:=.leaf (A ++ B)) S2.out⟩
theorem remove_inner (F:Nat -> Prop) (p:Nat) (A B:List (ByteArray × Nat)) (x:ByteArray × Nat) (w:World) (h:IsNd w F p (.inner (A ++ x :: B))) (hl:A.length <= 90000) :
 Calls Tryz.prog 180 #[.pointer (some ⟨p,0,none⟩),.int .i64 (A.length:Nat)] w fun e w'=>e=.returned (.tuple #[]) /\ Hid (NdGo w w' F p (.inner (A ++ B))):=by
 obtain ⟨vk,vv,vi,hO⟩:=h
 have S0:Hid (NdS w w F p false ((A ++ x :: B).map Prod.fst) [] ((A ++ x :: B).map Prod.snd) vk vv vi):=Hd (NdS.start hO)
 have I1:Hid (∀ W K V C vk vv vi,NdP W p false K V C vk vv vi -> K=(A ++ x :: B).map Prod.fst -> Calls Tryz.prog 217 #[vk,.int .i64 (A.length:Nat),.int .i64 ((A.length:Int) + 1)] W fun e w'=>∃ v',e=.returned v' /\ Hid (w'.ownsRow 0 9 1 v' ((A ++ B).map Prod.fst).length (((A ++ B).map Prod.fst).map Value.string) /\ Upd (fun k=>vk.ownBlock=some k) W w' /\ ∀ k,v'.ownBlock=some k -> vk.ownBlock=some k \/ W.heap.size <= k)):=Hd fun W K V C vk vv vi hW hK=>by
  subst hK
  have:=DelS_c 0 vk (A.map Prod.fst) (B.map Prod.fst) x.1 W (by have:=hW.ks; simpa [Nat.add_assoc,Nat.add_comm 1] using this)
  rw [List.length_map,List.length_map] at this
  refine this.mono ?_
  rintro e w' ⟨v',rfl,a,b,c⟩
  exact ⟨v',rfl,by simpa using a,b,fun k hk=>.inl (by rw [<- c]; exact hk)⟩
 have I2:Hid (∀ W K V C vk vv vi,NdP W p false K V C vk vv vi -> C=(A ++ x :: B).map Prod.snd -> Calls Tryz.prog 218 #[vi,.int .i64 (A.length:Nat),.int .i64 ((A.length:Int) + 1)] W fun e w'=>∃ v',e=.returned v' /\ Hid (w'.ownsRow 0 3 1 v' ((A ++ B).map Prod.snd).length (((A ++ B).map Prod.snd).map encN) /\ Upd (fun k=>vi.ownBlock=some k) W w' /\ ∀ k,v'.ownBlock=some k -> vi.ownBlock=some k \/ W.heap.size <= k)):=Hd fun W K V C vk vv vi hW hK=>by
  subst hK
  have:=DelN_c 0 vi (A.map Prod.snd) (B.map Prod.snd) x.2 W (by have:=hW.is; simpa [Nat.add_assoc,Nat.add_comm 1] using this)
  rw [List.length_map,List.length_map] at this
  refine this.mono ?_
  rintro e w' ⟨v',rfl,a,b,c⟩
  exact ⟨v',rfl,by simpa using a,b,fun k hk=>.inl (by rw [<- c]; exact hk)⟩
 clear hO
 obtain ⟨c0,c1,c2,c3,cf,cl⟩:=S0.out.nd.cells
 go_enter Tryz.func180,Tryz.ntmps180
 go_wp2_with fail
 refine (I1.out w _ _ _ _ _ _ S0.out.nd rfl).mono ?_
 rintro e w1 ⟨v1,rfl,hR⟩
 have HR:=Hd hR
 obtain ⟨xa,xm,xc,rfl⟩:=slice_form hR.1
 clear hR I1
 have S1:=Hd (NdS.setK S0.out HR.out.2.1 HR.out.1 HR.out.2.2)
 obtain ⟨d0,d1,d2,d3,df,dl⟩:=S0.out.nd.cellsU HR.out.2.1 S0.out.nd.pk
 have d1f:=df 1
 clear S0 HR c0 c1 c2 c3 cf cl
 go_wp2_with fail
 refine (I2.out _ _ _ _ _ _ _ S1.out.nd rfl).mono ?_
 rintro e w2 ⟨v2,rfl,hR⟩
 have HR:=Hd hR
 obtain ⟨ya,ym,yc,rfl⟩:=slice_form hR.1
 clear hR I2
 have S2:=Hd (NdS.setI S1.out HR.out.2.1 HR.out.1 HR.out.2.2)
 obtain ⟨g0,g1,g2,g3,gf,gl⟩:=S1.out.nd.cellsU HR.out.2.1 S1.out.nd.pi
 have g3f:=gf 3
 clear S1 HR d0 d1 d2 d3 df dl d1f
 go_wp2_with fail
 go_end0
 exact ⟨rfl,NdS.go (d:=.inner (A ++ B)) S2.out⟩
set_option maxHeartbeats 400000
theorem gtr_eq (c key:ByteArray):(!Op.bytesLess c.toList key.toList && !c.toList == key.toList)=kless key c:=by
 show (!kless c key && !c.toList == key.toList)=kless key c
 cases h:kless c key with
 | true=>rw [kless_asymm h]; rfl
 | false =>
   by_cases e:c=key
   ·subst e; rw [kless_irrefl]; simp
   ·cases g:kless key c with
    | false=>exact absurd (kless_total h g) e
    | true =>
      have:(c.toList == key.toList)=false:=by
       rw [beq_eq_false_iff_ne,Lib.toList_data,Lib.toList_data]
       exact fun e'=>e (ByteArray.ext (Array.toList_inj.1 e'))
      rw [this]; rfl
theorem way1_c (K:List ByteArray) (p b1 b2 i:Nat) (g off cap nn:Nat) (leaf:Bool) (vv vi:Value) (key c:ByteArray) (w:World) (fr:Nat × Nat) (hb:w.heap[p]?=some (.cells #[.bool leaf,.slice (some ⟨g,off,none⟩) nn cap,vv,vi] 222 fr))
 (h1:w.cell? ⟨b1,0,none⟩=some (.pointer (some ⟨p,0,none⟩))) (h2:w.cell? ⟨b2,0,none⟩=some (.string key)) (hi:i < nn) (hc:w.cell? ⟨g,off + i,none⟩=some (.string c)) :
 Calls Tryz.prog 206 #[.int .i64 (i:Int),.pointer (some ⟨b1,0,none⟩),.pointer (some ⟨b2,0,none⟩)] w fun e w'=>e=.returned (.bool (kless key c)) /\ ∃ q,w'=w.drewN q:=by
 have c1:w.cell? ⟨p,1,none⟩=some (.slice (some ⟨g,off,none⟩) nn cap):=cell_lit hb rfl
 have hlt:(i:Int) < (nn:Int):=by omega
 have hk:Op.bytesLess key.toList c.toList=kless key c:=rfl
 clear hb
 go_enter Tryz.func206,Tryz.ntmps206
 go_wp2_with fail
 go_quiet (fail)
 go_wp2_with fail
 go_ret
 exact ⟨by rw [gtr_eq]; rfl,nq,rfl⟩
theorem Below.drewN {B:Nat} {a w:World} (h:Below B a w) (q:Nat):Below B a (w.drewN q):=⟨h.os,h.tape,h.output,h.size,h.block⟩
theorem search_c (n m:Nat) (f:Nat -> Bool) (b1 b2:Nat) (w:World) (hn:n <= 1000000) (hm:m < n) (h1:∀ t,1 <= t -> t <= m -> f t=false) (h2:∀ t,m < t -> t < n -> f t=true)
 (CL:Hid (∀ (i:Nat) W,i < n -> Below w.heap.size w W -> Calls Tryz.prog 206 #[.int .i64 (i:Int),.pointer (some ⟨b1,0,none⟩),.pointer (some ⟨b2,0,none⟩)] W fun e w'=>e=.returned (.bool (f i)) /\ Hid (Below w.heap.size w w'))) :
 Calls Tryz.prog 205 #[.int .i64 (n:Int),.func (Fn.func 206) #[] #[.pointer (some ⟨b1,0,none⟩),.pointer (some ⟨b2,0,none⟩)]] w fun e w'=>∃ r:Nat,e=.returned (.int .i64 (r:Int)) /\ Hid ((r=m + 1 \/ (r=0 /\ m=0)) /\ Below w.heap.size w w'):=by
 have H1:=Hd h1
 have H2:=Hd h2
 have hnot:∀ (x:Bool) (w:World),(Op.unary .not (.bool x)).run Tryz.prog w=.ok (.bool (!x)) w:=fun _ _=>rfl
 clear h1 h2
 go_enter Tryz.func205,Tryz.ntmps205
 go_wp2_with fail
 go_loopg [5,6] n (fun g s5 s6 wr=>∃ lo hi:Nat,g=hi - lo /\ s5=.int .i64 (lo:Int) /\ s6=.int .i64 (hi:Int) /\ lo <= hi /\ hi <= n /\ lo <= m + 1 /\ (m + 1 <= hi \/ (hi=0 /\ m=0)) /\ Hid (Below w.heap.size w wr))
 case atStart=>exact ⟨0,n,rfl,rfl,rfl,Nat.zero_le _,Nat.le_refl _,Nat.zero_le _,.inl hm,Hd (Below.refl _ _)⟩
 case round =>
  obtain ⟨lo,hi,rfl,rfl,rfl,hlh,hin,hlm,hhm,HB⟩:=hrel
  by_cases hlt:lo < hi
  ·have hmid:(lo + hi) / 2 < n:=by omega
   have C1:=CL.out ((lo + hi) / 2) wr hmid HB.out
   rw [show (((lo + hi) / 2:Nat):Int)=((lo:Int) + (hi:Int)) / 2 by omega] at C1
   have C2:=Hd C1
   clear C1 CL
   cases hf:f ((lo + hi) / 2) with
   | false =>
     have q1:(lo + hi) / 2 <= m:=by
      by_cases h:(lo + hi) / 2 <= m
      ·exact h
      ·have:=H2.out _ (by omega:m < (lo + hi) / 2) hmid; rw [hf] at this; cases this
     rw [hf] at C2
     go_wp2_with fail
     refine C2.out.mono ?_
     rintro e w1 ⟨rfl,HB1⟩
     clear C2
     go_wp2_with fail
     go_roundg (hi - ((lo + hi) / 2 + 1))
     case measure=>omega
     case rel=>exact ⟨(lo + hi) / 2 + 1,hi,rfl,by congr 1,rfl,by omega,hin,by omega,hhm,HB1⟩
   | true =>
     have q1:m < (lo + hi) / 2 \/ (lo + hi) / 2=0:=by
      by_cases h:m < (lo + hi) / 2
      ·exact .inl h
      ·by_cases h0:(lo + hi) / 2=0
       ·exact .inr h0
       ·have:=H1.out ((lo + hi) / 2) (by omega) (by omega); rw [hf] at this; cases this
     rw [hf] at C2
     go_wp2_with fail
     refine C2.out.mono ?_
     rintro e w1 ⟨rfl,HB1⟩
     clear C2
     go_wp2_with fail
     go_roundg ((lo + hi) / 2 - lo)
     case measure=>omega
     case rel=>exact ⟨lo,(lo + hi) / 2,rfl,rfl,by congr 1,by omega,by omega,hlm,by omega,HB1⟩
  ·obtain rfl:lo=hi:=by omega
   clear CL
   go_wp2_with fail
   go_ret
   exact ⟨lo,rfl,(by omega),HB.out⟩
theorem max_dec (r m:Nat) (h:r=m + 1 \/ (r=0 /\ m=0)):max ((r:Int) - 1) 0=(m:Int):=by omega
theorem way_c (p:Nat) (d:Nd) (vk vv vi:Value) (A B:List ByteArray) (x key:ByteArray) (w:World) (h:NdV w p d vk vv vi) (hd:d.keys=A ++ x :: B) (hl:d.len <= 1000000) (hA:∀ y ∈ (A ++ [x]).tail,kless key y=false) (hB:∀ b ∈ B,kless key b=true) :
 Calls Tryz.prog 166 #[.pointer (some ⟨p,0,none⟩),.string key] w fun e w'=>e=.returned (.int .i64 (A.length:Nat)) /\ Hid (Below w.heap.size w w'):=by
 have hlen:d.keys.length=A.length + 1 + B.length:=by rw [hd]; simp; omega
 obtain ⟨g,off,cap,ev,hcap,hc⟩:=h.ks.lit (by simp; omega)
 have hlt:d.keys.length <= 1000000:=hl
 rw [List.length_map] at ev hcap
 subst ev
 have HC:=strs_at hc
 have hk2:w.heap[p]?=some (.cells #[.bool d.isLeaf,.slice (some ⟨g,off,none⟩) d.keys.length cap,vv,vi] 222 (0,0)):=h.blk
 have hlt':=lt_of_heap hk2
 have HS:Hid (∀ W,Below w.heap.size w W -> W.heap.size >= w.heap.size + 2 -> W.cell? ⟨w.heap.size,0,none⟩=some (.pointer (some ⟨p,0,none⟩)) -> W.cell? ⟨w.heap.size + 1,0,none⟩=some (.string key) ->
  Calls Tryz.prog 205 #[.int .i64 (d.keys.length:Int),.func (Fn.func 206) #[] #[.pointer (some ⟨w.heap.size,0,none⟩),.pointer (some ⟨w.heap.size + 1,0,none⟩)]] W fun e w'=>∃ r:Nat,e=.returned (.int .i64 (r:Int)) /\ Hid ((r=A.length + 1 \/ (r=0 /\ A.length=0)) /\ Below w.heap.size w w')):=Hd fun W hW hWs b1 b2=>by
  refine (search_c d.keys.length A.length (fun i=>kless key (d.keys.getD i ByteArray.empty)) w.heap.size (w.heap.size + 1) W hlt (by omega) (fun t h1 h2=>?_) (fun t h1 h2=>?_) (Hd fun i W' hi hW'=>?_)).mono ?_
  ·rw [getD_at _ _ (by omega)]
   refine hA _ ?_
   have:d.keys[t]'(by omega)=(A ++ [x]).tail[t - 1]'(by simp; omega):=by
    have e:d.keys=(A ++ [x]) ++ B:=by rw [hd]; simp
    simp only [e]
    rw [List.getElem_append_left (by simp; omega),List.getElem_tail]
    congr 1; omega
   rw [this]; exact List.getElem_mem _
  ·rw [getD_at _ _ (by omega)]
   refine hB _ ?_
   have:d.keys[t]'(by omega)=B[t - (A.length + 1)]'(by omega):=by
    have e:d.keys=(A ++ [x]) ++ B:=by rw [hd]; simp
    simp only [e]
    rw [List.getElem_append_right (by simp; omega)]
    simp
   rw [this]; exact List.getElem_mem _
  ·have k1:W'.heap[p]?=_:=(hW'.block p (by omega)).trans ((hW.block p hlt').trans hk2)
   have k2:W'.cell? ⟨g,off + i,none⟩=some (.string (d.keys.getD i ByteArray.empty)):=by
    have:=HC i hi
    have hb:=World.block_lt_of_cell? w _ this
    exact (World.cell?_of_block ((hW'.block _ (Nat.lt_of_lt_of_le hb (by omega))).trans (hW.block _ hb))).trans this
   refine (way1_c [] p _ _ i g off cap d.keys.length d.isLeaf vv vi key _ W' (0,0) k1 ?_ ?_ hi k2).mono ?_
   ·exact (World.cell?_of_block (hW'.block _ (by show w.heap.size < _; omega))).trans b1
   ·exact (World.cell?_of_block (hW'.block _ (by show w.heap.size + 1 < _; omega))).trans b2
   ·rintro e w' ⟨rfl,q,rfl⟩
    exact ⟨rfl,Below.drewN hW' q⟩
  ·rintro e w' ⟨r,rfl,a,b⟩
   exact ⟨r,rfl,a,hW.trans (b.mono (by omega))⟩
 have hmf:∀ (fn:Fn) (first cap:Array Value) (w:World),(Instr.makeFunc fn first cap).run Tryz.prog w=.ok (.func fn first cap) w:=fun _ _ _ _=>rfl
 have c1:w.cell? ⟨p,1,none⟩=some (.slice (some ⟨g,off,none⟩) d.keys.length cap):=cell_lit hk2 rfl
 have hAl:A.length <= 1000000:=by omega
 have b1:((w.alloc (.cells #[.pointer (some ⟨p,0,none⟩)] 220)).alloc (.cells #[.string key] 9)).cell? ⟨w.heap.size,0,none⟩=some (.pointer (some ⟨p,0,none⟩)):=by
  have h1:=heap_alloc_new w (.cells #[.pointer (some ⟨p,0,none⟩)] 220)
  exact cell_lit ((((Below.refl (w.heap.size + 1) (w.alloc (.cells #[.pointer (some ⟨p,0,none⟩)] 220))).alloc (by simp) (.cells #[.string key] 9)).block _ (by omega)).trans h1) rfl
 have b2:((w.alloc (.cells #[.pointer (some ⟨p,0,none⟩)] 220)).alloc (.cells #[.string key] 9)).cell? ⟨w.heap.size + 1,0,none⟩=some (.string key):=by
  have h1:=heap_alloc_new (w.alloc (.cells #[.pointer (some ⟨p,0,none⟩)] 220)) (.cells #[.string key] 9)
  rw [World.size_alloc] at h1
  exact cell_lit h1 rfl
 have S1:=Hd (HS.out _ (((Below.refl w.heap.size w).alloc (Nat.le_refl _) _).alloc (by simp) _) (by simp) b1 b2)
 generalize d.keys.length=nn at *
 clear h hd hl hA hB hcap hlen hlt hc HC hk2 HS b1 b2
 go_enter Tryz.func166,Tryz.ntmps166
 go_wp2_with fail
 refine S1.out.mono ?_
 rintro e w1 ⟨r,rfl,hr⟩
 have HR:=Hd hr
 have hr1:r <= 1000001:=by have:=hr.1; omega
 clear hr S1
 have HM:=max_dec r A.length HR.out.1
 go_wp2_with fail
 go_ret
 exact ⟨rfl,HR.out.2⟩
set_option maxHeartbeats 1000000
theorem RRow.yields {w:World} {v:Value} {xs:List Value} (h:RRow w v xs):Yields w v xs.length xs:=by
 rcases h with ⟨rfl,rfl⟩ | ⟨g,off,cap,rfl,hn,hc⟩
 ·exact ⟨none,0,rfl,fun _=>rfl,fun a e=>by cases e⟩
 ·refine ⟨some ⟨g,off,none⟩,cap,rfl,(fun e=>by cases e),fun a e j u hj=>?_⟩
  cases e
  rw [Addr.add_lit]
  obtain ⟨h1,h2⟩:=List.getElem?_eq_some_iff.1 hj
  rw [hc j h1,h2]
structure Oth (w:World) (q:Nat) (leaf:Bool) (K V:List ByteArray) (C:List Nat) (vk vv vi:Value):Prop where
 blk:w.heap[q]?=some (.cells #[.bool leaf,vk,vv,vi] 222 (0,0))
 ks:RRow w vk (K.map Value.string)
 vs:RRow w vv (V.map Value.string)
 is:RRow w vi (C.map encN)
theorem NdV.oth {w:World} {q:Nat} {d:Nd} {vk vv vi:Value} (h:NdV w q d vk vv vi):Oth w q d.isLeaf d.keys d.vals d.kids vk vv vi:=⟨h.blk,h.ks,h.vs,h.is⟩
theorem Oth.upd {w W:World} {q:Nat} {leaf:Bool} {K V:List ByteArray} {C:List Nat} {vk vv vi:Value} {F:Nat -> Prop} (h:Oth w q leaf K V C vk vv vi) (hu:Upd F w W) (hn:∀ k,NdF q vk vv vi k -> k < w.heap.size /\ ¬ F k):Oth W q leaf K V C vk vv vi:=by
 have hk:∀ k,NdF q vk vv vi k -> W.heap[k]?=w.heap[k]?:=fun k e=>hu.block k (hn k e).1 (hn k e).2
 exact ⟨(hk q (.inl rfl)).trans h.blk,h.ks.kept fun k e=>hk k (.inr (.inl e)),h.vs.kept fun k e=>hk k (.inr (.inr (.inl e))),h.is.kept fun k e=>hk k (.inr (.inr (.inr e)))⟩
theorem Oth.cells {w:World} {q:Nat} {leaf:Bool} {K V:List ByteArray} {C:List Nat} {vk vv vi:Value} (h:Oth w q leaf K V C vk vv vi):w.cell? ⟨q,1,none⟩=some vk /\ w.cell? ⟨q,2,none⟩=some vv /\ w.cell? ⟨q,3,none⟩=some vi /\ q < w.heap.size :=
 ⟨cell_lit h.blk rfl,cell_lit h.blk rfl,cell_lit h.blk rfl,lt_of_heap h.blk⟩
theorem grown_upd {w w':World} {v:Value} (h:w.grownBy w' v.ownBlock):Upd (fun k=>v.ownBlock=some k) w w':=(Upd.refl _ _).grown h fun k e=>.inl e
theorem strs_bound {n m:Nat} (h:n <= 90000) (h2:m <= 90000):n + m <= maxLen /\ (n + m) * 16 <= 140737488355328 /\ (n + m) * 8 <= 140737488355328:=by unfold maxLen; omega
theorem clone_s {w:World} {v:Value} {K:List ByteArray} (h:RRow w v (K.map Value.string)) (hp:0 < K.length) (hl:K.length <= 90000) :
 Calls Tryz.prog 215 #[v] w fun e w'=>∃ g cap,e=.returned (.slice (some ⟨g,0,none⟩) K.length cap) /\ Hid (w'.ownsRow w.heap.size 9 1 (.slice (some ⟨g,0,none⟩) K.length cap) K.length (K.map Value.string) /\ Below w.heap.size w w'):=by
 obtain ⟨g,off,cap,rfl,hcap,hc⟩:=h.lit (by simpa using hp)
 have hs:=strs_at hc
 rw [List.length_map]
 refine (Tryz.slices_Clone_string g off K.length cap K w (Nat.le_refl _) (by omega) hs).mono ?_
 rintro e w' ⟨v',rfl,ho,hne,hb⟩
 rw [List.take_length] at ho
 rcases ho.2 with ⟨rfl,-⟩ | ⟨g',cap',cur,rfl,-⟩
 ·exact absurd rfl hne
 ·exact ⟨g',cap',rfl,ho,hb⟩
theorem own_new {w:World} {v v':Value} (h:v'.ownBlock=v.ownBlock \/ v'.ownBlock=some w.heap.size):∀ k,v'.ownBlock=some k -> v.ownBlock=some k \/ w.heap.size <= k:=by
 intro k hk
 rcases h with e | e
 ·exact .inl (by rw [<- e]; exact hk)
 ·rw [e] at hk; cases hk; exact .inr (Nat.le_refl _)
theorem join_c (p q:Nat) (leaf:Bool) (K V:List ByteArray) (C:List Nat) (vk vv vi:Value) (K2 V2:List ByteArray) (C2:List Nat) (vk2 vv2 vi2:Value) (first:ByteArray) (w:World)
 (h:NdP w p leaf K V C vk vv vi) (ho:Oth w q leaf K2 V2 C2 vk2 vv2 vi2) (hn:∀ k,NdF q vk2 vv2 vi2 k -> k < w.heap.size /\ ¬ NdF p vk vv vi k) (hp:0 < K2.length)
 (l1:K.length <= 90000 /\ V.length <= 90000 /\ C.length <= 90000) (l2:K2.length <= 90000 /\ V2.length <= 90000 /\ C2.length <= 90000) :
 Calls Tryz.prog 259 #[.pointer (some ⟨p,0,none⟩),.pointer (some ⟨q,0,none⟩),.string first] w fun e w'=>e=.returned (.tuple #[]) /\ Hid (∃ vk' vv' vi',NdS w w' (NdF p vk vv vi) p leaf (K ++ (if leaf then K2 else first :: K2.tail)) (V ++ V2) (C ++ C2) vk' vv' vi'):=by
 have hqp:¬ q=p:=fun e=>(hn q (.inl rfl)).2 (.inl e)
 have hpq:¬ p=q:=fun e=>hqp e.symm
 have hnot:∀ (x:Bool) (w:World),(Op.unary .not (.bool x)).run Tryz.prog w=.ok (.bool (!x)) w:=fun _ _=>rfl
 have S0:Hid (NdS w w (NdF p vk vv vi) p leaf K V C vk vv vi):=Hd ⟨h,fun k e=>.inl e,Upd.refl _ _⟩
 have HO:=Hd ho
 have HN:=Hd hn
 have CL:=Hd (clone_s ho.ks hp l2.1)
 have LK:=Hd (strs_bound l1.1 l2.1)
 have LV:=Hd (strs_bound l1.2.1 l2.2.1)
 have LC:=Hd (strs_bound l1.2.2 l2.2.2)
 obtain ⟨jS,hjS,hS0,hS1,hS2⟩:=info_parts infoS
 obtain ⟨jI,hjI,hI0,hI1,hI2⟩:=info_parts infoI
 obtain ⟨c0,c1,c2,c3,cf,cl⟩:=h.cells
 obtain ⟨d1,d2,d3,dl⟩:=ho.cells
 have hK2:Hid (0 < K2.length):=Hd hp
 clear h ho hn hp l1 l2
 go_enter Tryz.func259,Tryz.ntmps259
 go_wp2_with fail
 refine CL.out.mono ?_
 rintro e w1 ⟨g,cap,rfl,hR⟩
 have HR:=Hd hR
 clear hR
 have S1:=Hd (S0.out.below HR.out.2)
 obtain ⟨c0,c1,c2,c3,cf,cl⟩:=S1.out.nd.cells
 cases leaf with
 | true =>
   go_wp2_with (
    (refine chkA 63 63 ⟨_,_,by with_reducible rfl⟩ ?_
     refine wpList_append_y (by rfl) _ _ _ rfl 0 9 jS _ 1 16 Tryz.underlying63 hjS hS0 hS1 hS2 rfl (by decide) _ _ _ (by rfl) S1.out.nd.ks _ K2.length _ (by rfl) (by have:=RRow.yields (RRow.of_own HR.out.1); rwa [List.length_map] at this) (by simp) (str_one _) LK.out.1 LK.out.2.1 (Nat.zero_le _) ?_
     intro v1 W1 ho1 hg1 ha1
     obtain ⟨xa,xm,xc,rfl⟩:=slice_form ho1
     have S2:=Hd (S1.out.setK (K':=K ++ K2) (grown_upd hg1) (by simpa using ho1) (own_new ha1))
     have e1:=S1.out.nd.cellsU (grown_upd hg1) S1.out.nd.pk
     have e11:=e1.2.1
     have e1f:=e1.2.2.2.2.1 1
     clear ho1 hg1 ha1 e1))
   generalize W1.setCell ⟨p,1,none⟩ (.slice xa xm xc)=W2 at *
   clear e11 e1f S1 S0 HR CL
   obtain ⟨c0,c1,c2,c3,cf,cl⟩:=S2.out.nd.cells
   have cf2:=cf 2
   have O2:=Hd (HO.out.upd S2.out.upd HN.out)
   obtain ⟨d1,d2,d3,dl⟩:=O2.out.cells
   have T2:=Hd (S2.out.below (Below.refl _ _).drew)
   have P2:=Hd (HO.out.upd T2.out.upd HN.out)
   go_region_law (refine step_append_y (by rfl) _ _ _ (by rfl) 0 9 jS _ 1 16 Tryz.underlying63 hjS hS0 hS1 hS2 rfl (by decide) _ _ _ (by rfl) T2.out.nd.vs _ V2.length _ (by rfl) (by have:=RRow.yields P2.out.vs; rwa [List.length_map] at this) (by simp) (str_one _) LV.out.1 LV.out.2.1 (Nat.zero_le _) ?_
                  intro v3 W3 ho3 hg3 ha3
                  obtain ⟨ya,ym,yc,rfl⟩:=slice_form ho3
                  have S3:=Hd (T2.out.setV (V':=V ++ V2) (grown_upd hg3) (by simpa using ho3) (own_new ha3))
                  have e3:=T2.out.nd.cellsU (grown_upd hg3) T2.out.nd.pv
                  have e31:=e3.2.2.1
                  have e3f:=e3.2.2.2.2.1 2
                  clear ho3 hg3 ha3 e3)
   all_goals (
    go_wp2_with fail
    generalize W3.setCell ⟨p,2,none⟩ (.slice ya ym yc)=W4 at *
    clear e31 e3f S2 T2 O2 P2 c0 c1 c2 c3 cf cl cf2 d1 d2 d3 dl
    obtain ⟨c0,c1,c2,c3,cf,cl⟩:=S3.out.nd.cells
    have cf3:=cf 3
    have O4:=Hd (HO.out.upd S3.out.upd HN.out)
    obtain ⟨d1,d2,d3,dl⟩:=O4.out.cells
    have T4:=Hd (S3.out.below (Below.refl _ _).drew)
    have P4:=Hd (HO.out.upd T4.out.upd HN.out)
    go_region_law (refine step_append_y (by rfl) _ _ _ (by rfl) 0 3 jI _ 1 8 Tryz.underlying191 hjI hI0 hI1 hI2 rfl (by decide) _ _ _ (by rfl) T4.out.nd.is _ C2.length _ (by rfl) (by have:=RRow.yields P4.out.is; rwa [List.length_map] at this) (by simp) (int_one _) LC.out.1 LC.out.2.2 (Nat.zero_le _) ?_
                   intro v5 W5 ho5 hg5 ha5
                   obtain ⟨za,zm,zc,rfl⟩:=slice_form ho5
                   have S5:=Hd (T4.out.setI (C':=C ++ C2) (grown_upd hg5) (by simpa using ho5) (own_new ha5))
                   have e5:=T4.out.nd.cellsU (grown_upd hg5) T4.out.nd.pi
                   have e51:=e5.2.2.2.1
                   have e5f:=e5.2.2.2.2.1 3
                   clear ho5 hg5 ha5 e5))
   all_goals (
    go_wp2_with fail
    go_end0
    exact ⟨rfl,_,_,_,S5.out⟩)
 | false =>
   obtain ⟨r1,r2⟩:=World.ownsRow.stored HR.out.1 0 (.string first)
   have hg0:=World.ownsRow.lt HR.out.1 g rfl
   have hgc:w1.cell? ⟨g,0,none⟩=some (.string (K2[0]'hK2.out)):=by
    have:=World.ownsRow.cellAt HR.out.1 0 (by have:=hK2.out; omega)
    rw [this]; simp [hK2.out]
   have hgf:=World.ownsRow.frozenAt HR.out.1 0
   have h0:(0:Int) < (K2.length:Int):=by have:=hK2.out; omega
   have RS:=Hd (show ((w1.setCell ⟨g,0,none⟩ (.string first)).ownsRow w.heap.size 9 1 (.slice (some ⟨g,0,none⟩) K2.length cap) K2.length ((first :: K2.tail).map Value.string)) by
    have e:(K2.map Value.string).set 0 (.string first)=(first :: K2.tail).map Value.string:=by
     cases K2 with
     | nil=>exact absurd hK2.out (by simp)
     | cons a t=>rfl
    rw [<- e]; exact r1)
   have hlK:(first :: K2.tail).length=K2.length:=by have:=hK2.out; simp; omega
   have HLK:=Hd hlK
   have S1s:=Hd (S0.out.below (HR.out.2.setCell (p:=⟨g,0,none⟩) hg0.1 (.string first)))
   obtain ⟨s0,s1,s2,s3,sf,sl⟩:=S1s.out.nd.cells
   clear r1 r2 hlK
   go_wp2_with (
    (refine chkA 63 63 ⟨_,_,by with_reducible rfl⟩ ?_
     refine wpList_append_y (by rfl) _ _ _ rfl 0 9 jS _ 1 16 Tryz.underlying63 hjS hS0 hS1 hS2 rfl (by decide) _ _ _ (by rfl) S1s.out.nd.ks _ K2.length _ (by rfl) (by have:=RRow.yields (RRow.of_own RS.out); rwa [List.length_map,HLK.out] at this) (by rw [List.length_map,HLK.out,Nat.mul_one]) (str_one _) LK.out.1 LK.out.2.1 (Nat.zero_le _) ?_
     intro v1 W1 ho1 hg1 ha1
     obtain ⟨xa,xm,xc,rfl⟩:=slice_form ho1
     have S2:=Hd (S1s.out.setK (K':=K ++ first :: K2.tail) (grown_upd hg1) (by have:=ho1; rw [<- HLK.out] at this; simpa using this) (own_new ha1))
     have e1:=S1s.out.nd.cellsU (grown_upd hg1) S1s.out.nd.pk
     have e11:=e1.2.1
     have e1f:=e1.2.2.2.2.1 1
     clear ho1 hg1 ha1 e1))
   generalize W1.setCell ⟨p,1,none⟩ (.slice xa xm xc)=W2 at *
   clear e11 e1f S1 S1s S0 HR CL RS s0 s1 s2 s3 sf sl hgc hgf
   obtain ⟨c0,c1,c2,c3,cf,cl⟩:=S2.out.nd.cells
   have cf2:=cf 2
   have O2:=Hd (HO.out.upd S2.out.upd HN.out)
   obtain ⟨d1,d2,d3,dl⟩:=O2.out.cells
   have T2:=Hd (S2.out.below (Below.refl _ _).drew)
   have P2:=Hd (HO.out.upd T2.out.upd HN.out)
   go_region_law (refine step_append_y (by rfl) _ _ _ (by rfl) 0 9 jS _ 1 16 Tryz.underlying63 hjS hS0 hS1 hS2 rfl (by decide) _ _ _ (by rfl) T2.out.nd.vs _ V2.length _ (by rfl) (by have:=RRow.yields P2.out.vs; rwa [List.length_map] at this) (by simp) (str_one _) LV.out.1 LV.out.2.1 (Nat.zero_le _) ?_
                  intro v3 W3 ho3 hg3 ha3
                  obtain ⟨ya,ym,yc,rfl⟩:=slice_form ho3
                  have S3:=Hd (T2.out.setV (V':=V ++ V2) (grown_upd hg3) (by simpa using ho3) (own_new ha3))
                  have e3:=T2.out.nd.cellsU (grown_upd hg3) T2.out.nd.pv
                  have e31:=e3.2.2.1
                  have e3f:=e3.2.2.2.2.1 2
                  clear ho3 hg3 ha3 e3)
   all_goals (
    go_wp2_with fail
    generalize W3.setCell ⟨p,2,none⟩ (.slice ya ym yc)=W4 at *
    clear e31 e3f S2 T2 O2 P2 c0 c1 c2 c3 cf cl cf2 d1 d2 d3 dl
    obtain ⟨c0,c1,c2,c3,cf,cl⟩:=S3.out.nd.cells
    have cf3:=cf 3
    have O4:=Hd (HO.out.upd S3.out.upd HN.out)
    obtain ⟨d1,d2,d3,dl⟩:=O4.out.cells
    have T4:=Hd (S3.out.below (Below.refl _ _).drew)
    have P4:=Hd (HO.out.upd T4.out.upd HN.out)
    go_region_law (refine step_append_y (by rfl) _ _ _ (by rfl) 0 3 jI _ 1 8 Tryz.underlying191 hjI hI0 hI1 hI2 rfl (by decide) _ _ _ (by rfl) T4.out.nd.is _ C2.length _ (by rfl) (by have:=RRow.yields P4.out.is; rwa [List.length_map] at this) (by simp) (int_one _) LC.out.1 LC.out.2.2 (Nat.zero_le _) ?_
                   intro v5 W5 ho5 hg5 ha5
                   obtain ⟨za,zm,zc,rfl⟩:=slice_form ho5
                   have S5:=Hd (T4.out.setI (C':=C ++ C2) (grown_upd hg5) (by simpa using ho5) (own_new ha5))
                   have e5:=T4.out.nd.cellsU (grown_upd hg5) T4.out.nd.pi
                   have e51:=e5.2.2.2.1
                   have e5f:=e5.2.2.2.2.1 3
                   clear ho5 hg5 ha5 e5))
   all_goals (
    go_wp2_with fail
    go_end0
    exact ⟨rfl,_,_,_,S5.out⟩)
structure Frm (P P':List Nat) (S S':RS):Prop where
 keep:∀ q,q ∉ P -> S.used q=true -> q ∉ P' /\ S'.used q=true /\ S'.cont q=S.cont q
 back:∀ q,S'.used q=true -> q ∈ P' \/ (S.used q=true /\ q ∉ P)
 root:S'.root=S.root
 base:S'.base=S.base
theorem Frm.refl (P:List Nat) (S:RS):Frm P P S S:=⟨fun q h u=>⟨h,u,rfl⟩,fun q u=>(Classical.em (q ∈ P)).imp id fun h=>⟨u,h⟩,rfl,rfl⟩
theorem Frm.trans {P P1 P2:List Nat} {S S1 S2:RS} (a:Frm P P1 S S1) (b:Frm P1 P2 S1 S2):Frm P P2 S S2:=by
 refine ⟨fun q h u=>?_,fun q u=>?_,b.root.trans a.root,b.base.trans a.base⟩
 ·obtain ⟨h1,u1,c1⟩:=a.keep q h u
  obtain ⟨h2,u2,c2⟩:=b.keep q h1 u1
  exact ⟨h2,u2,c2.trans c1⟩
 ·rcases b.back q u with h | ⟨u1,h1⟩
  ·exact .inl h
  ·rcases a.back q u1 with h | h
   ·exact absurd h h1
   ·exact .inr h
theorem Frm.ctx {P P':List Nat} {S S':RS} (a:Frm P P' S S') (Q Q':List Nat) (X:List Nat) (hQ:∀ q,q ∈ Q ↔ q ∈ P \/ q ∈ X) (hQ':∀ q,q ∈ Q' ↔ q ∈ P' \/ q ∈ X):Frm Q Q' S S':=by
 refine ⟨fun q h u=>?_,fun q u=>?_,a.root,a.base⟩
 ·have h1:q ∉ P:=fun e=>h ((hQ q).2 (.inl e))
  have h2:q ∉ X:=fun e=>h ((hQ q).2 (.inr e))
  obtain ⟨h3,u1,c1⟩:=a.keep q h1 u
  exact ⟨fun e=>((hQ' q).1 e).elim h3 h2,u1,c1⟩
 ·rcases a.back q u with h | ⟨u1,h1⟩
  ·exact .inl ((hQ' q).2 (.inl h))
  ·by_cases hx:q ∈ X
   ·exact .inl ((hQ' q).2 (.inr hx))
   ·exact .inr ⟨u1,fun e=>((hQ q).1 e).elim h1 hx⟩
def wrS (S:RS) (p:Nat) (d:Nd):RS:=⟨S.root,S.used,fun q=>if q=p then pad (ofL d.bytes) else S.cont q,S.base⟩
def frS (S:RS) (p:Nat):RS:=⟨S.root,flip S.used p,S.cont,S.base⟩
theorem Frm.write (P:List Nat) (S:RS) (p:Nat) (d:Nd) (hp:p ∈ P):Frm P P S (wrS S p d):=by
 refine ⟨fun q h u=>⟨h,u,?_⟩,fun q u=>(Classical.em (q ∈ P)).imp id fun h=>⟨u,h⟩,rfl,rfl⟩
 show (if q=p then _ else _)=_
 rw [if_neg (fun e=>h (by rw [e]; exact hp))]
theorem Frm.alloc (P:List Nat) (S:RS) (p:Nat) (hp:S.used p=false):Frm P (p :: P) S (allocS S p):=by
 refine ⟨fun q h u=>?_,fun q u=>?_,rfl,rfl⟩
 ·have hne:q ≠ p:=fun e=>by rw [e,hp] at u; cases u
  refine ⟨by simp [hne,h],?_,?_⟩
  ·show flip S.used p q=true
   unfold flip; rw [if_neg hne]; exact u
  ·show (if q=p then _ else _)=_
   rw [if_neg hne]
 ·by_cases hne:q=p
  ·exact .inl (by simp [hne])
  ·have:flip S.used p q=true:=u
   unfold flip at this; rw [if_neg hne] at this
   exact (Classical.em (q ∈ P)).imp (fun h=>by simp [h]) fun h=>⟨this,h⟩
theorem Frm.free (P P':List Nat) (S:RS) (p:Nat) (hu:S.used p=true) (hP:∀ q,q ∈ P ↔ q=p \/ q ∈ P') (hn:p ∉ P'):Frm P P' S (frS S p):=by
 refine ⟨fun q h u=>?_,fun q u=>?_,rfl,rfl⟩
 ·have hne:q ≠ p:=fun e=>h ((hP q).2 (.inl e))
  refine ⟨fun e=>h ((hP q).2 (.inr e)),?_,rfl⟩
  show flip S.used p q=true
  unfold flip; rw [if_neg hne]; exact u
 ·have u':flip S.used p q=true:=u
  unfold flip at u'
  by_cases hne:q=p
  ·rw [if_pos hne,hne,hu] at u'; cases u'
  ·rw [if_neg hne] at u'
   exact (Classical.em (q ∈ P')).imp id fun h=>⟨u',fun e=>((hP q).1 e).elim hne h⟩
def low:(h:Nat) -> PT h -> List Nat
 | 0,_=>[]
 | h + 1,l=>List.flatMap (fun x=>pgs h x.2.1 x.2.2) l
def Kids (S:RS):(h:Nat) -> PT h -> Prop
 | 0,_=>True
 | h + 1,l=>∀ x ∈ (l:List (Kid h)),On S h x.2.1 x.2.2
theorem pgs_low (h p:Nat) (t:PT h):pgs h p t=p :: low h t:=by cases h <;> rfl
theorem on_iff {S:RS} {h p:Nat} {t:PT h}:On S h p t ↔ (S.used p=true /\ S.cont p=pad (ofL (nd h t).bytes)) /\ Kids S h t:=by
 cases h with
 | zero=>exact ⟨fun h=>⟨h,trivial⟩,fun h=>h.1⟩
 | succ h=>exact Iff.rfl
theorem Kids.frame {S S':RS} {h:Nat} {t:PT h} (H:Kids S h t) (hq:∀ q ∈ low h t,S'.used q=S.used q /\ S'.cont q=S.cont q):Kids S' h t:=by
 cases h with
 | zero=>trivial
 | succ h=>exact fun x hx=>(H x hx).frame fun q h'=>hq q (List.mem_flatMap.2 ⟨x,hx,h'⟩)
theorem Kids.used {S:RS} {h:Nat} {t:PT h} (H:Kids S h t):∀ q ∈ low h t,S.used q=true:=by
 cases h with
 | zero=>intro q hq; simp [low] at hq
 | succ h =>
   intro q hq
   obtain ⟨x,hx,h'⟩:=List.mem_flatMap.1 hq
   exact (H x hx).used q h'
theorem Tr.write {S:RS} {h p:Nat} {t:PT h} (hw:Wf h t) (hp:0 < (nd h t).len) (hs:(nd h t).size <= 512) (hk:Kids S h t) (hn:(pgs h p t).Nodup) (hu:S.used p=true):Tr (wrS S p (nd h t)) h p t:=by
 refine ⟨hw,hp,hs,on_iff.2 ⟨⟨hu,?_⟩,hk.frame fun q hq=>⟨rfl,?_⟩⟩,hn⟩
 ·show (if p=p then _ else _)=_
  rw [if_pos rfl]
 ·have hne:q ≠ p:=fun e=>by rw [pgs_low] at hn; exact (List.nodup_cons.1 hn).1 (e ▸ hq)
  show (if q=p then _ else _)=_
  rw [if_neg hne]
theorem Tr.fresh {S:RS} {h p:Nat} {t:PT h} (hw:Wf h t) (hp:0 < (nd h t).len) (hs:(nd h t).size <= 512) (hk:Kids S h t) (hn:(low h t).Nodup) (hu:S.used p=false):Tr (wrS (allocS S p) p (nd h t)) h p t:=by
 have hne:∀ q ∈ low h t,q ≠ p:=fun q hq e=>by have:=hk.used q hq; rw [e,hu] at this; cases this
 refine Tr.write hw hp hs (hk.frame fun q hq=>⟨?_,?_⟩) ?_ ?_
 ·show flip S.used p q=_
  unfold flip; rw [if_neg (hne q hq)]
 ·show (if q=p then _ else _)=_
  rw [if_neg (hne q hq)]
 ·rw [pgs_low]; exact List.nodup_cons.2 ⟨fun hq=>hne p hq rfl,hn⟩
 ·show flip S.used p p=true
  unfold flip; rw [if_pos rfl,hu]; rfl
theorem Tr.kids {S:RS} {h p:Nat} {t:PT h} (H:Tr S h p t):Kids S h t:=(on_iff.1 H.on).2
def tk:(h:Nat) -> Nat -> PT h -> PT h
 | 0,n,l=>List.take n l
 | h + 1,n,l=>List.take n l
def dr:(h:Nat) -> Nat -> PT h -> PT h
 | 0,n,l=>List.drop n l
 | h + 1,n,l=>List.drop n l
def Nd.take (n:Nat):Nd -> Nd
 | .leaf l=>.leaf (l.take n)
 | .inner l=>.inner (l.take n)
def Nd.drop (n:Nat):Nd -> Nd
 | .leaf l=>.leaf (l.drop n)
 | .inner l=>.inner (l.drop n)
theorem nd_tk (h n:Nat) (t:PT h):nd h (tk h n t)=(nd h t).take n:=by
 cases h with
 | zero=>rfl
 | succ h=>simp [nd,tk,Nd.take,List.map_take]
theorem nd_dr (h n:Nat) (t:PT h):nd h (dr h n t)=(nd h t).drop n:=by
 cases h with
 | zero=>rfl
 | succ h=>simp [nd,dr,Nd.drop,List.map_drop]
theorem ents_cut (h n:Nat) (t:PT h):ents h (tk h n t) ++ ents h (dr h n t)=ents h t:=by
 cases h with
 | zero=>exact List.take_append_drop n t
 | succ h=>exact (ents_app h _ _).symm.trans (by simp [tk,dr])
theorem low_cut (h n:Nat) (t:PT h):low h (tk h n t) ++ low h (dr h n t)=low h t:=by
 cases h with
 | zero=>rfl
 | succ h =>
   show List.flatMap _ (List.take n t) ++ List.flatMap _ (List.drop n t)=List.flatMap _ t
   rw [<- List.flatMap_append,List.take_append_drop]
theorem Kids.cut {S:RS} {h:Nat} {t:PT h} (n:Nat) (H:Kids S h t):Kids S h (tk h n t) /\ Kids S h (dr h n t):=by
 cases h with
 | zero=>exact ⟨trivial,trivial⟩
 | succ h=>exact ⟨fun x hx=>H x (List.mem_of_mem_take hx),fun x hx=>H x (List.mem_of_mem_drop hx)⟩
theorem sing_cut (h n:Nat) (t:PT h) (h1:2 <= (nd h (tk h n t)).len) (h2:2 <= (nd h (dr h n t)).len):sing h (tk h n t) + sing h (dr h n t) <= sing h t:=by
 cases h with
 | zero=>simp [sing]
 | succ h =>
   rw [nd_lenS] at h1 h2
   have e:(List.map (fun x:Kid h=>sing h x.2.2) (List.take n t)).sum + (List.map (fun x:Kid h=>sing h x.2.2) (List.drop n t)).sum=(List.map (fun x:Kid h=>sing h x.2.2) t).sum:=by
    rw [<- List.sum_append,<- List.map_append,List.take_append_drop]
   change 2 <= (List.take n t).length at h1
   change 2 <= (List.drop n t).length at h2
   show ((if (List.take n t).length=1 then 1 else 0) + (List.map (fun x:Kid h=>sing h x.2.2) (List.take n t)).sum) + ((if (List.drop n t).length=1 then 1 else 0) + (List.map (fun x:Kid h=>sing h x.2.2) (List.drop n t)).sum) <= (if List.length t=1 then 1 else 0) + (List.map (fun x:Kid h=>sing h x.2.2) t).sum
   rw [if_neg (by omega),if_neg (by omega)]
   omega
theorem Wf.cut {h:Nat} {t:PT h} (H:Wf h t) (n:Nat):Wf h (tk h n t) /\ Wf h (dr h n t):=by
 cases h with
 | zero=>exact ⟨⟨fun e he=>H.1 e (List.mem_of_mem_take he),H.2.sublist (List.take_sublist _ _)⟩,⟨fun e he=>H.1 e (List.mem_of_mem_drop he),H.2.sublist (List.drop_sublist _ _)⟩⟩
 | succ h =>
   refine ⟨⟨fun e he=>H.1 e (List.mem_of_mem_take he),H.2.1.sublist (List.take_sublist _ _),fun y hy=>H.2.2 y ?_⟩,⟨fun e he=>H.1 e (List.mem_of_mem_drop he),H.2.1.sublist (List.drop_sublist _ _),fun y hy=>H.2.2 y ?_⟩⟩
   ·have:(tk (h + 1) n t).tail=List.take (n - 1) (List.tail t):=by
     show (List.take n t).tail=_
     cases n <;> cases t <;> simp
    rw [this] at hy; exact List.mem_of_mem_take hy
   ·have:(dr (h + 1) n t).tail=List.drop n (List.tail t):=by
     show (List.drop n t).tail=_
     rw [List.tail_drop,<- List.drop_one,List.drop_drop]; congr 1; omega
    rw [this] at hy; exact List.mem_of_mem_drop hy
theorem Wf.first {h:Nat} {t:PT h} (H:Wf h t) (n:Nat) (h0:0 < n) (h1:0 < (nd h (dr h n t)).len) :
 (∀ e ∈ ents h (tk h n t),kless e.1 ((nd h (dr h n t)).keys.getD 0 ByteArray.empty)=true) /\ (∀ e ∈ ents h (dr h n t),kless e.1 ((nd h (dr h n t)).keys.getD 0 ByteArray.empty)=false) /\ ((nd h (dr h n t)).keys.getD 0 ByteArray.empty).size <= 96:=by
 cases h with
 | zero =>
   rw [nd_len0] at h1
   have hs:Srt (List.take n t ++ List.drop n t):=by rw [List.take_append_drop]; exact H.2
   have e:(nd 0 (dr 0 n t)).keys=(List.drop n t).map Prod.fst:=rfl
   have hm:∀ x ∈ List.drop n t,x.1.size <= 96:=fun x hx=>(H.1 x (List.mem_of_mem_drop hx)).1
   rw [e]
   show (∀ e ∈ List.take n t,_) /\ (∀ e ∈ List.drop n t,_) /\ _
   change 0 < (List.drop n t).length at h1
   generalize List.take n t=A at *
   generalize List.drop n t=B at *
   cases B with
   | nil=>simp at h1
   | cons x B =>
     obtain ⟨-,g1,g2⟩:=srt_of hs
     refine ⟨g1,fun e he=>?_,hm x (by simp)⟩
     rcases List.mem_cons.1 he with rfl | he
     ·exact kless_irrefl _
     ·exact kless_asymm (g2 e he)
 | succ h =>
   rw [nd_lenS] at h1
   have hs:Seps h (List.take n t ++ List.drop n t):=by rw [List.take_append_drop]; exact H.2
   have e:(nd (h + 1) (dr (h + 1) n t)).keys=(List.drop n t).map Prod.fst:=by simp [nd,dr,Nd.keys,Function.comp_def]
   have hm:∀ x ∈ List.drop n t,x.1.size <= 96 /\ 0 < (ents h x.2.2).length:=fun x hx=>by
    obtain ⟨a,b,c,d,f⟩:=H.1 x (List.mem_of_mem_drop hx)
    exact ⟨a,ents_pos f c⟩
   have hA:List.take n t ≠ []:=fun e=>by
    have:=congrArg List.length e
    rw [List.length_take,List.length_nil] at this
    change 0 < (List.drop n t).length at h1
    rw [List.length_drop] at h1
    omega
   rw [e]
   show (∀ e ∈ ents (h + 1) (List.take n t),_) /\ (∀ e ∈ ents (h + 1) (List.drop n t),_) /\ _
   change 0 < (List.drop n t).length at h1
   generalize List.take n t=A at *
   generalize List.drop n t=B at *
   cases B with
   | nil=>simp at h1
   | cons x B =>
     obtain ⟨g1,g2,g3,g4,g5⟩:=seps_pair.1 hs.1
     obtain ⟨g6,g7,g8⟩:=seps_tail.1 hs.2
     obtain ⟨hx1,hx2⟩:=hm x (by simp)
     obtain ⟨e0,he0⟩:∃ e0,e0 ∈ ents h x.2.2:=⟨_,List.getElem_mem hx2⟩
     refine ⟨fun e he=>?_,fun e he=>?_,hx1⟩
     ·obtain ⟨a,ha,he⟩:=(ents_mem h A e).1 he
      exact g3 a ha e he
     ·obtain ⟨a,ha,he'⟩:=(ents_mem h _ e).1 he
      rcases List.mem_cons.1 ha with rfl | ha
      ·exact g7 hA _ he'
      ·exact kle_trans (g7 hA e0 he0) (kless_asymm (kless_of_lt_le (g4 a ha e0 he0) (g8 a ha _ he')))
structure CutAt (d:Nd) (n:Nat):Prop where
 le:n <= d.len
 big:d.size / 2 <= szUp d.isLeaf d.keys d.vals n
 fst:0 < n -> szUp d.isLeaf d.keys d.vals (n - 1) < d.size / 2
theorem cut_fit {α:Type} (f:α -> Nat) (l:List α) (c n:Nat) (hc:∀ x ∈ l,f x <= c) (hc2:c <= 154) (h1:512 < 3 + (l.map f).sum) (h2:3 + (l.map f).sum <= 666) (hn:n <= l.length)
 (hb:(3 + (l.map f).sum) / 2 <= 3 + ((l.take n).map f).sum) (hf:0 < n -> 3 + ((l.take (n - 1)).map f).sum < (3 + (l.map f).sum) / 2) :
 0 < n /\ n < l.length /\ 3 + ((l.take n).map f).sum <= 512 /\ 3 + ((l.drop n).map f).sum <= 512 /\ 253 <= ((l.take n).map f).sum /\ 256 - c < ((l.drop n).map f).sum:=by
 have h0:0 < n:=by
  cases n with
  | zero=>simp at hb; omega
  | succ n=>omega
 have hf':=hf h0
 have e:((l.take n).map f).sum + ((l.drop n).map f).sum=(l.map f).sum:=by rw [<- List.sum_append,<- List.map_append,List.take_append_drop]
 obtain ⟨m,rfl⟩:∃ m,n=m + 1:=⟨n - 1,by omega⟩
 have hlt:m < l.length:=hn
 have e2:((l.take (m + 1)).map f).sum=((l.take m).map f).sum + f l[m]:=by
  rw [List.take_succ_eq_append_getElem hlt,List.map_append,List.sum_append]; simp
 have hm:=hc _ (List.getElem_mem hlt)
 simp only [Nat.add_sub_cancel] at hf'
 refine ⟨h0,?_,by omega,by omega,by omega,by omega⟩
 by_cases hx:m + 1 < l.length
 ·exact hx
 ·rw [List.drop_eq_nil_of_le (by omega:l.length <= m + 1)] at e
  simp only [List.map_nil,List.sum_nil,Nat.add_zero] at e; omega
theorem CutAt.fit {d:Nd} {n:Nat} (H:CutAt d n) (hk:∀ k ∈ d.keys,k.size <= 96) (hv:∀ v ∈ d.vals,v.size <= 56) (h1:512 < d.size) (h2:d.size <= 666) :
 0 < n /\ n < d.len /\ (d.take n).size <= 512 /\ (d.drop n).size <= 512 /\ (d.isLeaf=false -> 2 <= (d.take n).len /\ 2 <= (d.drop n).len):=by
 cases d with
 | leaf l =>
   have hl:(Nd.leaf l).len=l.length:=by simp [Nd.len,Nd.keys]
   have a:=H.le
   have b:=H.big
   have c:=H.fst
   rw [hl] at a
   simp only [Nd.isLeaf,Nd.keys,Nd.vals] at b c
   rw [szUp_leaf l _ a] at b
   rw [szUp_leaf l _ (by omega)] at c
   rw [size_leaf] at b c h1 h2
   have hc:∀ x ∈ l,esL x <= 154:=fun x hx=>by
    have q1:=hk x.1 (by simp [Nd.keys]; exact ⟨_,hx⟩)
    have q2:=hv x.2 (by simp [Nd.vals]; exact ⟨_,hx⟩)
    unfold esL; omega
   obtain ⟨g1,g2,g3,g4,g5,g6⟩:=cut_fit esL l 154 n hc (by omega) h1 h2 a b c
   refine ⟨g1,by rw [hl]; exact g2,by rw [Nd.take,size_leaf]; exact g3,by rw [Nd.drop,size_leaf]; exact g4,by simp [Nd.isLeaf]⟩
 | inner l =>
   have hl:(Nd.inner l).len=l.length:=by simp [Nd.len,Nd.keys]
   have a:=H.le
   have b:=H.big
   have c:=H.fst
   rw [hl] at a
   simp only [Nd.isLeaf,Nd.keys,Nd.vals] at b c
   rw [szUp_inner l _ _ a] at b
   rw [szUp_inner l _ _ (by omega)] at c
   rw [size_inner] at b c h1 h2
   have hc:∀ x ∈ l,esI x <= 101:=fun x hx=>by
    have q1:=hk x.1 (by simp [Nd.keys]; exact ⟨_,hx⟩)
    unfold esI; omega
   obtain ⟨g1,g2,g3,g4,g5,g6⟩:=cut_fit esI l 101 n hc (by omega) h1 h2 a b c
   refine ⟨g1,by rw [hl]; exact g2,by rw [Nd.take,size_inner]; exact g3,by rw [Nd.drop,size_inner]; exact g4,fun _=>?_⟩
   have k1:=sum_le esI 101 (l.take n) fun x hx=>hc x (List.mem_of_mem_take hx)
   have k2:=sum_le esI 101 (l.drop n) fun x hx=>hc x (List.mem_of_mem_drop hx)
   simp only [Nd.take,Nd.drop,Nd.len,Nd.keys,List.length_map]
   omega
end Go.Proofs.YtdcjhpafipbpkaaGreatDoor
