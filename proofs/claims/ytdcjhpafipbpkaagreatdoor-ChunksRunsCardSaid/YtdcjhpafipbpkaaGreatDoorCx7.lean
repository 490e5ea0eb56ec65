/- Parts of the proof of ChunksRuns,joined: TreeZ,MapA,MapB,DelA,DelB,DelC,DelD,DelE,DelF. No condition. -/
import Derived.Test.YtdcjhpafipbpkaaGreatDoorCx6
set_option linter.unusedSimpArgs false
set_option linter.unusedVariables false
set_option linter.unusedSectionVars false
namespace Go.Proofs.YtdcjhpafipbpkaaGreatDoor
set_option maxRecDepth 100000
set_option maxHeartbeats 1000000
open Go.RowKit
structure TT where
 h:Nat
 p:Nat
 t:PT h
def TreeSt (S:RS) (place:Nat):Option TT -> Prop
 | none=>S.root place=0
 | some T=>S.root place=T.p + 1 /\ Tr S T.h T.p T.t
def entsO:Option TT -> List (ByteArray × ByteArray)
 | none=>[]
 | some T=>ents T.h T.t
def pgsO:Option TT -> List Nat
 | none=>[]
 | some T=>pgs T.h T.p T.t
def singO:Option TT -> Nat
 | none=>0
 | some T=>sing T.h T.t
def hgtO:Option TT -> Nat
 | none=>0
 | some T=>T.h
def wtO:Option TT -> Nat
 | none=>0
 | some T=>wt T.h T.t
def crO:Option TT -> Nat
 | none=>6
 | some T=>if T.h=0 then 6 else 4 * T.h + min 6 (nd T.h T.t).len
structure FrmT (place:Nat) (P P':List Nat) (S S':RS):Prop where
 keep:∀ q,q ∉ P -> S.used q=true -> q ∉ P' /\ S'.used q=true /\ S'.cont q=S.cont q
 back:∀ q,S'.used q=true -> q ∈ P' \/ (S.used q=true /\ q ∉ P)
 root:∀ k,k ≠ place -> S'.root k=S.root k
theorem Frm.toT {P P':List Nat} {S S':RS} (place v:Nat) (h:Frm P P' S S'):FrmT place P P' S (setRootS S' place v) :=
 ⟨h.keep,h.back,fun k hk=>by show upd S'.root place v k=_; unfold upd; rw [if_neg hk,h.root]⟩
theorem Frm.toT' {P P':List Nat} {S S':RS} (place:Nat) (h:Frm P P' S S'):FrmT place P P' S S':=⟨h.keep,h.back,fun k _=>by rw [h.root]⟩
theorem Tr.root {S:RS} {h p:Nat} {t:PT h} (H:Tr S h p t) (place v:Nat):Tr (setRootS S place v) h p t:=H.frame fun q _=>⟨rfl,rfl⟩
theorem setRoot_at (S:RS) (place v:Nat):(setRootS S place v).root place=v:=by show upd S.root place v place=v; unfold upd; rw [if_pos rfl]
theorem mark_s (G:Nat -> Prop) (rb n m:Nat) (S:RS) (w:World) (h:RmS w G rb n m S):Calls Tryz.prog 114 #[.pointer (some ⟨rb,0,none⟩)] w fun e w'=>∃ k:Nat,e=.returned (.int .i64 (k:Int)) /\ w'=w:=by
 obtain ⟨puts,h1,h2,h3⟩:=h
 refine (RMark_c G rb n puts w h2).mono ?_
 rintro e w' ⟨rfl,rfl⟩
 exact ⟨_,rfl,rfl⟩
theorem heap_alloc_at (w:World) (o:Obj) (k:Nat):(w.alloc o).heap[k]?=if k=w.heap.size then some o else w.heap[k]?:=by
 by_cases h:k=w.heap.size
 ·rw [if_pos h,h]; exact heap_alloc_new w o
 ·rw [if_neg h]; show (w.heap.push o)[k]?=_; rw [Array.getElem?_push,if_neg h]
theorem heap_drew (w:World) (k:Nat):w.drew.heap[k]?=w.heap[k]?:=rfl
structure PutLoc (W:World) (b tb:Nat):Prop where
 b0:W.heap[b]?=some (.cells #[.pointer (some ⟨tb,0,none⟩)] 103 (0,0))
 b1:W.heap[b + 1]?=some (.cells #[.int .i64 0] 34 (0,0))
theorem PutLoc.upd {W W':World} {b tb:Nat} {G:Nat -> Prop} (h:PutLoc W b tb) (hu:Upd G W W') (h0:¬ G b) (h1:¬ G (b + 1)):PutLoc W' b tb :=
 ⟨hu.at h.b0 h0,hu.at h.b1 h1⟩
theorem PutLoc.below {W W':World} {b tb:Nat} (h:PutLoc W b tb) (hb:Below W.heap.size W W'):PutLoc W' b tb:=h.upd (hb.upd' (Nat.le_refl _)) (fun e=>e) (fun e=>e)
theorem PutLoc.cells {W:World} {b tb:Nat} (h:PutLoc W b tb):W.cell? ⟨b,0,none⟩=some (.pointer (some ⟨tb,0,none⟩)) /\ W.cell? ⟨b + 1,0,none⟩=some (.int .i64 0) /\ W.frozen? ⟨b + 1,0,none⟩=false /\ b < W.heap.size /\ b + 1 < W.heap.size :=
 ⟨cell_lit h.b0 rfl,cell_lit h.b1 rfl,frozen_lit h.b1 0,lt_of_heap h.b0,lt_of_heap h.b1⟩
def putW (w:World) (tb:Nat) (k:Int):World:=((w.alloc (.cells #[.pointer (some ⟨tb,0,none⟩)] 103)).alloc (.cells #[.int .i64 0] 34)).alloc (.cells #[.int .i64 k] 3)
theorem putW_below (w:World) (tb:Nat) (k:Int):Below w.heap.size w (putW w tb k):=(((Below.refl w.heap.size w).alloc (Nat.le_refl _) _).alloc (by simp) _).alloc (by simp; omega) _
theorem putW_size (w:World) (tb:Nat) (k:Int):(putW w tb k).heap.size=w.heap.size + 3:=by unfold putW; simp
theorem putW_loc (w:World) (tb:Nat) (k:Int):PutLoc (putW w tb k) w.heap.size tb:=by
 refine ⟨?_,?_⟩
 ·unfold putW; rw [heap_alloc_at,if_neg (by simp; omega),heap_alloc_at,if_neg (by simp),heap_alloc_new]
 ·unfold putW; rw [heap_alloc_at,if_neg (by simp),heap_alloc_at,if_pos (by simp)]
theorem TBase.fin {w W0 W:World} {G G':Nat -> Prop} {tb rb place n m:Nat} {S:RS} (h:TBase W0 W G G' tb rb place n m S) (hb:Below w.heap.size w W0) (hG:∀ k,G k -> k < w.heap.size) {x:Nat} (hx:w.heap.size <= x) (hx2:x < W0.heap.size) (i:Nat) (v:Value) :
 StGo w (W.setCell ⟨x,i,none⟩ v) G rb n m S:=by
 have hnx:¬ G' x:=fun e=>by
  rcases h.sub x e with e | e
  ·have:=hG x e; omega
  ·omega
 have hu:Upd (fun k=>k=x) W (W.setCell ⟨x,i,none⟩ v):=Upd.setCell (S:=fun k=>k=x) (Upd.refl _ _) (p:=⟨x,i,none⟩) (.inl rfl) v
 refine ⟨G',h.room.frame hu fun k hk e=>hnx (e ▸ hk),?_,fun k hk=>?_⟩
 ·have u1:Upd G w W:=((hb.upd' (Nat.le_refl _)).mono (S':=G) fun _ _ e=>False.elim e).trans h.up
  exact u1.trans' hu fun j hj e=>absurd e (by omega)
 ·rcases h.sub k hk with e | e
  ·exact .inl e
  ·have:=hb.size; exact .inr (by omega)
structure MapGo (place n:Nat) (S S':RS) (o o':Option TT):Prop where
 st:TreeSt S' place o'
 frm:FrmT place (pgsO o) (pgsO o') S S'
def PutGo (place n:Nat) (S S':RS) (o o':Option TT) (key val:ByteArray):Prop :=
 MapGo place n S S' o o' /\ Ins key val (entsO o) (entsO o') /\ singO o' <= singO o /\ hgtO o' <= hgtO o + 1 /\ (∀ c,Spare S n (c + hgtO o + 2) -> Spare S' n c) /\ crO o' <= crO o + 1 /\ (hgtO o' <= hgtO o \/ 6 * hgtO o + 3 <= (pgsO o').length) /\ wtO o' <= wtO o + 1
theorem pgs_many:∀ {h p:Nat} {t:PT h} (_:Wf h t),1 + (nd h t).len * h <= (pgs h p t).length
 | 0,_,_,_=>by simp [pgs]
 | h + 1,p,l,H=>by
   obtain ⟨l',hl⟩:∃ l':List (Kid h),l'=l:=⟨l,rfl⟩
   subst hl
   have hs:∀ (l:List (Kid h)) (_:∀ x ∈ l,0 < (nd h x.2.2).len /\ Wf h x.2.2),l.length * (h + 1) <= (List.flatMap (fun x:Kid h=>pgs h x.2.1 x.2.2) l).length:=by
    intro l
    induction l with
    | nil=>intro _; simp
    | cons x l ih =>
      intro hx
      have h1:=pgs_many (p:=x.2.1) (hx x (by simp)).2
      have h2:=(hx x (by simp)).1
      have h3:=ih fun y hy=>hx y (by simp [hy])
      have h4:h <= (nd h x.2.2).len * h:=Nat.le_mul_of_pos_left h h2
      rw [List.flatMap_cons,List.length_append,List.length_cons,Nat.add_mul]
      omega
   have:=hs l' fun x hx=>⟨(H.1 x hx).2.2.1,(H.1 x hx).2.2.2.2⟩
   rw [nd_lenS,pgs_low,List.length_cons,Nat.add_comm]
   exact Nat.succ_le_succ this
theorem new_leaf {S:RS} {n place r:Nat} {key val:ByteArray} (hr:S.root place=0) (hks:key.size <= 96) (hvs:val.size <= 56) (hu:S.used r=false) :
 PutGo place n S (setRootS (wrS (allocS S r) r (.leaf [(key,val)])) place (r + 1)) none (some ⟨0,r,[(key,val)]⟩) key val:=by
 have hw:Wf 0 [(key,val)]:=⟨fun e he=>by simp at he; rw [he]; exact ⟨hks,hvs⟩,List.pairwise_singleton _ _⟩
 have T:=Tr.fresh (S:=S) (h:=0) (p:=r) (t:=[(key,val)]) hw (by rw [nd_len0]; exact Nat.zero_lt_one) (by rw [nd_leaf,size_leaf]; simp [esL]; omega) trivial (by simp [low]) hu
 have f:=(Frm.alloc [] S r hu).trans (Frm.write [r] _ r (nd 0 [(key,val)]) (by simp))
 refine ⟨⟨⟨setRoot_at _ _ _,T.root place (r + 1)⟩,f.toT place (r + 1)⟩,⟨[],[],rfl,.inl rfl,by simp,by simp⟩,Nat.le_refl _,by simp [hgtO],fun c hc=>?_,by simp [crO],.inl (by simp [hgtO]),by simp [wtO,wt]⟩
 exact ((hc.less (by omega):Spare S n (c + 1)).alloc hu)
theorem new_root {S S1:RS} {n place r h p:Nat} {t:PT h} {key val k:ByteArray} {q:Nat} {t1 t2:PT h} (K:PutTwo S S1 h p t key val k q t1 t2) (hp:p < 65536) (hu:S1.used r=false) :
 PutGo place n S (setRootS (wrS (allocS S1 r) r (.inner [(ByteArray.empty,p),(k,q)])) place (r + 1)) (some ⟨h,p,t⟩) (some ⟨h + 1,r,[(ByteArray.empty,p,t1),(k,q,t2)]⟩) key val:=by
 have hw:Wf (h + 1) [(ByteArray.empty,p,t1),(k,q,t2)]:=by
  refine ⟨fun x hx=>?_,?_,?_⟩
  ·simp at hx
   rcases hx with rfl | rfl
   ·exact ⟨(by show ByteArray.empty.size <= 96; decide),hp,K.tr1.pos,K.tr1.fit,K.tr1.wf⟩
   ·exact ⟨K.ksz,K.qlt,K.tr2.pos,K.tr2.fit,K.tr2.wf⟩
  ·refine List.pairwise_cons.2 ⟨fun y hy=>?_,List.pairwise_singleton _ _⟩
   simp at hy; subst hy; exact K.lo
  ·intro y hy; simp at hy; subst hy; exact K.hi
 have hk:Kids S1 (h + 1) [(ByteArray.empty,p,t1),(k,q,t2)]:=fun x hx=>by
  simp at hx
  rcases hx with rfl | rfl
  ·exact K.tr1.on
  ·exact K.tr2.on
 have hn:(low (h + 1) [(ByteArray.empty,p,t1),(k,q,t2)]).Nodup:=by simpa [low] using K.nod
 have e:nd (h + 1) [(ByteArray.empty,p,t1),(k,q,t2)]=.inner [(ByteArray.empty,p),(k,q)]:=rfl
 have T:=Tr.fresh (S:=S1) (p:=r) hw (by rw [nd_lenS]; exact Nat.zero_lt_succ _) (by rw [e,size_inner]; have:=K.ksz; simp [esI]; omega) hk hn hu
 rw [e] at T
 have f:=(K.frm.trans (Frm.alloc _ S1 r hu)).trans (Frm.write _ _ r (.inner [(ByteArray.empty,p),(k,q)]) (by simp))
 have hpg:pgs (h + 1) r [(ByteArray.empty,p,t1),(k,q,t2)]=r :: (pgs h p t1 ++ pgs h q t2):=by simp [pgs]
 refine ⟨⟨⟨setRoot_at _ _ _,T.root place (r + 1)⟩,?_⟩,?_,?_,Nat.le_refl _,fun c hc=>?_,?_,.inr ?_,?_⟩
 ·show FrmT place (pgs h p t) (pgs (h + 1) r _) S _
  rw [hpg]; exact f.toT place (r + 1)
 ·show Ins key val (ents h t) (ents (h + 1) [(ByteArray.empty,p,t1),(k,q,t2)])
  have:ents (h + 1) [(ByteArray.empty,p,t1),(k,q,t2)]=ents h t1 ++ ents h t2:=by simp [ents]
  rw [this]; exact K.ins
 ·have:=K.sng
  show sing (h + 1) [(ByteArray.empty,p,t1),(k,q,t2)] <= sing h t
  simp [sing]; exact this
 ·exact ((K.spr n (c + 1) (by have:hgtO (some ⟨h,p,t⟩)=h:=rfl; rw [this] at hc; exact hc.less (by omega))).alloc hu)
 ·have e1:(nd (h + 1) [(ByteArray.empty,p,t1),(k,q,t2)]).len=2:=by rw [nd_lenS]; rfl
  show (if h + 1=0 then 6 else 4 * (h + 1) + min 6 (nd (h + 1) [(ByteArray.empty,p,t1),(k,q,t2)]).len) <= (if h=0 then 6 else 4 * h + min 6 (nd h t).len) + 1
  rw [e1]
  by_cases h0:h=0
  ·subst h0; simp
  ·have:=K.five (by omega)
   rw [if_neg h0,if_neg (by omega)]; omega
 ·have g1:=pgs_many (p:=p) K.tr1.wf
  have g2:=pgs_many (p:=q) K.tr2.wf
  show 6 * h + 3 <= (pgs (h + 1) r [(ByteArray.empty,p,t1),(k,q,t2)]).length
  rw [hpg,List.length_cons,List.length_append]
  by_cases h0:h=0
  ·subst h0; omega
  ·have g3:=Nat.mul_le_mul_right h (K.six (by omega))
   rw [Nat.add_mul] at g3
   omega
 ·obtain ⟨u1,u2,u3⟩:=K.wtU
  show wt (h + 1) ([(ByteArray.empty,p,t1),(k,q,t2)]:List (Kid h)) <= wt h t + 1
  rw [wt_cons,wt_cons]
  show max (2 ^ h) (wt h t1) + (max (2 ^ h) (wt h t2) + 0) <= _
  rw [Nat.max_eq_right u2,Nat.max_eq_right u3]; omega
theorem old_root {S S1:RS} {n place h p:Nat} {t t':PT h} {key val:ByteArray} (K:PutOne S S1 h p t key val t') (hr:S.root place=p + 1) :
 PutGo place n S S1 (some ⟨h,p,t⟩) (some ⟨h,p,t'⟩) key val :=
 ⟨⟨⟨by rw [K.frm.root]; exact hr,K.tr⟩,K.frm.toT' place⟩,K.ins,K.sng,by simp [hgtO],fun c hc=>K.spr n c (by have:hgtO (some ⟨h,p,t⟩)=h:=rfl; rw [this] at hc; exact hc.less (by omega)),by
  show (if h=0 then 6 else 4 * h + min 6 (nd h t').len) <= (if h=0 then 6 else 4 * h + min 6 (nd h t).len) + 1
  have:=K.lenU
  split <;> omega,.inl (by simp [hgtO]),K.wtU⟩
theorem rd_leaf {w0 W:World} {G:Nat -> Prop} {q a b:Nat} {key val:ByteArray} (h:W.heap[q]?=some (.cells #[.bool true,.slice (some ⟨a,0,none⟩) 1 1,.slice (some ⟨b,0,none⟩) 1 1,.slice none 0 0] 222 (0,0))) (ha:W.heap[a]?=some (.cells #[.string key] 9 (0,0))) (hb:W.heap[b]?=some (.cells #[.string val] 9 (0,0)))
 (hn:w0.heap.size <= q /\ w0.heap.size <= a /\ w0.heap.size <= b) (hG:∀ k,G k -> k < w0.heap.size):RdN w0 W G q (.leaf [(key,val)]):=by
 refine ⟨fun k=>w0.heap.size <= k,⟨_,_,_,⟨h,?_,?_,.inl ⟨rfl,rfl⟩⟩,fun k hk=>?_⟩,fun k hk=>⟨hk,fun e=>by have:=hG k e; omega⟩⟩
 ·exact .inr ⟨a,0,1,rfl,by simp [Nd.keys],fun i hi=>by
   have:i=0:=by simpa [Nd.keys] using hi
   subst this; exact cell_lit ha rfl⟩
 ·exact .inr ⟨b,0,1,rfl,by simp [Nd.vals],fun i hi=>by
   have:i=0:=by simpa [Nd.vals] using hi
   subst this; exact cell_lit hb rfl⟩
 ·rcases hk with e | e | e | e
  ·exact ⟨by rw [e]; exact lt_of_heap h,by rw [e]; exact hn.1⟩
  ·simp [Value.ownBlock] at e; subst e; exact ⟨lt_of_heap ha,hn.2.1⟩
  ·simp [Value.ownBlock] at e; subst e; exact ⟨lt_of_heap hb,hn.2.2⟩
  ·simp [Value.ownBlock] at e
theorem rd_root {w0 W:World} {G:Nat -> Prop} {q a b p r:Nat} {k:ByteArray} (h:W.heap[q]?=some (.cells #[.bool false,.slice (some ⟨a,0,none⟩) 2 2,.slice none 0 0,.slice (some ⟨b,0,none⟩) 2 2] 222 (0,0))) (ha:W.heap[a]?=some (.cells #[.string ⟨#[]⟩,.string k] 9 (0,0))) (hb:W.heap[b]?=some (.cells #[.int .i64 (p:Int),.int .i64 (r:Int)] 3 (0,0)))
 (hn:w0.heap.size <= q /\ w0.heap.size <= a /\ w0.heap.size <= b) (hG:¬ G q /\ ¬ G a /\ ¬ G b):RdN w0 W G q (.inner [(ByteArray.empty,p),(k,r)]):=by
 refine ⟨fun j=>j=q \/ j=a \/ j=b,⟨_,_,_,⟨h,?_,.inl ⟨rfl,rfl⟩,?_⟩,fun k hk=>?_⟩,fun j hj=>?_⟩
 ·exact .inr ⟨a,0,2,rfl,by simp [Nd.keys],fun i hi=>by
   have:i=0 \/ i=1:=by have:i < 2:=by simpa [Nd.keys] using hi
                       omega
   rcases this with rfl | rfl
   ·exact cell_lit ha rfl
   ·exact cell_lit ha rfl⟩
 ·exact .inr ⟨b,0,2,rfl,by simp [Nd.kids],fun i hi=>by
   have:i=0 \/ i=1:=by have:i < 2:=by simpa [Nd.kids] using hi
                       omega
   rcases this with rfl | rfl
   ·exact cell_lit hb rfl
   ·exact cell_lit hb rfl⟩
 ·rcases hk with e | e | e | e
  ·exact ⟨by rw [e]; exact lt_of_heap h,.inl e⟩
  ·simp [Value.ownBlock] at e; subst e; exact ⟨lt_of_heap ha,.inr (.inl rfl)⟩
  ·simp [Value.ownBlock] at e
  ·simp [Value.ownBlock] at e; subst e; exact ⟨lt_of_heap hb,.inr (.inr rfl)⟩
 ·rcases hj with rfl | rfl | rfl
  ·exact ⟨hn.1,hG.1⟩
  ·exact ⟨hn.2.1,hG.2.1⟩
  ·exact ⟨hn.2.2,hG.2.2⟩
theorem loc_of {w W0 W:World} {G G':Nat -> Prop} {tb rb place n m:Nat} {S:RS} {b:Nat} (hL:PutLoc W0 b tb) (hB:TBase W0 W G G' tb rb place n m S) (h0:¬ G b) (h1:¬ G (b + 1)):PutLoc W b tb:=hL.upd hB.up h0 h1
theorem alloc3 (w:World) (o1 o2 o3:Obj):(((w.alloc o1).alloc o2).alloc o3).drew.heap[w.heap.size]?=some o1 /\ (((w.alloc o1).alloc o2).alloc o3).drew.heap[w.heap.size + 1]?=some o2 /\ (((w.alloc o1).alloc o2).alloc o3).drew.heap[w.heap.size + 1 + 1]?=some o3 /\ Below w.heap.size w (((w.alloc o1).alloc o2).alloc o3).drew:=by
 refine ⟨?_,?_,?_,((((Below.refl w.heap.size w).alloc (Nat.le_refl _) _).alloc (by simp) _).alloc (by simp; omega) _).drew⟩
 ·rw [heap_drew,heap_alloc_at,if_neg (by simp; omega),heap_alloc_at,if_neg (by simp),heap_alloc_new]
 ·rw [heap_drew,heap_alloc_at,if_neg (by simp),heap_alloc_at,if_pos (by simp)]
 ·rw [heap_drew,heap_alloc_at,if_pos (by simp)]
theorem setRoot_t {w0 W:World} {G0 G:Nat -> Prop} {tb rb place n m:Nat} {S:RS} (hB:TBase w0 W G0 G tb rb place n m S) (hp:place < 16) (hm:m <= 3999000) (r:Nat) (hr:r < 65536) :
 Calls Tryz.prog 126 #[.pointer (some ⟨tb,0,none⟩),.int .i64 (r:Int)] W fun e w'=>e=.returned (.tuple #[]) /\ Hid (∃ G',TBase w0 w' G0 G' tb rb place n (m + 1) (setRootS S place (r + 1)) /\ Turn G G' W w'):=by
 have:=setRoot_c G tb rb place n m S (r + 1) W hB.room hB.blk hB.gt hp (by omega) (by omega)
 rw [show (((r + 1:Nat):Int) - 1)=(r:Int) by omega] at this
 refine this.mono ?_
 rintro e w' ⟨rfl,hg⟩
 exact ⟨rfl,hB.step hg⟩
def PutEnd (w w':World) (G:Nat -> Prop) (rb n m place:Nat) (S:RS) (o:Option TT) (key val:ByteArray):Prop:=∃ S' o',StGo w w' G rb n (m + 100) S' /\ PutGo place n S S' o o' key val
theorem Put_new (G:Nat -> Prop) (tb rb place n m:Nat) (S:RS) (key val:ByteArray) (w:World) (h:RmS w G rb n m S) (ht:TB w tb rb place) (hg:¬ G tb) (hp:place < 16) (hm:m <= 3900000) (hks:key.size <= 96) (hvs:val.size <= 56) (hr:S.root place=0) (hsp:Spare S n 1) :
 Calls Tryz.prog 71 #[.pointer (some ⟨tb,0,none⟩),.string key,.string val] w fun e w'=>e=.returned (.int .i64 0) /\ Hid (PutEnd w w' G rb n m place S none key val):=by
 have hmf:∀ (fn:Fn) (first cap:Array Value) (w:World),(Instr.makeFunc fn first cap).run Tryz.prog w=.ok (.func fn first cap) w:=fun _ _ _ _=>rfl
 have htl:=lt_of_heap ht
 obtain ⟨c0,c1⟩:=ht.cells
 have hb3:=fun k=>putW_below w tb k
 have d0:(((w.alloc (.cells #[.pointer (some ⟨tb,0,none⟩)] 103)).alloc (.cells #[.int .i64 0] 34)).alloc (.cells #[.int .i64 0] 3)).cell? ⟨tb,0,none⟩=some (.pointer (some ⟨rb,0,none⟩)):=(World.cell?_of_block ((hb3 0).block tb htl)).trans c0
 have M3:Hid (Calls Tryz.prog 114 #[.pointer (some ⟨rb,0,none⟩)] (((w.alloc (.cells #[.pointer (some ⟨tb,0,none⟩)] 103)).alloc (.cells #[.int .i64 0] 34)).alloc (.cells #[.int .i64 0] 3)) fun e w'=>∃ k:Nat,e=.returned (.int .i64 (k:Int)) /\ w'=(((w.alloc (.cells #[.pointer (some ⟨tb,0,none⟩)] 103)).alloc (.cells #[.int .i64 0] 34)).alloc (.cells #[.int .i64 0] 3))):=Hd (mark_s G rb n m S _ (h.below (hb3 0)))
 have hk1:¬ (96:Int) < (key.size:Int):=by omega
 have hk2:¬ (56:Int) < (val.size:Int):=by omega
 have HG:=Hd h.lt
 have HSP:=Hd hsp
 have HKS:=Hd hks
 have HVS:=Hd hvs
 have HR:=Hd hr
 have B0:Hid (∀ k:Int,TBase (putW w tb k) (putW w tb k) G G tb rb place n m S):=Hd fun k=>TBase.start (h.below (hb3 k)) (ht.below (hb3 k)) hg
 have HP:=Hd hp
 have HM:=Hd hm
 clear h ht hg hp hm hks hvs hr hsp hb3 c1
 go_enter_defers Tryz.func71,Tryz.ntmps71
 go_wp2_with fail
 refine M3.out.mono ?_
 rintro e w1 ⟨k,rfl,rfl⟩
 clear M3 d0
 go_wp2_with fail
 have BW:=Hd (B0.out (k:Int))
 have LW:=Hd (putW_loc w tb (k:Int))
 have SW:=Hd (putW_size w tb (k:Int))
 have BB:=Hd (putW_below w tb (k:Int))
 change Calls Tryz.prog 125 #[.pointer (some ⟨tb,0,none⟩)] (putW w tb (k:Int)) _
 generalize putW w tb (k:Int)=W0 at *
 have RT:=root_c G tb rb place n m S W0 BW.out.room BW.out.blk HP.out (by have:=HM.out; omega) (by rw [HR.out]; omega)
 rw [HR.out] at RT
 refine RT.mono ?_
 rintro e w2 ⟨rfl,hb⟩
 have B2:=Hd (BW.out.below hb.out)
 have L2:=Hd (LW.out.below hb.out)
 obtain ⟨x0,x1,x2,x3,x4⟩:=L2.out.cells
 have hgB:Hid (¬ G w.heap.size /\ ¬ G (w.heap.size + 1)):=Hd ⟨fun e=>by have:=HG.out _ e; omega,fun e=>by have:=HG.out _ e; omega⟩
 have HS2:Hid (W0.heap.size <= w2.heap.size /\ ∀ k,G k -> k < W0.heap.size):=Hd ⟨hb.out.size,fun k hk=>by have:=HG.out k hk; have:=SW.out; omega⟩
 have FR:Hid (∀ W q a b,Below w2.heap.size w2 W -> W.heap[q]?=some (.cells #[.bool true,.slice (some ⟨a,0,none⟩) 1 1,.slice (some ⟨b,0,none⟩) 1 1,.slice none 0 0] 222 (0,0)) -> W.heap[a]?=some (.cells #[.string key] 9 (0,0)) -> W.heap[b]?=some (.cells #[.string val] 9 (0,0)) -> w2.heap.size <= q /\ w2.heap.size <= a /\ w2.heap.size <= b ->
  Calls Tryz.prog 127 #[.pointer (some ⟨tb,0,none⟩),.pointer (some ⟨q,0,none⟩)] W fun e w'=>∃ r:Nat,e=.returned (.int .i64 (r:Int)) /\ w'.cell? ⟨w.heap.size,0,none⟩=some (.pointer (some ⟨tb,0,none⟩)) /\ Hid (r < 65536 /\ S.used r=false /\ ∃ G',TBase W0 w' G G' tb rb place n (m + 3) (wrS (allocS S r) r (.leaf [(key,val)])))):=Hd fun W q a b hW h1 h2 h3 h4=>by
  have hs:=HS2.out
  have hrd:RdN W0 W G q (.leaf [(key,val)]):=rd_leaf h1 h2 h3 ⟨by omega,by omega,by omega⟩ hs.2
  have hw:Wf 0 [(key,val)]:=⟨fun e he=>by simp at he; rw [he]; exact ⟨HKS.out,HVS.out⟩,List.pairwise_singleton _ _⟩
  have hk:=HKS.out
  have hv:=HVS.out
  have hsz:(Nd.leaf [(key,val)]).size <= 512:=by rw [size_leaf]; simp [esL]; omega
  have hok:(Nd.leaf [(key,val)]).Ok:=hw.ok (by rw [nd_len0]; exact Nat.zero_lt_one) (Nat.le_trans hsz (by decide))
  refine (tail_fresh (B2.out.below hW) hrd hok hsz (by have:=HM.out; omega) HSP.out.free).mono ?_
  rintro e w' ⟨r,rfl,a1,a2,G',a3,a4⟩
  refine ⟨r,rfl,(L2.out.upd (hW.upd' (Nat.le_refl _)) (fun e=>e) (fun e=>e) |>.upd a4.upd hgB.out.1 hgB.out.2).cells.1,?_,a2,G',a3⟩
  have:=a3.room.bounds; unfold pagesN at a1; omega
 have SR:Hid (∀ r W,Hid (r < 65536 /\ S.used r=false /\ ∃ G',TBase W0 W G G' tb rb place n (m + 3) (wrS (allocS S r) r (.leaf [(key,val)]))) -> Calls Tryz.prog 126 #[.pointer (some ⟨tb,0,none⟩),.int .i64 (r:Int)] W fun e w'=>e=.returned (.tuple #[]) /\ (w'.cell? ⟨w.heap.size,0,none⟩=some (.pointer (some ⟨tb,0,none⟩))) /\ (w'.cell? ⟨w.heap.size + 1,0,none⟩=some (.int .i64 0) /\ w'.frozen? ⟨w.heap.size + 1,0,none⟩=false) /\ Hid (∃ G',TBase W0 w' G G' tb rb place n (m + 4) (setRootS (wrS (allocS S r) r (.leaf [(key,val)])) place (r + 1)))):=Hd fun r W hW=>by
  obtain ⟨a1,a2,G',a3⟩:=hW.out
  refine (setRoot_t a3 HP.out (by have:=HM.out; omega) r a1).mono ?_
  rintro e w' ⟨rfl,G2,b1,b2⟩
  have:=(loc_of (w:=w) LW.out b1 hgB.out.1 hgB.out.2).cells
  exact ⟨rfl,this.1,⟨this.2.1,this.2.2.1⟩,G2,b1⟩
 clear RT hb
 go_wp2_with fail
 go_region_held3 (fun w'=>w'.cell? ⟨w.heap.size,0,none⟩=some (.pointer (some ⟨tb,0,none⟩))) (first | (go_keep; done) | exact (World.cell?_of_block ((alloc3 w2 _ _ _).2.2.2.block _ x3)).trans x0) ((first
  | (go_at_call 127
     refine Calls.at_args (FR.out _ (w2.heap.size + 1 + 1) w2.heap.size (w2.heap.size + 1) (alloc3 _ _ _ _).2.2.2 (alloc3 _ _ _ _).2.2.1 (alloc3 _ _ _ _).1 (alloc3 _ _ _ _).2.1 ⟨by omega,by omega,by omega⟩) (by with_reducible rfl) ?_
     rintro e w3 ⟨r,rfl,hl,HF⟩)
  | (go_at_call 127
     refine Calls.at_args (FR.out _ (w2.heap.size + 1 + 1) (w2.heap.size + 1) w2.heap.size (alloc3 _ _ _ _).2.2.2 (alloc3 _ _ _ _).2.2.1 (alloc3 _ _ _ _).2.1 (alloc3 _ _ _ _).1 ⟨by omega,by omega,by omega⟩) (by with_reducible rfl) ?_
     rintro e w3 ⟨r,rfl,hl,HF⟩)
  | (go_at_call 126
     refine Calls.at_args (SR.out r _ HF) (by with_reducible rfl) ?_
     rintro e w4 ⟨rfl,hk4,hl4,HS⟩)))
 all_goals (
  obtain ⟨G4,b4⟩:=HS.out
  have L4:=loc_of (w:=w) LW.out b4 hgB.out.1 hgB.out.2
  have hfin:(w4.setCell ⟨w.heap.size + 1,0,none⟩ (.int .i64 0)).cell? ⟨w.heap.size + 1,0,none⟩=some (.int .i64 0):=cell_lit (heap_set_lit L4.b1 _) rfl
  have hgo:=Hd (b4.fin BB.out HG.out (x:=w.heap.size + 1) (by omega) (by have:=SW.out; omega) 0 (.int .i64 0))
  clear b4 L4 HS FR SR
  go_wp2_with fail
  refine leaves_cons (f:=124) (args:=#[.pointer (some ⟨w.heap.size + 1,0,none⟩)]) (by simp) (by simp [go_sem]) ?_
  refine (guard_idle _ _).mono ?_
  rintro e u' w5 ⟨rfl,rfl,rfl⟩
  refine leaves_cons (f:=123) (args:=#[.pointer (some ⟨w.heap.size + 1,0,none⟩),.pointer (some ⟨w.heap.size,0,none⟩),.pointer (some ⟨w.heap.size + 1 + 1,0,none⟩)]) (by simp [settle]) (by simp [go_sem]) ?_
  refine (put1_idle _ _ _ _ _ hfin).mono ?_
  rintro e u' w6 ⟨rfl,rfl,rfl⟩
  have HGO:Hid (PutEnd w (w4.setCell ⟨w.heap.size + 1,0,none⟩ (.int .i64 0)) G rb n m place S none key val):=Hd (by
   obtain ⟨G5,y1,y2⟩:=hgo.out
   exact ⟨_,_,⟨G5,y1.more (by omega),y2⟩,new_leaf HR.out HKS.out HVS.out HF.out.2.1⟩)
  simp [Leaves,settle,results,Tryz.results71,go_sem,hfin]
  exact HGO)
theorem Put_old (G:Nat -> Prop) (tb rb place n m:Nat) (S:RS) (T:TT) (key val:ByteArray) (w:World) (h:RmS w G rb n m S) (ht:TB w tb rb place) (hg:¬ G tb) (hp:place < 16) (hm:m <= 3900000) (hks:key.size <= 96) (hvs:val.size <= 56) (hS:TreeSt S place (some T)) (hh:T.h <= 20) (hsp:Spare S n (T.h + 2)) :
 Calls Tryz.prog 71 #[.pointer (some ⟨tb,0,none⟩),.string key,.string val] w fun e w'=>e=.returned (.int .i64 0) /\ Hid (PutEnd w w' G rb n m place S (some T) key val):=by
 have hmf:∀ (fn:Fn) (first cap:Array Value) (w:World),(Instr.makeFunc fn first cap).run Tryz.prog w=.ok (.func fn first cap) w:=fun _ _ _ _=>rfl
 obtain ⟨hh0,p,t⟩:=T
 obtain ⟨hr,hT⟩:=hS
 have hp65:p < 65536:=by
  have:=h.lim p hT.on.top.1
  have:=h.bounds
  unfold pagesN at *; omega
 have htl:=lt_of_heap ht
 obtain ⟨c0,c1⟩:=ht.cells
 have hb3:=fun k=>putW_below w tb k
 have d0:(((w.alloc (.cells #[.pointer (some ⟨tb,0,none⟩)] 103)).alloc (.cells #[.int .i64 0] 34)).alloc (.cells #[.int .i64 0] 3)).cell? ⟨tb,0,none⟩=some (.pointer (some ⟨rb,0,none⟩)):=(World.cell?_of_block ((hb3 0).block tb htl)).trans c0
 have M3:Hid (Calls Tryz.prog 114 #[.pointer (some ⟨rb,0,none⟩)] (((w.alloc (.cells #[.pointer (some ⟨tb,0,none⟩)] 103)).alloc (.cells #[.int .i64 0] 34)).alloc (.cells #[.int .i64 0] 3)) fun e w'=>∃ k:Nat,e=.returned (.int .i64 (k:Int)) /\ w'=(((w.alloc (.cells #[.pointer (some ⟨tb,0,none⟩)] 103)).alloc (.cells #[.int .i64 0] 34)).alloc (.cells #[.int .i64 0] 3))):=Hd (mark_s G rb n m S _ (h.below (hb3 0)))
 have hk1:¬ (96:Int) < (key.size:Int):=by omega
 have hk2:¬ (56:Int) < (val.size:Int):=by omega
 have HG:=Hd h.lt
 have HSP:=Hd hsp
 have HKS:=Hd hks
 have HVS:=Hd hvs
 have HR:=Hd hr
 have HT:=Hd hT
 have HP65:=Hd hp65
 have HH:=Hd hh
 have B0:Hid (∀ k:Int,TBase (putW w tb k) (putW w tb k) G G tb rb place n m S):=Hd fun k=>TBase.start (h.below (hb3 k)) (ht.below (hb3 k)) hg
 have HP:=Hd hp
 have HM:=Hd hm
 clear h ht hg hp hm hks hvs hr hsp hb3 c1 hT hp65 hh
 go_enter_defers Tryz.func71,Tryz.ntmps71
 go_wp2_with fail
 refine M3.out.mono ?_
 rintro e w1 ⟨k,rfl,rfl⟩
 clear M3 d0
 go_wp2_with fail
 have BW:=Hd (B0.out (k:Int))
 have LW:=Hd (putW_loc w tb (k:Int))
 have SW:=Hd (putW_size w tb (k:Int))
 have BB:=Hd (putW_below w tb (k:Int))
 change Calls Tryz.prog 125 #[.pointer (some ⟨tb,0,none⟩)] (putW w tb (k:Int)) _
 generalize putW w tb (k:Int)=W0 at *
 have RT:=root_c G tb rb place n m S W0 BW.out.room BW.out.blk HP.out (by have:=HM.out; omega) (by have:=HP65.out; rw [HR.out]; omega)
 rw [HR.out,show (((p + 1:Nat):Int) - 1)=(p:Int) by omega] at RT
 refine RT.mono ?_
 rintro e w2 ⟨rfl,hb⟩
 have B2:=Hd (BW.out.below hb.out)
 have L2:=Hd (LW.out.below hb.out)
 obtain ⟨x0,x1,x2,x3,x4⟩:=L2.out.cells
 have hgB:Hid (¬ G w.heap.size /\ ¬ G (w.heap.size + 1)):=Hd ⟨fun e=>by have:=HG.out _ e; omega,fun e=>by have:=HG.out _ e; omega⟩
 have PT0:=Hd (put_c hh0 G tb rb place n m S p t key val 0 w2 B2.out.room B2.out.blk B2.out.gt HT.out HKS.out HVS.out (by have:=HH.out; omega) (HSP.out.less (by show hh0 + 1 <= hh0 + 2; omega)) (by have:=HM.out; have:hh0 <= 20:=HH.out; omega))
 rw [show ((0:Nat):Int)=0 from rfl] at PT0
 have hp0:¬ (p:Int) < 0:=by omega
 clear RT hb
 go_wp2_with fail
 refine PT0.out.mono ?_
 rintro e w3 ⟨kk,q,more,rfl,HPP⟩
 clear PT0 x0 x1 x2 x3 x4
 cases more with
 | false =>
   obtain ⟨S3,hgo3,hif⟩:=HPP.out
   rw [if_neg (by simp)] at hif
   obtain ⟨rfl,rfl,t',K⟩:=hif
   obtain ⟨G3,b3,-⟩:=B2.out.step hgo3
   have L3:=loc_of (w:=w) LW.out b3 hgB.out.1 hgB.out.2
   obtain ⟨x0,x1,x2,x3,x4⟩:=L3.cells
   have hfin:(w3.setCell ⟨w.heap.size + 1,0,none⟩ (.int .i64 0)).cell? ⟨w.heap.size + 1,0,none⟩=some (.int .i64 0):=cell_lit (heap_set_lit L3.b1 _) rfl
   have hgo:=Hd (b3.fin BB.out HG.out (x:=w.heap.size + 1) (by omega) (by have:=SW.out; omega) 0 (.int .i64 0))
   have HK:=Hd K
   clear b3 L3 HPP hgo3 K
   go_wp2_with fail
   refine leaves_cons (f:=124) (args:=#[.pointer (some ⟨w.heap.size + 1,0,none⟩)]) (by simp) (by simp [go_sem]) ?_
   refine (guard_idle _ _).mono ?_
   rintro e u' w5 ⟨rfl,rfl,rfl⟩
   refine leaves_cons (f:=123) (args:=#[.pointer (some ⟨w.heap.size + 1,0,none⟩),.pointer (some ⟨w.heap.size,0,none⟩),.pointer (some ⟨w.heap.size + 1 + 1,0,none⟩)]) (by simp [settle]) (by simp [go_sem]) ?_
   refine (put1_idle _ _ _ _ _ hfin).mono ?_
   rintro e u' w6 ⟨rfl,rfl,rfl⟩
   have HGO:Hid (PutEnd w (w3.setCell ⟨w.heap.size + 1,0,none⟩ (.int .i64 0)) G rb n m place S (some ⟨hh0,p,t⟩) key val):=Hd (by
    obtain ⟨G5,y1,y2⟩:=hgo.out
    exact ⟨_,_,⟨G5,y1.more (by have:hh0 <= 20:=HH.out; omega),y2⟩,old_root HK.out HR.out⟩)
   simp [Leaves,settle,results,Tryz.results71,go_sem,hfin]
   exact HGO
 | true =>
   obtain ⟨S3,hgo3,hif⟩:=HPP.out
   rw [if_pos rfl] at hif
   obtain ⟨t1,t2,K⟩:=hif
   obtain ⟨G3,b3,-⟩:=B2.out.step hgo3
   have HK:=Hd K
   have B3:=Hd b3
   have L3:=Hd (loc_of (w:=w) LW.out b3 hgB.out.1 hgB.out.2)
   obtain ⟨x0,x1,x2,x3,x4⟩:=L3.out.cells
   have hg3:Hid (¬ G3 w.heap.size /\ ¬ G3 (w.heap.size + 1)):=Hd ⟨fun e=>by
    rcases b3.sub _ e with e | e
    ·exact hgB.out.1 e
    ·have:=SW.out; omega,fun e=>by
    rcases b3.sub _ e with e | e
    ·exact hgB.out.2 e
    ·have:=SW.out; omega⟩
   have HM3:Hid (m + 4 * (hh0 + 1) <= 3998000):=Hd (by have:=HM.out; have:hh0 <= 20:=HH.out; omega)
   have HSP3:Hid (∃ r,r < pagesN n /\ S3.used r=false):=Hd (by
    have:=K.spr n 1 (HSP.out.less (by show 1 + hh0 + 1 <= hh0 + 2; omega))
    exact this.free)
   have FR:Hid (∀ W q1 a b,Below w3.heap.size w3 W -> W.heap[q1]?=some (.cells #[.bool false,.slice (some ⟨a,0,none⟩) 2 2,.slice none 0 0,.slice (some ⟨b,0,none⟩) 2 2] 222 (0,0)) -> W.heap[a]?=some (.cells #[.string ⟨#[]⟩,.string kk] 9 (0,0)) -> W.heap[b]?=some (.cells #[.int .i64 (p:Int),.int .i64 (q:Int)] 3 (0,0)) -> w3.heap.size <= q1 /\ w3.heap.size <= a /\ w3.heap.size <= b ->
    Calls Tryz.prog 127 #[.pointer (some ⟨tb,0,none⟩),.pointer (some ⟨q1,0,none⟩)] W fun e w'=>∃ r:Nat,e=.returned (.int .i64 (r:Int)) /\ w'.cell? ⟨w.heap.size,0,none⟩=some (.pointer (some ⟨tb,0,none⟩)) /\ Hid (r < 65536 /\ S3.used r=false /\ ∃ G',TBase W0 w' G G' tb rb place n (m + 4 * (hh0 + 1) + 3) (wrS (allocS S3 r) r (.inner [(ByteArray.empty,p),(kk,q)])))):=Hd fun W q1 a b hW h1 h2 h3 h4=>by
    have hs:=B3.out.up.size
    have hlt:=B3.out.room.lt
    have hrd:RdN W0 W G3 q1 (.inner [(ByteArray.empty,p),(kk,q)]):=rd_root h1 h2 h3 ⟨by omega,by omega,by omega⟩ ⟨fun e=>by have:=hlt _ e; omega,fun e=>by have:=hlt _ e; omega,fun e=>by have:=hlt _ e; omega⟩
    have hk:=HK.out.ksz
    have hq:=HK.out.qlt
    have hp6:=HP65.out
    have hsz:(Nd.inner [(ByteArray.empty,p),(kk,q)]).size <= 512:=by rw [size_inner]; simp [esI]; omega
    have hok:(Nd.inner [(ByteArray.empty,p),(kk,q)]).Ok:=by
     refine ⟨by simp [Nd.len,Nd.keys],by simp [Nd.len,Nd.keys],fun x hx=>?_,fun x hx=>?_,fun x hx=>?_⟩
     ·simp [Nd.keys] at hx
      rcases hx with rfl | rfl
      ·decide
      ·exact hk
     ·simp [Nd.vals] at hx
     ·simp [Nd.kids] at hx
      rcases hx with rfl | rfl <;> omega
    refine (tail_fresh (B3.out.below hW) hrd hok hsz (by have:=HM3.out; omega) HSP3.out).mono ?_
    rintro e w' ⟨r,rfl,a1,a2,G',a3,a4⟩
    refine ⟨r,rfl,(L3.out.upd (hW.upd' (Nat.le_refl _)) (fun e=>e) (fun e=>e) |>.upd a4.upd hg3.out.1 hg3.out.2).cells.1,?_,a2,G',a3⟩
    have:=a3.room.bounds; unfold pagesN at a1; omega
   have SR:Hid (∀ r W,Hid (r < 65536 /\ S3.used r=false /\ ∃ G',TBase W0 W G G' tb rb place n (m + 4 * (hh0 + 1) + 3) (wrS (allocS S3 r) r (.inner [(ByteArray.empty,p),(kk,q)]))) -> Calls Tryz.prog 126 #[.pointer (some ⟨tb,0,none⟩),.int .i64 (r:Int)] W fun e w'=>e=.returned (.tuple #[]) /\ (w'.cell? ⟨w.heap.size,0,none⟩=some (.pointer (some ⟨tb,0,none⟩))) /\ (w'.cell? ⟨w.heap.size + 1,0,none⟩=some (.int .i64 0) /\ w'.frozen? ⟨w.heap.size + 1,0,none⟩=false) /\ Hid (∃ G',TBase W0 w' G G' tb rb place n (m + 4 * (hh0 + 1) + 4) (setRootS (wrS (allocS S3 r) r (.inner [(ByteArray.empty,p),(kk,q)])) place (r + 1)))):=Hd fun r W hW=>by
    obtain ⟨a1,a2,G',a3⟩:=hW.out
    refine (setRoot_t a3 HP.out (by have:=HM3.out; omega) r a1).mono ?_
    rintro e w' ⟨rfl,G2,b1,b2⟩
    have:=(loc_of (w:=w) LW.out b1 hgB.out.1 hgB.out.2).cells
    exact ⟨rfl,this.1,⟨this.2.1,this.2.2.1⟩,G2,b1⟩
   clear b3 hgo3 K HPP B0
   go_wp2_with fail
   go_region_held3 (fun w'=>w'.cell? ⟨w.heap.size,0,none⟩=some (.pointer (some ⟨tb,0,none⟩))) (first | (go_keep; done) | exact (World.cell?_of_block ((alloc3 w3 _ _ _).2.2.2.block _ x3)).trans x0) ((first
    | (go_at_call 127
       refine Calls.at_args (FR.out _ (w3.heap.size + 1 + 1) w3.heap.size (w3.heap.size + 1) (alloc3 _ _ _ _).2.2.2 (alloc3 _ _ _ _).2.2.1 (alloc3 _ _ _ _).1 (alloc3 _ _ _ _).2.1 ⟨by omega,by omega,by omega⟩) (by with_reducible rfl) ?_
       rintro e w5 ⟨r,rfl,hl,HF⟩)
    | (go_at_call 127
       refine Calls.at_args (FR.out _ (w3.heap.size + 1 + 1) (w3.heap.size + 1) w3.heap.size (alloc3 _ _ _ _).2.2.2 (alloc3 _ _ _ _).2.2.1 (alloc3 _ _ _ _).2.1 (alloc3 _ _ _ _).1 ⟨by omega,by omega,by omega⟩) (by with_reducible rfl) ?_
       rintro e w5 ⟨r,rfl,hl,HF⟩)
    | (go_at_call 126
       refine Calls.at_args (SR.out r _ HF) (by with_reducible rfl) ?_
       rintro e w4 ⟨rfl,hk4,hl4,HS⟩)))
   all_goals (
    obtain ⟨G4,b4⟩:=HS.out
    have L4:=loc_of (w:=w) LW.out b4 hgB.out.1 hgB.out.2
    have hfin:(w4.setCell ⟨w.heap.size + 1,0,none⟩ (.int .i64 0)).cell? ⟨w.heap.size + 1,0,none⟩=some (.int .i64 0):=cell_lit (heap_set_lit L4.b1 _) rfl
    have hgo:=Hd (b4.fin BB.out HG.out (x:=w.heap.size + 1) (by omega) (by have:=SW.out; omega) 0 (.int .i64 0))
    clear b4 L4 HS FR SR
    go_wp2_with fail
    refine leaves_cons (f:=124) (args:=#[.pointer (some ⟨w.heap.size + 1,0,none⟩)]) (by simp) (by simp [go_sem]) ?_
    refine (guard_idle _ _).mono ?_
    rintro e u' w5 ⟨rfl,rfl,rfl⟩
    refine leaves_cons (f:=123) (args:=#[.pointer (some ⟨w.heap.size + 1,0,none⟩),.pointer (some ⟨w.heap.size,0,none⟩),.pointer (some ⟨w.heap.size + 1 + 1,0,none⟩)]) (by simp [settle]) (by simp [go_sem]) ?_
    refine (put1_idle _ _ _ _ _ hfin).mono ?_
    rintro e u' w6 ⟨rfl,rfl,rfl⟩
    have HGO:Hid (PutEnd w (w4.setCell ⟨w.heap.size + 1,0,none⟩ (.int .i64 0)) G rb n m place S (some ⟨hh0,p,t⟩) key val):=Hd (by
     obtain ⟨G5,y1,y2⟩:=hgo.out
     exact ⟨_,_,⟨G5,y1.more (by have:hh0 <= 20:=HH.out; omega),y2⟩,new_root HK.out HP65.out HF.out.2.1⟩)
    simp [Leaves,settle,results,Tryz.results71,go_sem,hfin]
    exact HGO)
def Del (key:ByteArray) (E E':List (ByteArray × ByteArray)):Prop:=∃ A B v,E=A ++ (key,v) :: B /\ E'=A ++ B
theorem Del.lift {key:ByteArray} {E E':List (ByteArray × ByteArray)} (H:Del key E E') (X Y:List (ByteArray × ByteArray)):Del key (X ++ (E ++ Y)) (X ++ (E' ++ Y)):=by
 obtain ⟨A,B,v,rfl,rfl⟩:=H
 exact ⟨X ++ A,B ++ Y,v,by simp,by simp⟩
theorem Del.mem {key:ByteArray} {E E':List (ByteArray × ByteArray)} (H:Del key E E'):∀ e ∈ E',e ∈ E:=by
 obtain ⟨A,B,v,rfl,rfl⟩:=H
 intro e he
 rcases List.mem_append.1 he with h | h <;> simp [h]
structure Opn (S S1:RS) (h p:Nat) (t:PT h) (key:ByteArray) (u:PT h):Prop where
 wf:Wf h u
 siz:(nd h u).size <= 512
 kid:Kids S1 h u
 nod:(p :: low h u).Nodup
 use:S1.used p=true
 del:Del key (ents h t) (ents h u)
 frm:Frm (pgs h p t) (p :: low h u) S S1
 spr:∀ n c,Spare S n c -> Spare S1 n c
 lenD:(nd h u).len <= (nd h t).len
 wtD:wt h u <= wt h t
structure RemOne (S S':RS) (h p:Nat) (t:PT h) (key:ByteArray) (u:PT h):Prop where
 op:Opn S S' h p t key u
 on:0 < (nd h u).len -> On S' h p u
theorem Spare.freeS {S:RS} {n c p:Nat} (h:Spare S n c) (hu:S.used p=true):Spare (frS S p) n c:=by
 obtain ⟨U,h1,h2⟩:=h
 refine ⟨U,fun q hq=>?_,h2⟩
 have hq':flip S.used p q=true:=hq
 unfold flip at hq'
 by_cases e:q=p
 ·rw [if_pos e,e,hu] at hq'; cases hq'
 ·rw [if_neg e] at hq'; exact h1 q hq'
theorem Opn.leaf {S:RS} {p:Nat} {A B:List (ByteArray × ByteArray)} {key v:ByteArray} (H:Tr S 0 p (A ++ (key,v) :: B)):Opn S S 0 p (A ++ (key,v) :: B) key (A ++ B):=by
 refine ⟨⟨fun e he=>H.wf.1 e (by rcases List.mem_append.1 he with h | h <;> simp [h]),(srt_of H.wf.2).1⟩,?_,trivial,by simp [low],H.on.1,⟨A,B,v,rfl,rfl⟩,Frm.refl _ _,fun n c hc=>hc,by rw [nd_len0,nd_len0]; simp,by rw [wt_zero,wt_zero]; simp⟩
 have:=H.fit
 rw [nd_leaf,size_leaf] at this ⊢
 simp at this ⊢; omega
section
variable {S S':RS} {h p:Nat} {A B:List (Kid h)} {x:Kid h} {key:ByteArray}
theorem Opn.kidOne {t':PT h} (H:Tr S (h + 1) p (A ++ x :: B:List (Kid h))) (K:RemOne S S' h x.2.1 x.2.2 key t') (hp:0 < (nd h t').len) :
 Opn S S' (h + 1) p (A ++ x :: B:List (Kid h)) key (A ++ (x.1,x.2.1,t') :: B:List (Kid h)):=by
 have hfr:=K.op.frm
 rw [<- pgs_low h x.2.1 t'] at hfr
 have hnd:=K.op.nod
 rw [<- pgs_low h x.2.1 t'] at hnd
 obtain ⟨k1,k3,kp,hn,hf⟩:=hfr.others H hnd
 have e:nd (h + 1) (A ++ (x.1,x.2.1,t') :: B:List (Kid h))=nd (h + 1) (A ++ x :: B:List (Kid h)):=by simp [nd]
 have hx:=H.wf.1 x (by simp)
 refine ⟨⟨fun y hy=>?_,?_⟩,by rw [e]; exact H.fit,Kids.mk k1 (K.on hp) k3,by rw [low_mid]; exact hn,kp.1,?_,by rw [low_mid]; exact hf,K.op.spr,by rw [e]; exact Nat.le_refl _,wt_same K.op.wtD⟩
 ·rcases List.mem_append.1 hy with hy | hy
  ·exact H.wf.1 y (by simp [hy])
  ·rcases List.mem_cons.1 hy with rfl | hy
   ·exact ⟨hx.1,hx.2.1,hp,K.op.siz,K.op.wf⟩
   ·exact H.wf.1 y (by simp [hy])
 ·obtain ⟨h1,h2,h3,h4,h5⟩:=seps_pair.1 H.wf.2.1
  obtain ⟨h6,h7,h8⟩:=seps_tail.1 H.wf.2.2
  exact ⟨seps_pair.2 ⟨h1,h2,h3,fun b hb e he=>h4 b hb e (K.op.del.mem e he),h5⟩,seps_tail.2 ⟨h6,fun hA e he=>h7 hA e (K.op.del.mem e he),h8⟩⟩
 ·rw [ents_mid,ents_mid]
  exact K.op.del.lift _ _
theorem nd_away:nd (h + 1) (A ++ B:List (Kid h))=.inner (A.map (fun x:Kid h=>(x.1,x.2.1)) ++ B.map (fun x:Kid h=>(x.1,x.2.1))):=by simp [nd]
theorem size_away:(nd (h + 1) (A ++ B:List (Kid h))).size <= (nd (h + 1) (A ++ x :: B:List (Kid h))).size:=by
 simp only [nd,size_inner]
 simp
theorem low_app (A B:List (Kid h)):low (h + 1) (A ++ B:List (Kid h))=low (h + 1) A ++ low (h + 1) B:=by simp [low]
theorem ents_nil:∀ {h:Nat} {t:PT h},(nd h t).len=0 -> ents h t=[]
 | 0,t,e=>by rw [nd_len0] at e; exact List.eq_nil_of_length_eq_zero e
 | h + 1,t,e=>by rw [nd_lenS] at e; rw [List.eq_nil_of_length_eq_zero e]; rfl
theorem low_nil:∀ {h:Nat} {t:PT h},(nd h t).len=0 -> low h t=[]
 | 0,t,e=>rfl
 | h + 1,t,e=>by rw [nd_lenS] at e; rw [List.eq_nil_of_length_eq_zero e]; rfl
theorem Opn.kidNone {t':PT h} (H:Tr S (h + 1) p (A ++ x :: B:List (Kid h))) (K:RemOne S S' h x.2.1 x.2.2 key t') (hz:(nd h t').len=0) :
 S'.used x.2.1=true /\ Opn S (frS S' x.2.1) (h + 1) p (A ++ x :: B:List (Kid h)) key (A ++ B:List (Kid h)):=by
 have hfr:=K.op.frm
 rw [low_nil hz] at hfr
 have hnd:=K.op.nod
 rw [low_nil hz] at hnd
 obtain ⟨k1,k3,kp,hn,hf⟩:=hfr.others H hnd
 have hux:=K.op.use
 obtain ⟨np,hn2⟩:=List.nodup_cons.1 hn
 obtain ⟨n1,n2,n3⟩:=List.nodup_append.1 hn2
 obtain ⟨n4,n5⟩:=List.nodup_cons.1 n2
 have hpx:p ≠ x.2.1:=fun e=>np (by simp [e])
 have hne:∀ q,q ∈ low (h + 1) A \/ q ∈ low (h + 1) B -> q ≠ x.2.1:=fun q hq e=>by
  subst e
  rcases hq with hq | hq
  ·exact n3 _ hq _ (by simp) rfl
  ·exact n4 hq
 have fl:∀ q,q ≠ x.2.1 -> (frS S' x.2.1).used q=S'.used q:=fun q hq=>by show flip _ _ _=_; unfold flip; rw [if_neg hq]
 refine ⟨hux,⟨⟨fun y hy=>H.wf.1 y (by rcases List.mem_append.1 hy with h | h <;> simp [h]),H.wf.2.away⟩,Nat.le_trans (size_away (x:=x)) H.fit,fun y hy=>?_,?_,by rw [fl p hpx]; exact kp.1,?_,?_,fun n c hc=>(K.op.spr n c hc).freeS hux,by rw [nd_lenS,nd_lenS]; simp,by rw [wt_mid,wt_app]; omega⟩⟩
 ·rcases List.mem_append.1 hy with hy | hy
  ·exact (k1 y hy).frame fun q hq=>⟨fl q (hne q (.inl (List.mem_flatMap.2 ⟨y,hy,hq⟩))),rfl⟩
  ·exact (k3 y hy).frame fun q hq=>⟨fl q (hne q (.inr (List.mem_flatMap.2 ⟨y,hy,hq⟩))),rfl⟩
 ·rw [low_app]
  refine List.nodup_cons.2 ⟨fun e=>np ?_,List.nodup_append.2 ⟨n1,n5,fun a ha b hb=>n3 a ha b (by simp [hb])⟩⟩
  rcases List.mem_append.1 e with e | e <;> simp [e]
 ·rw [ents_mid,ents_app]
  have:=K.op.del.lift (ents (h + 1) A) (ents (h + 1) B)
  rw [ents_nil hz,List.nil_append] at this
  exact this
 ·rw [low_app]
  refine hf.trans (Frm.free _ _ S' x.2.1 hux (fun q=>?_) (fun e=>?_))
  ·simp only [List.mem_cons,List.mem_append,List.not_mem_nil,or_false]
   constructor
   ·rintro (a | a | a | a) <;> simp [a]
   ·rintro (a | a | a | a) <;> simp [a]
  ·rcases List.mem_cons.1 e with e | e
   ·exact hpx e.symm
   ·rcases List.mem_append.1 e with e | e
    ·exact hne _ (.inl e) rfl
    ·exact hne _ (.inr e) rfl
end
def joinT:(h:Nat) -> PT h -> ByteArray -> PT h -> PT h
 | 0,a,_,b=>a ++ b
 | h + 1,a,f,b=>(a:List (Kid h)) ++ (match (b:List (Kid h)) with | []=>[] | z :: r=>(f,z.2) :: r)
def Nd.join (a:Nd) (f:ByteArray) (b:Nd):Nd :=
 match a,b with
 | .leaf l,.leaf r=>.leaf (l ++ r)
 | .inner l,.inner r=>.inner (l ++ (match r with | []=>[] | z :: r=>(f,z.2) :: r))
 | a,_=>a
theorem nd_join (h:Nat) (a:PT h) (f:ByteArray) (b:PT h):nd h (joinT h a f b)=(nd h a).join f (nd h b):=by
 cases h with
 | zero=>rfl
 | succ h=>cases b <;> simp [nd,joinT,Nd.join]
theorem ents_join (h:Nat) (a:PT h) (f:ByteArray) (b:PT h):ents h (joinT h a f b)=ents h a ++ ents h b:=by
 cases h with
 | zero=>rfl
 | succ h=>cases b <;> simp [ents,joinT]
theorem low_join (h:Nat) (a:PT h) (f:ByteArray) (b:PT h):low h (joinT h a f b)=low h a ++ low h b:=by
 cases h with
 | zero=>rfl
 | succ h=>cases b <;> simp [low,joinT]
theorem wt_join (h:Nat) (a:PT h) (f:ByteArray) (b:PT h):wt h (joinT h a f b)=wt h a + wt h b:=by
 cases h with
 | zero=>exact List.length_append
 | succ h =>
   cases b with
   | nil=>simp [wt,joinT]
   | cons z r=>simp [wt,joinT]
theorem kids_join {S:RS} {h:Nat} {a:PT h} {f:ByteArray} {b:PT h} (h1:Kids S h a) (h2:Kids S h b):Kids S h (joinT h a f b):=by
 cases h with
 | zero=>trivial
 | succ h =>
   intro y hy
   rcases List.mem_append.1 hy with hy | hy
   ·exact h1 y hy
   ·cases b with
    | nil=>simp at hy
    | cons z r =>
      rcases List.mem_cons.1 hy with rfl | hy
      ·exact h2 z (by simp)
      ·exact h2 y (by simp [hy])
theorem len_join (h:Nat) (a:PT h) (f:ByteArray) (b:PT h):(nd h a).len <= (nd h (joinT h a f b)).len:=by
 cases h with
 | zero=>rw [nd_len0,nd_len0]; simp [joinT]
 | succ h=>rw [nd_lenS,nd_lenS]; simp [joinT]
theorem wf_join {h:Nat} {a:PT h} {f:ByteArray} {b:PT h} (ha:Wf h a) (hb:Wf h b) (hf:f.size <= 96) (h1:∀ e ∈ ents h a,kless e.1 f=true) (h2:∀ e ∈ ents h b,kless e.1 f=false) (hpa:0 < (nd h a).len):Wf h (joinT h a f b):=by
 cases h with
 | zero =>
   refine ⟨fun e he=>?_,List.pairwise_append.2 ⟨ha.2,hb.2,fun x hx y hy=>kless_of_lt_le (h1 x hx) (h2 y hy)⟩⟩
   rcases List.mem_append.1 he with he | he
   ·exact ha.1 e he
   ·exact hb.1 e he
 | succ h =>
   cases b with
   | nil =>
     have:joinT (h + 1) a f []=a:=by simp [joinT]
     rw [this]; exact ha
   | cons z r =>
     have h2z:∀ y ∈ z :: r,∀ e ∈ ents h y.2.2,kless e.1 f=false:=fun y hy e he=>h2 e ((ents_mem h (z :: r) e).2 ⟨y,hy,he⟩)
     have h1z:∀ y ∈ (a:List (Kid h)),∀ e ∈ ents h y.2.2,kless e.1 f=true:=fun y hy e he=>h1 e ((ents_mem h a e).2 ⟨y,hy,he⟩)
     obtain ⟨p1,p2⟩:=List.pairwise_cons.1 hb.2.1
     have hzz:=hb.1 z (by simp)
     obtain ⟨e0,he0⟩:∃ e0,e0 ∈ ents h z.2.2:=⟨_,List.getElem_mem (ents_pos hzz.2.2.2.2 hzz.2.2.1)⟩
     refine ⟨fun y hy=>?_,List.pairwise_append.2 ⟨ha.2.1,List.pairwise_cons.2 ⟨p1,p2⟩,fun x hx y hy e he=>?_⟩,fun y hy=>?_⟩
     ·rcases List.mem_append.1 hy with hy | hy
      ·exact ha.1 y hy
      ·rcases List.mem_cons.1 hy with rfl | hy
       ·exact ⟨hf,hzz.2⟩
       ·exact hb.1 y (by simp [hy])
     ·rcases List.mem_cons.1 hy with rfl | hy
      ·exact h1z x hx e he
      ·exact kless_trans (kless_of_lt_le (h1z x hx e he) (h2z z (by simp) e0 he0)) (p1 y hy e0 he0)
     ·cases a with
      | nil=>rw [nd_lenS] at hpa; simp at hpa
      | cons a0 a =>
        have hy':y ∈ a ++ (f,z.2) :: r:=hy
        rcases List.mem_append.1 hy' with hy | hy
        ·exact ha.2.2 y hy
        ·rcases List.mem_cons.1 hy with rfl | hy
         ·exact h2z z (by simp)
         ·exact hb.2.2 y hy
section
variable {S S1:RS} {h p:Nat} {A B:List (Kid h)} {x y:Kid h} {key:ByteArray} {t:PT (h + 1)}
theorem Opn.join (H:Opn S S1 (h + 1) p t key (A ++ x :: y :: B:List (Kid h))) (hs:(nd h (joinT h x.2.2 y.1 y.2.2)).size <= 512) :
 S1.used x.2.1=true /\ S1.used y.2.1=true /\ x.2.1 ≠ y.2.1 /\ Opn S (frS (wrS S1 x.2.1 (nd h (joinT h x.2.2 y.1 y.2.2))) y.2.1) (h + 1) p t key (A ++ (x.1,x.2.1,joinT h x.2.2 y.1 y.2.2) :: B:List (Kid h)):=by
 have hx:=H.wf.1 x (by simp)
 have hy:=H.wf.1 y (by simp)
 obtain ⟨s1,s2,s3,s4,s5⟩:=seps_pair.1 H.wf.2.1
 obtain ⟨s6,s7,s8⟩:=seps_tail.1 H.wf.2.2
 have hxp:=ents_pos hx.2.2.2.2 hx.2.2.1
 have hwj:Wf h (joinT h x.2.2 y.1 y.2.2):=wf_join hx.2.2.2.2 hy.2.2.2.2 hy.1 (s4 y (by simp)) (s8 y (by simp)) hx.2.2.1
 have hlj:0 < (nd h (joinT h x.2.2 y.1 y.2.2)).len:=Nat.lt_of_lt_of_le hx.2.2.1 (len_join h _ _ _)
 obtain ⟨k1,kx,k2⟩:=H.kid.mid
 have ky:On S1 h y.2.1 y.2.2:=k2 y (by simp)
 have k3:Kids S1 (h + 1) B:=fun z hz=>k2 z (by simp [hz])
 have hN:=H.nod
 have el:low (h + 1) (A ++ x :: y :: B:List (Kid h))=low (h + 1) A ++ ((x.2.1 :: low h x.2.2) ++ ((y.2.1 :: low h y.2.2) ++ low (h + 1) B)):=by
  rw [low_mid,<- pgs_low,<- pgs_low]; simp [low]
 rw [el] at hN
 have ej:low (h + 1) (A ++ (x.1,x.2.1,joinT h x.2.2 y.1 y.2.2) :: B:List (Kid h))=low (h + 1) A ++ ((x.2.1 :: (low h x.2.2 ++ low h y.2.2)) ++ low (h + 1) B):=by
  rw [low_mid,pgs_low]; show _ ++ ((x.2.1 :: low h (joinT h x.2.2 y.1 y.2.2)) ++ _)=_; rw [low_join]
 obtain ⟨np,hN2⟩:=List.nodup_cons.1 hN
 obtain ⟨n1,n2,n3⟩:=List.nodup_append.1 hN2
 obtain ⟨n4,n5,n6⟩:=List.nodup_append.1 n2
 obtain ⟨n7,n8⟩:=List.nodup_cons.1 n4
 obtain ⟨n9,n10,n11⟩:=List.nodup_append.1 n5
 obtain ⟨n12,n13⟩:=List.nodup_cons.1 n9
 have hxy:x.2.1 ≠ y.2.1:=n6 _ (by simp) _ (by simp)
 have hux:=kx.top.1
 have huy:=ky.top.1
 have hpx:p ≠ x.2.1:=fun e=>np (by simp [e])
 have hpy:p ≠ y.2.1:=fun e=>np (by simp [e])
 have keep:∀ q,q ≠ x.2.1 -> q ≠ y.2.1 -> (frS (wrS S1 x.2.1 (nd h (joinT h x.2.2 y.1 y.2.2))) y.2.1).used q=S1.used q /\ (frS (wrS S1 x.2.1 (nd h (joinT h x.2.2 y.1 y.2.2))) y.2.1).cont q=S1.cont q:=fun q a b=>by
  refine ⟨?_,?_⟩
  ·show flip S1.used y.2.1 q=_; unfold flip; rw [if_neg b]
  ·show (if q=x.2.1 then _ else _)=_; rw [if_neg a]
 have neA:∀ q ∈ low (h + 1) A,q ≠ x.2.1 /\ q ≠ y.2.1:=fun q hq=>⟨n3 q hq _ (by simp),n3 q hq _ (by simp)⟩
 have neB:∀ q ∈ low (h + 1) B,q ≠ x.2.1 /\ q ≠ y.2.1:=fun q hq=>⟨fun e=>n6 x.2.1 (by simp) q (by simp [hq]) e.symm,fun e=>n11 y.2.1 (by simp) q hq e.symm⟩
 have nex:∀ q ∈ low h x.2.2,q ≠ x.2.1 /\ q ≠ y.2.1:=fun q hq=>⟨fun e=>n7 (e ▸ hq),n6 q (by simp [hq]) _ (by simp)⟩
 have ney:∀ q ∈ low h y.2.2,q ≠ x.2.1 /\ q ≠ y.2.1:=fun q hq=>⟨fun e=>n6 x.2.1 (by simp) q (by simp [hq]) e.symm,fun e=>n12 (e ▸ hq)⟩
 have onx:On (frS (wrS S1 x.2.1 (nd h (joinT h x.2.2 y.1 y.2.2))) y.2.1) h x.2.1 (joinT h x.2.2 y.1 y.2.2):=by
  refine on_iff.2 ⟨⟨?_,?_⟩,kids_join ((on_iff.1 kx).2.frame fun q hq=>keep q (nex q hq).1 (nex q hq).2) ((on_iff.1 ky).2.frame fun q hq=>keep q (ney q hq).1 (ney q hq).2)⟩
  ·show flip S1.used y.2.1 x.2.1=true; unfold flip; rw [if_neg hxy]; exact hux
  ·show (if x.2.1=x.2.1 then _ else _)=_; rw [if_pos rfl]
 refine ⟨hux,huy,hxy,⟨⟨fun z hz=>?_,H.wf.2.join x.2.1 _ (ents_join h _ _ _) hxp⟩,?_,Kids.mk (k1.frame fun q hq=>keep q (neA q hq).1 (neA q hq).2) onx (k3.frame fun q hq=>keep q (neB q hq).1 (neB q hq).2),?_,by rw [(keep p hpx hpy).1]; exact H.use,?_,?_,fun n c hc=>((H.spr n c hc).write.freeS huy),by have:=H.lenD; rw [nd_lenS,nd_lenS] at this ⊢; simp at this ⊢; omega,by have:=H.wtD; rw [wt_mid,wt_cons] at this; rw [wt_mid]; show wt (h + 1) A + (max (2 ^ h) (wt h (joinT h x.2.2 y.1 y.2.2)) + wt (h + 1) B) <= _; rw [wt_join]; generalize 2 ^ h=P at *; omega⟩⟩
 ·rcases List.mem_append.1 hz with hz | hz
  ·exact H.wf.1 z (by simp [hz])
  ·rcases List.mem_cons.1 hz with rfl | hz
   ·exact ⟨hx.1,hx.2.1,hlj,hs,hwj⟩
   ·exact H.wf.1 z (by simp [hz])
 ·refine Nat.le_trans ?_ H.siz
  have e1:nd (h + 1) (A ++ (x.1,x.2.1,joinT h x.2.2 y.1 y.2.2) :: B:List (Kid h))=nd (h + 1) ((A ++ [x]) ++ B:List (Kid h)):=by simp [nd]
  have e2:nd (h + 1) (A ++ x :: y :: B:List (Kid h))=nd (h + 1) ((A ++ [x]) ++ y :: B:List (Kid h)):=by simp [nd]
  rw [e1,e2]; exact size_away
 ·rw [ej]
  refine List.nodup_cons.2 ⟨fun e=>np ?_,List.nodup_append.2 ⟨n1,List.nodup_append.2 ⟨List.nodup_cons.2 ⟨fun e=>?_,List.nodup_append.2 ⟨n8,n13,fun a ha b hb=>n6 a (by simp [ha]) b (by simp [hb])⟩⟩,n10,fun a ha b hb=>?_⟩,fun a ha b hb=>?_⟩⟩
  ·simp only [List.mem_append,List.mem_cons] at e ⊢
   rcases e with e | (e | e | e) | e <;> simp [e]
  ·rcases List.mem_append.1 e with e | e
   ·exact n7 e
   ·exact (ney _ e).1 rfl
  ·simp only [List.mem_cons,List.mem_append] at ha
   rcases ha with rfl | ha | ha
   ·exact n6 x.2.1 (by simp) b (by simp [hb])
   ·exact n6 a (by simp [ha]) b (by simp [hb])
   ·exact n11 a (by simp [ha]) b hb
  ·refine n3 a ha b ?_
   simp only [List.mem_cons,List.mem_append] at hb ⊢
   rcases hb with (hb | hb | hb) | hb <;> simp [hb]
 ·have hd:=H.del
  have e1:ents (h + 1) (A ++ (x.1,x.2.1,joinT h x.2.2 y.1 y.2.2) :: B:List (Kid h))=ents (h + 1) (A ++ x :: y :: B:List (Kid h)):=by
   rw [ents_mid]; show _ ++ (ents h (joinT h x.2.2 y.1 y.2.2) ++ _)=_; rw [ents_join]; simp [ents]
  rw [e1]; exact hd
 ·have f1:=H.frm
  rw [el] at f1
  have f2:=f1.trans (Frm.write _ S1 x.2.1 (nd h (joinT h x.2.2 y.1 y.2.2)) (by simp))
  rw [ej]
  refine f2.trans (Frm.free _ _ _ y.2.1 huy (fun q=>?_) (fun e=>?_))
  ·simp only [List.mem_cons,List.mem_append]
   constructor
   ·rintro (a | a | (a | a) | (a | a) | a) <;> simp [a]
   ·rintro (a | a | a | (a | a | a) | a) <;> simp [a]
  ·simp only [List.mem_cons,List.mem_append] at e
   rcases e with e | e | (e | e | e) | e
   ·exact hpy e.symm
   ·exact (neA _ e).2 rfl
   ·exact hxy e.symm
   ·exact (nex _ e).2 rfl
   ·exact n12 e
   ·exact (neB _ e).2 rfl
end
theorem join_leafs {d1 d2:Nd} (f:ByteArray) (hk:d1.isLeaf=d2.isLeaf) (hp:0 < d2.len):(d1.join f d2).isLeaf=d1.isLeaf /\ (d1.join f d2).keys=d1.keys ++ (if d1.isLeaf then d2.keys else f :: d2.keys.tail) /\ (d1.join f d2).vals=d1.vals ++ d2.vals /\ (d1.join f d2).kids=d1.kids ++ d2.kids:=by
 cases d1 with
 | leaf l =>
   cases d2 with
   | leaf r=>simp [Nd.join,Nd.isLeaf,Nd.keys,Nd.vals,Nd.kids]
   | inner r=>cases hk
 | inner l =>
   cases d2 with
   | leaf r=>cases hk
   | inner r =>
     cases r with
     | nil=>simp [Nd.len,Nd.keys] at hp
     | cons z r=>simp [Nd.join,Nd.isLeaf,Nd.keys,Nd.vals,Nd.kids]
theorem Nd.Ok.lens {d:Nd} (h:d.Ok):d.keys.length <= 90000 /\ d.vals.length <= 90000 /\ d.kids.length <= 90000:=by
 have:=h.few
 cases d with
 | leaf l=>simp [Nd.len,Nd.keys,Nd.vals,Nd.kids] at *; omega
 | inner l=>simp [Nd.len,Nd.keys,Nd.vals,Nd.kids] at *; omega
theorem join_nd (F1 F2:Nat -> Prop) (p q:Nat) (d1 d2:Nd) (f:ByteArray) (w:World) (h1:IsNd w F1 p d1) (h2:IsNd w F2 q d2) (hd:∀ k,F2 k -> ¬ F1 k) (hk:d1.isLeaf=d2.isLeaf) (o1:d1.Ok) (o2:d2.Ok) :
 Calls Tryz.prog 259 #[.pointer (some ⟨p,0,none⟩),.pointer (some ⟨q,0,none⟩),.string f] w fun e w'=>e=.returned (.tuple #[]) /\ Hid (NdGo w w' F1 p (d1.join f d2)):=by
 obtain ⟨vk,vv,vi,a⟩:=h1
 obtain ⟨vk2,vv2,vi2,b⟩:=h2
 have hb:=b.read.oth
 rw [<- hk] at hb
 refine (join_c p q d1.isLeaf d1.keys d1.vals d1.kids vk vv vi d2.keys d2.vals d2.kids vk2 vv2 vi2 f w a.parts hb (fun k hk=>⟨b.lt k ((b.own k).2 hk),fun e=>hd k ((b.own k).2 hk) ((a.own k).2 e)⟩) o2.pos o1.lens o2.lens).mono ?_
 rintro e w' ⟨rfl,vk',vv',vi',hs⟩
 obtain ⟨e1,e2,e3,e4⟩:=join_leafs f hk o2.pos
 refine ⟨rfl,?_⟩
 have hs2:NdS w w' F1 p (d1.join f d2).isLeaf (d1.join f d2).keys (d1.join f d2).vals (d1.join f d2).kids vk' vv' vi':=by
  rw [e1,e2,e3,e4]
  exact ⟨hs.nd,fun k hk=>(hs.sub k hk).imp (fun e=>(a.own k).2 e) id,hs.upd.mono fun k _ e=>(a.own k).2 e⟩
 exact hs2.go
def TwoNd (base:Nat) (W:World) (p:Nat) (d1:Nd) (q:Nat) (d2:Nd):Prop:=∃ F1 F2,IsNd W F1 p d1 /\ IsNd W F2 q d2 /\ (∀ k,F1 k -> base <= k) /\ (∀ k,F2 k -> base <= k) /\ ∀ k,F2 k -> ¬ F1 k
def OneNd (W W':World) (p:Nat) (d:Nd):Prop:=∃ F,IsNd W' F p d /\ (∀ k,F k -> W.heap.size <= k) /\ Below W.heap.size W W'
theorem two_of {W0 W W' W'':World} {p:Nat} {d1:Nd} {q:Nat} {d2:Nd} (hb:Below W0.heap.size W0 W) (h1:OneNd W W' p d1) (h2:OneNd W' W'' q d2):TwoNd W0.heap.size W'' p d1 q d2 /\ TwoNd W0.heap.size W'' q d2 p d1 /\ Below W0.heap.size W0 W'':=by
 obtain ⟨F1,a1,b1,c1⟩:=h1
 obtain ⟨F2,a2,b2,c2⟩:=h2
 have a1':=a1.below c2 (Nat.le_refl _)
 have s1:=hb.size
 have s2:=c1.size
 have hd:∀ k,F2 k -> ¬ F1 k:=fun k e e'=>by have:=a1.lt k e'; have:=b2 k e; omega
 have hB:Below W0.heap.size W0 W'':=(hb.trans (c1.mono s1)).trans (c2.mono (Nat.le_trans s1 s2))
 exact ⟨⟨F1,F2,a1',a2,fun k e=>Nat.le_trans s1 (b1 k e),fun k e=>Nat.le_trans (Nat.le_trans s1 s2) (b2 k e),hd⟩,⟨F2,F1,a2,a1',fun k e=>Nat.le_trans (Nat.le_trans s1 s2) (b2 k e),fun k e=>Nat.le_trans s1 (b1 k e),fun k e e'=>hd k e' e⟩,hB⟩
section
variable {w0 W:World} {G0 G:Nat -> Prop} {tb rb place n m:Nat} {S:RS}
theorem tail_read {h p:Nat} {t:PT h} (hB:TBase w0 W G0 G tb rb place n m S) (hm:m <= 3999000) (hT:On S h p t) (hf:(nd h t).size <= 512) (ho:(nd h t).Ok) :
 Calls Tryz.prog 133 #[.pointer (some ⟨tb,0,none⟩),.int .i64 (p:Int)] W fun e w'=>∃ q,e=.returned (.pointer (some ⟨q,0,none⟩)) /\ Hid (OneNd W w' q (nd h t)):=by
 refine (read_c G tb rb place n m S p (nd h t) W hB.room hB.blk (by omega) ho hf hT.top.1 hT.top.2).mono ?_
 rintro e w' ⟨q,rfl,F,a,b,c⟩
 exact ⟨q,rfl,F,a,b,c⟩
theorem tail_free (hB:TBase w0 W G0 G tb rb place n m S) (hm:m <= 3999000) {p:Nat} (hu:S.used p=true) :
 Calls Tryz.prog 132 #[.pointer (some ⟨rb,0,none⟩),.int .i64 (p:Int)] W fun e w'=>e=.returned (.int .i64 0) /\ Hid (∃ G',TBase w0 w' G0 G' tb rb place n (m + 1) (frS S p) /\ Turn G G' W w'):=by
 obtain ⟨puts,h1,h2,h3⟩:=hB.room
 refine (Free_c G rb n puts S p W h2 h3 (by omega) hu).mono ?_
 rintro e w' ⟨rfl,hg⟩
 exact ⟨rfl,hB.step (StGo.of_room hg h1)⟩
end
theorem RdN.at {w0 W:World} {G:Nat -> Prop} {q:Nat} {l:List (ByteArray × Nat)} (h:RdN w0 W G q (.inner l)) (hp:0 < l.length) :
 ∃ g1 o1 c1 g2 o2 c2,W.cell? ⟨q,1,none⟩=some (.slice (some ⟨g1,o1,none⟩) l.length c1) /\ W.cell? ⟨q,3,none⟩=some (.slice (some ⟨g2,o2,none⟩) l.length c2) /\ ∀ i (hi:i < l.length),W.cell? ⟨g1,o1 + i,none⟩=some (.string l[i].1) /\ W.cell? ⟨g2,o2 + i,none⟩=some (.int .i64 (l[i].2:Int)):=by
 obtain ⟨vk,vv,vi,a⟩:=h.view
 obtain ⟨g1,o1,c1,e1,h1,k1⟩:=a.ks.lit (by simpa [Nd.keys] using hp)
 obtain ⟨g2,o2,c2,e2,h2,k2⟩:=a.is.lit (by simpa [Nd.kids] using hp)
 subst e1 e2
 refine ⟨g1,o1,c1,g2,o2,c2,?_,?_,fun i hi=>⟨?_,?_⟩⟩
 ·have:=cell_lit (i:=1) a.blk rfl
  simpa [Nd.keys] using this
 ·have:=cell_lit (i:=3) a.blk rfl
  simpa [Nd.kids] using this
 ·have:=k1 i (by simpa [Nd.keys] using hi)
  rw [this]; simp [Nd.keys]
 ·have:=k2 i (by simpa [Nd.kids] using hi)
  rw [this]; simp [Nd.kids]
def JoinEnd (w0 w':World) (G0 G:Nat -> Prop) (tb rb place n m:Nat) (S1:RS) (q:Nat) {h:Nat} (A B:List (Kid h)) (x y:Kid h) (b:Bool):Prop :=
 if b then (nd h (joinT h x.2.2 y.1 y.2.2)).size <= 512 /\ ∃ G',TBase w0 w' G0 G' tb rb place n (m + 2) (frS (wrS S1 x.2.1 (nd h (joinT h x.2.2 y.1 y.2.2))) y.2.1) /\ Nod w0 w' G' q (nd (h + 1) (A ++ (x.1,x.2.1,joinT h x.2.2 y.1 y.2.2) :: B:List (Kid h)))
 else TBase w0 w' G0 G tb rb place n m S1 /\ Nod w0 w' G q (nd (h + 1) (A ++ x :: y :: B:List (Kid h)))
theorem size_join (h:Nat) (a:PT h) (f:ByteArray) (b:PT h):(nd h (joinT h a f b)).size <= (nd h a).size + (nd h b).size + f.size:=by
 cases h with
 | zero =>
   show (Nd.leaf (a ++ b)).size <= (Nd.leaf a).size + (Nd.leaf b).size + _
   rw [size_leaf,size_leaf,size_leaf]; simp; omega
 | succ h =>
   cases b with
   | nil=>simp [nd,joinT]; omega
   | cons z r =>
     simp only [nd,joinT,size_inner,List.map_append,List.map_cons,List.sum_append,List.sum_cons,esI]
     omega
theorem Nod.other {w0 W W':World} {G F1:Nat -> Prop} {q base:Nat} {d:Nd} (h:Nod w0 W G q d) (hb:Below W.heap.size W W') (hbase:W.heap.size <= base) {W'':World} (hu:Upd F1 W' W'') (hF:∀ k,F1 k -> base <= k):Nod w0 W'' G q d:=by
 obtain ⟨F,a,b⟩:=h
 have a':=a.below hb (Nat.le_refl _)
 exact ⟨F,a'.upd hu fun k hk e=>by have:=a.lt k hk; have:=hF k e; omega,b⟩
theorem nd_xy {h:Nat} (A B:List (Kid h)) (x y:Kid h):nd (h + 1) (A ++ x :: y :: B:List (Kid h))=.inner (A.map (fun x:Kid h=>(x.1,x.2.1)) ++ (x.1,x.2.1) :: (y.1,y.2.1) :: B.map (fun x:Kid h=>(x.1,x.2.1))):=by simp [nd]
theorem joined_c (w0 W:World) (G0 G:Nat -> Prop) (tb rb place n m:Nat) (S S1:RS) (q:Nat) {h p:Nat} {t:PT (h + 1)} {key:ByteArray} (A B:List (Kid h)) (x y:Kid h) (hB:TBase w0 W G0 G tb rb place n m S1) (hN:Nod w0 W G q (nd (h + 1) (A ++ x :: y :: B:List (Kid h)))) (hO:Opn S S1 (h + 1) p t key (A ++ x :: y :: B:List (Kid h))) (hm:m <= 3998000) :
 Calls Tryz.prog 219 #[.pointer (some ⟨tb,0,none⟩),.pointer (some ⟨q,0,none⟩),.int .i64 (A.length:Nat)] W fun e w'=>∃ b:Bool,e=.returned (.bool b) /\ Hid (JoinEnd w0 w' G0 G tb rb place n m S1 q A B x y b):=by
 have hx:=hO.wf.1 x (by simp)
 have hy:=hO.wf.1 y (by simp)
 have okx:(nd h x.2.2).Ok:=hx.2.2.2.2.ok hx.2.2.1 (Nat.le_trans hx.2.2.2.1 (by decide))
 have oky:(nd h y.2.2).Ok:=hy.2.2.2.2.ok hy.2.2.1 (Nat.le_trans hy.2.2.2.1 (by decide))
 have onx:On S1 h x.2.1 x.2.2:=hO.kid x (by simp)
 have ony:On S1 h y.2.1 y.2.2:=hO.kid y (by simp)
 obtain ⟨s1,s2,s3,s4,s5⟩:=seps_pair.1 hO.wf.2.1
 obtain ⟨s6,s7,s8⟩:=seps_tail.1 hO.wf.2.2
 have HWJ:Hid (Wf h (joinT h x.2.2 y.1 y.2.2)):=Hd (wf_join hx.2.2.2.2 hy.2.2.2.2 hy.1 (s4 y (by simp)) (s8 y (by simp)) hx.2.2.1)
 have HLJ:Hid (0 < (nd h (joinT h x.2.2 y.1 y.2.2)).len):=Hd (Nat.lt_of_lt_of_le hx.2.2.1 (len_join h _ _ _))
 have hNr:=hN.rd
 rw [nd_xy] at hNr
 obtain ⟨g1,o1,c1,g2,o2,c2,k1,k3,kc⟩:=hNr.at (by simp; omega)
 have hlen:(A.map (fun x:Kid h=>(x.1,x.2.1)) ++ (x.1,x.2.1) :: (y.1,y.2.1) :: B.map (fun x:Kid h=>(x.1,x.2.1))).length=A.length + 2 + B.length:=by simp; omega
 have kx:=(kc A.length (by rw [hlen]; omega)).2
 have ky:=(kc (A.length + 1) (by rw [hlen]; omega)).2
 have kk:=(kc (A.length + 1) (by rw [hlen]; omega)).1
 rw [List.getElem_append_right (by simp)] at kx ky kk
 simp only [List.length_map,Nat.sub_self,List.getElem_cons_zero,Nat.add_sub_cancel_left,List.getElem_cons_succ] at kx ky kk
 rw [hlen] at k1 k3
 have hAl:A.length <= 65536:=by
  have h1:=hO.siz
  have h2:=size_len (nd (h + 1) (A ++ x :: y :: B:List (Kid h)))
  rw [nd_lenS,List.length_append] at h2; omega
 have RX:Hid (∀ W',Hid (Below W.heap.size W W') -> Calls Tryz.prog 133 #[.pointer (some ⟨tb,0,none⟩),.int .i64 (x.2.1:Int)] W' fun e w'=>∃ q1,e=.returned (.pointer (some ⟨q1,0,none⟩)) /\ (w'.cell? ⟨q,3,none⟩=some (.slice (some ⟨g2,o2,none⟩) (A.length + 2 + B.length) c2) /\ w'.cell? ⟨g2,o2 + A.length,none⟩=some (.int .i64 (x.2.1:Int)) /\ w'.cell? ⟨g2,o2 + (A.length + 1),none⟩=some (.int .i64 (y.2.1:Int))) /\ Hid (Below W.heap.size W w') /\ Hid (OneNd W' w' q1 (nd h x.2.2))):=Hd fun W' hW=>by
  refine (tail_read (hB.below hW.out) (by omega) onx hx.2.2.2.1 okx).mono ?_
  rintro e w' ⟨q1,rfl,ho⟩
  have hb':Below W.heap.size W w':=by obtain ⟨F,a,b,c⟩:=ho.out; exact hW.out.trans (c.mono hW.out.size)
  exact ⟨q1,rfl,⟨(World.cell?_of_block (hb'.block _ (World.block_lt_of_cell? W _ k3))).trans k3,(World.cell?_of_block (hb'.block _ (World.block_lt_of_cell? W _ kx))).trans kx,(World.cell?_of_block (hb'.block _ (World.block_lt_of_cell? W _ ky))).trans ky⟩,hb',ho⟩
 have RY:Hid (∀ W',Hid (Below W.heap.size W W') -> Calls Tryz.prog 133 #[.pointer (some ⟨tb,0,none⟩),.int .i64 (y.2.1:Int)] W' fun e w'=>∃ q1,e=.returned (.pointer (some ⟨q1,0,none⟩)) /\ (w'.cell? ⟨q,3,none⟩=some (.slice (some ⟨g2,o2,none⟩) (A.length + 2 + B.length) c2) /\ w'.cell? ⟨g2,o2 + A.length,none⟩=some (.int .i64 (x.2.1:Int)) /\ w'.cell? ⟨g2,o2 + (A.length + 1),none⟩=some (.int .i64 (y.2.1:Int))) /\ Hid (Below W.heap.size W w') /\ Hid (OneNd W' w' q1 (nd h y.2.2))):=Hd fun W' hW=>by
  refine (tail_read (hB.below hW.out) (by omega) ony hy.2.2.2.1 oky).mono ?_
  rintro e w' ⟨q1,rfl,ho⟩
  have hb':Below W.heap.size W w':=by obtain ⟨F,a,b,c⟩:=ho.out; exact hW.out.trans (c.mono hW.out.size)
  exact ⟨q1,rfl,⟨(World.cell?_of_block (hb'.block _ (World.block_lt_of_cell? W _ k3))).trans k3,(World.cell?_of_block (hb'.block _ (World.block_lt_of_cell? W _ kx))).trans kx,(World.cell?_of_block (hb'.block _ (World.block_lt_of_cell? W _ ky))).trans ky⟩,hb',ho⟩
 have KC:Hid (∀ W',Below W.heap.size W W' -> W'.cell? ⟨q,1,none⟩=some (.slice (some ⟨g1,o1,none⟩) (A.length + 2 + B.length) c1) /\ W'.cell? ⟨g1,o1 + (A.length + 1),none⟩=some (.string y.1)):=Hd fun W' hb'=>⟨(World.cell?_of_block (hb'.block _ (World.block_lt_of_cell? W _ k1))).trans k1,(World.cell?_of_block (hb'.block _ (World.block_lt_of_cell? W _ kk))).trans kk⟩
 have w1:IntKind.i64.wrap ((A.length:Int) + 1)=(A.length:Int) + 1:=wrap_small (by omega) (by omega)
 have w2:((A.length:Int) + 1).toNat=A.length + 1:=by omega
 have w3':(A.length:Int) + 1 < ((A.length + 2 + B.length:Nat):Int):=by omega
 have w4:(A.length:Int) < ((A.length + 2 + B.length:Nat):Int):=by omega
 have w5:(0:Int) <= (A.length:Int) + 1:=by omega
 generalize A.length + 2 + B.length=N at *
 have HB0:=Hd (Below.refl W.heap.size W).drew
 have HB:=Hd hB
 have HN:=Hd hN
 have HO:=Hd hO
 have HOX:=Hd okx
 have HOY:=Hd oky
 have HM:=Hd hm
 clear hB hN hO okx oky onx ony s1 s2 s3 s4 s5 s6 s7 s8 hNr kc hlen hx hy hm
 go_enter Tryz.func219,Tryz.ntmps219
 go_wp2_with fail
 go_region_held3 (fun w'=>w'.cell? ⟨q,3,none⟩=some (.slice (some ⟨g2,o2,none⟩) N c2) /\ w'.cell? ⟨g2,o2 + A.length,none⟩=some (.int .i64 (x.2.1:Int)) /\ w'.cell? ⟨g2,o2 + (A.length + 1),none⟩=some (.int .i64 (y.2.1:Int))) (go_keep) ((first
  | (go_at_call 133
     refine Calls.at_args (RX.out _ (by first | exact HBB | exact HB0)) (by with_reducible rfl) ?_
     rintro e w3 ⟨qx,rfl,hkk,HBB,HX⟩)
  | (go_at_call 133
     refine Calls.at_args (RY.out _ (by first | exact HBB | exact HB0)) (by with_reducible rfl) ?_
     rintro e w3 ⟨qy,rfl,hkk,HBB,HY⟩)))
 all_goals (
  have TW:TwoNd W.heap.size w3 qx (nd h x.2.2) qy (nd h y.2.2):=by first | exact (two_of HB0.out HX.out HY.out).1 | exact (two_of HB0.out HY.out HX.out).2.1
  obtain ⟨F1,F2,i1,i2,f1,f2,fd⟩:=TW
  have hF1:∀ k,F1 k -> w0.heap.size <= k /\ ¬ G k:=fun k hk=>⟨Nat.le_trans HB.out.up.size (f1 k hk),fun e=>by have:=HB.out.room.lt k e; have:=f1 k hk; omega⟩
  have hjn:=join_nd F1 F2 qx qy _ _ y.1 w3 i1 i2 fd (by cases h <;> rfl) HOX.out HOY.out
  rw [<- nd_join] at hjn
  have JN:=Hd hjn
  have HF1:=Hd hF1
  have HFB:=Hd f1
  obtain ⟨kq1,kq2⟩:=KC.out w3 HBB.out
  clear i1 i2 f1 f2 fd hF1 hjn HX HY RX RY hkk kx ky kk k1 k3
  go_wp2_with fail
  refine JN.out.mono ?_
  rintro e w5 ⟨rfl,HG⟩
  have hu5:Upd F1 w3 w5:=by obtain ⟨F',a,b,c⟩:=HG.out; exact c
  have B5:=Hd ((HB.out.below HBB.out).node hu5 HF1.out)
  have N5:=Hd (HN.out.other HBB.out (Nat.le_refl _) hu5 HFB.out)
  have NX:=Hd (Nod.go (w0:=w0) (G:=G) HF1.out HG.out (HB.out.below HBB.out).room.lt (HB.out.below HBB.out).up.size)
  have hsj:=size_join h x.2.2 y.1 y.2.2
  have okJ:(nd h (joinT h x.2.2 y.1 y.2.2)).Ok:=HWJ.out.ok HLJ.out (by
   have hx:=HO.out.wf.1 x (by simp)
   have hy:=HO.out.wf.1 y (by simp)
   have:=hx.2.2.2.1; have:=hy.2.2.2.1; have:=hy.1; omega)
  have TS:=Hd (tail_size NX.out okJ)
  have OKJ:=Hd okJ
  clear okJ hsj hu5 HG JN HF1 HFB kq1 kq2 KC HBB HWJ HLJ
  go_wp2_with fail
  refine TS.out.mono ?_
  rintro e w6 ⟨rfl,rfl⟩
  clear TS
  have hN5:=N5.out.rd
  rw [nd_xy] at hN5
  obtain ⟨g1,o1,c1,g2,o2,c2,k1,k3,kc⟩:=hN5.at (by simp; omega)
  have hlen:(A.map (fun x:Kid h=>(x.1,x.2.1)) ++ (x.1,x.2.1) :: (y.1,y.2.1) :: B.map (fun x:Kid h=>(x.1,x.2.1))).length=A.length + 2 + B.length:=by simp; omega
  have kx:=(kc A.length (by rw [hlen]; omega)).2
  rw [List.getElem_append_right (by simp)] at kx
  simp only [List.length_map,Nat.sub_self,List.getElem_cons_zero] at kx
  rw [hlen] at k3
  have v4:(A.length:Int) < ((A.length + 2 + B.length:Nat):Int):=by omega
  clear kc hlen k1 hN5
  by_cases hs:(nd h (joinT h x.2.2 y.1 y.2.2)).size <= 512
  ·obtain ⟨hux,huy,hxy,hop⟩:=HO.out.join hs
   have hI:¬ (((nd h (joinT h x.2.2 y.1 y.2.2)).size:Nat):Int) > 512:=by omega
   have hI2:¬ (512:Int) < (((nd h (joinT h x.2.2 y.1 y.2.2)).size:Nat):Int):=by omega
   have TWr:=Hd (tail_write B5.out x.2.1 NX.out.rd OKJ.out hs hux (by have:=HM.out; omega))
   have HUY:=Hd huy
   have HS:=Hd hs
   generalize A.length + 2 + B.length=N5' at *
   clear hux huy hxy hop hs NX OKJ
   go_wp2_with fail
   refine TWr.out.mono ?_
   rintro e w7 ⟨rfl,HW⟩
   obtain ⟨G7,b7,tn7⟩:=HW.out
   have B7:=Hd b7
   have N7:=Hd (N5.out.turn tn7)
   clear hI hI2 TWr HW b7 tn7 N5 B5 k3 kx v4
   obtain ⟨t0,t1⟩:=B7.out.blk.cells
   have hN7:=N7.out.rd
   rw [nd_xy] at hN7
   obtain ⟨g1,o1,c1,g2,o2,c2,k1,k3,kc⟩:=hN7.at (by simp; omega)
   have hlen:(A.map (fun x:Kid h=>(x.1,x.2.1)) ++ (x.1,x.2.1) :: (y.1,y.2.1) :: B.map (fun x:Kid h=>(x.1,x.2.1))).length=A.length + 2 + B.length:=by simp; omega
   have ky:=(kc (A.length + 1) (by rw [hlen]; omega)).2
   rw [List.getElem_append_right (by simp)] at ky
   simp only [List.length_map,Nat.add_sub_cancel_left,List.getElem_cons_succ,List.getElem_cons_zero] at ky
   rw [hlen] at k3
   have v3:(A.length:Int) + 1 < ((A.length + 2 + B.length:Nat):Int):=by omega
   have FREE:Hid (Calls Tryz.prog 132 #[.pointer (some ⟨rb,0,none⟩),.int .i64 (y.2.1:Int)] w7.drew fun e w'=>e=.returned (.int .i64 0) /\ (w'.cell? ⟨tb,0,none⟩=some (.pointer (some ⟨rb,0,none⟩)) /\ w'.cell? ⟨q,3,none⟩=some (.slice (some ⟨g2,o2,none⟩) (A.length + 2 + B.length) c2) /\ w'.cell? ⟨g2,o2 + (A.length + 1),none⟩=some (.int .i64 (y.2.1:Int))) /\ Hid (∃ G',TBase w0 w' G0 G' tb rb place n (m + 2) (frS (wrS S1 x.2.1 (nd h (joinT h x.2.2 y.1 y.2.2))) y.2.1) /\ Turn G7 G' w7 w')):=Hd (by
    have hd:=(Below.refl w7.heap.size w7).drew
    refine (tail_free (B7.out.below hd) (by have:=HM.out; omega) HUY.out).mono ?_
    rintro e w' ⟨rfl,G8,b8,tn8⟩
    have tn:Turn G7 G8 w7 w':=tn8.below_left hd
    refine ⟨rfl,⟨b8.blk.cells.1,?_,?_⟩,G8,b8,tn⟩
    ·obtain ⟨F,⟨vk,vv,vi,a⟩,b⟩:=N7.out
     exact (World.cell?_of_block (tn.upd.block q (lt_of_heap a.blk) (b q ((a.own q).2 (.inl rfl))).2)).trans k3
    ·obtain ⟨F,⟨vk,vv,vi,a⟩,b⟩:=N7.out
     have e3:=cell_lit (i:=3) a.blk rfl
     rw [k3] at e3
     have e4:vi.ownBlock=some g2:=by cases e3; rfl
     exact (World.cell?_of_block (tn.upd.block g2 (World.block_lt_of_cell? _ _ ky) (b g2 ((a.own g2).2 (.inr (.inr (.inr e4))))).2)).trans ky)
   generalize A.length + 2 + B.length=N7' at *
   have MU:=must_c
   clear kc hlen k1 hN7
   go_wp2_with fail
   go_region_held3 (fun w'=>w'.cell? ⟨tb,0,none⟩=some (.pointer (some ⟨rb,0,none⟩)) /\ w'.cell? ⟨q,3,none⟩=some (.slice (some ⟨g2,o2,none⟩) N7' c2) /\ w'.cell? ⟨g2,o2 + (A.length + 1),none⟩=some (.int .i64 (y.2.1:Int))) (go_keep) ((first
    | (go_at_call 132
       refine Calls.at_args FREE.out (by with_reducible rfl) ?_
       rintro e w8 ⟨rfl,hkf,HFR⟩)
    | (go_at_call 131; refine (MU _).mono ?_; rintro e w9 ⟨rfl,rfl⟩)))
   all_goals (
    obtain ⟨G8,b8,tn8⟩:=HFR.out
    have B8:=Hd b8
    have hn8:=N7.out.turn tn8
    rw [show nd (h + 1) (A ++ x :: y :: B:List (Kid h))=.inner ((A ++ [x]).map (fun x:Kid h=>(x.1,x.2.1)) ++ (y.1,y.2.1) :: B.map (fun x:Kid h=>(x.1,x.2.1))) by simp [nd]] at hn8
    obtain ⟨F8,y1,y2⟩:=hn8
    have RM:=remove_inner F8 q ((A ++ [x]).map (fun x:Kid h=>(x.1,x.2.1))) (B.map (fun x:Kid h=>(x.1,x.2.1))) (y.1,y.2.1) _ y1 (by simp; omega)
    rw [show ((((A ++ [x]).map (fun x:Kid h=>(x.1,x.2.1))).length:Nat):Int)=(A.length:Int) + 1 by simp] at RM
    have RM2:=Hd RM
    have Y2:=Hd y2
    clear y1 y2 b8 tn8 RM HFR FREE N7 B7 hkf t0 t1 k3 ky v3
    go_wp2_with fail
    refine RM2.out.mono ?_
    rintro e w10 ⟨rfl,HG10⟩
    obtain ⟨F10,z1,z2,hu10⟩:=HG10.out
    have B10:=Hd (B8.out.node hu10 Y2.out)
    have N10:=Hd (Nod.go (w0:=w0) (G:=G8) Y2.out HG10.out B8.out.room.lt B8.out.up.size)
    clear RM2 HG10 hu10 z1 z2 Y2 B8
    go_wp2_with fail
    go_ret
    refine ⟨true,rfl,?_⟩
    show Hid (if true=true then _ else _)
    rw [if_pos rfl]
    refine Hd ⟨HS.out,G8,B10.out,?_⟩
    have e10:nd (h + 1) (A ++ (x.1,x.2.1,joinT h x.2.2 y.1 y.2.2) :: B:List (Kid h))=.inner ((A ++ [x]).map (fun x:Kid h=>(x.1,x.2.1)) ++ B.map (fun x:Kid h=>(x.1,x.2.1))):=by simp [nd]
    rw [e10]; exact N10.out)
  ·have hI:(((nd h (joinT h x.2.2 y.1 y.2.2)).size:Nat):Int) > 512:=by omega
   have hI2:(512:Int) < (((nd h (joinT h x.2.2 y.1 y.2.2)).size:Nat):Int):=by omega
   clear hs k3 kx v4
   go_wp2_with fail
   go_ret
   refine ⟨false,rfl,?_⟩
   show Hid (if false=true then _ else _)
   rw [if_neg (by simp)]
   exact Hd ⟨B5.out,N5.out⟩)
def TidyEnd (w0 w':World) (G0:Nat -> Prop) (tb rb place n m:Nat) (S:RS) (q:Nat) (h p:Nat) (t:PT (h + 1)) (key:ByteArray):Prop :=
 ∃ S2 G' u,TBase w0 w' G0 G' tb rb place n (m + 4) S2 /\ Nod w0 w' G' q (nd (h + 1) u) /\ Opn S S2 (h + 1) p t key u
theorem RdN.keys {w0 W:World} {G:Nat -> Prop} {q:Nat} {d:Nd} (h:RdN w0 W G q d):∃ a c,W.cell? ⟨q,1,none⟩=some (.slice a d.len c):=by
 obtain ⟨vk,vv,vi,a⟩:=h.view
 obtain ⟨x,c,rfl⟩:=a.ks.form
 have:=cell_lit (i:=1) a.blk rfl
 rw [List.length_map] at this
 exact ⟨x,c,this⟩
theorem joined_i (w0 W:World) (G0 G:Nat -> Prop) (tb rb place n m:Nat) (S S1:RS) (q:Nat) {h p:Nat} {t:PT (h + 1)} {key:ByteArray} (A B:List (Kid h)) (x y:Kid h) (hB:TBase w0 W G0 G tb rb place n m S1) (hN:Nod w0 W G q (nd (h + 1) (A ++ x :: y :: B:List (Kid h)))) (hO:Opn S S1 (h + 1) p t key (A ++ x :: y :: B:List (Kid h))) (hm:m <= 3998000) (i:Int) (hi:(A.length:Int)=i) :
 Calls Tryz.prog 219 #[.pointer (some ⟨tb,0,none⟩),.pointer (some ⟨q,0,none⟩),.int .i64 i] W fun e w'=>∃ b:Bool,e=.returned (.bool b) /\ Hid (if b then TidyEnd w0 w' G0 tb rb place n m S q h p t key else TBase w0 w' G0 G tb rb place n m S1 /\ Nod w0 w' G q (nd (h + 1) (A ++ x :: y :: B:List (Kid h)))):=by
 subst hi
 refine (joined_c w0 W G0 G tb rb place n m S S1 q A B x y hB hN hO hm).mono ?_
 rintro e w' ⟨b,rfl,hj⟩
 refine ⟨b,rfl,?_⟩
 have hj2:=hj.out
 unfold JoinEnd at hj2
 cases b with
 | false=>rw [if_neg (by simp)] at hj2 ⊢; exact hj2
 | true =>
   rw [if_pos rfl] at hj2 ⊢
   obtain ⟨hs,G',b',n'⟩:=hj2
   exact ⟨_,G',_,b'.more (by omega),n',(hO.join hs).2.2.2⟩
theorem nil_or_snoc {α:Type} (A:List α):A=[] \/ ∃ A' z,A=A' ++ [z]:=by
 rcases List.eq_nil_or_concat A with h | ⟨B,z,h⟩
 ·exact .inl h
 ·exact .inr ⟨B,z,by rw [h,List.concat_eq_append]⟩
theorem snoc_fix {α:Type} (A:List α) (z x:α) (B:List α):(A ++ [z]) ++ x :: B=A ++ z :: x :: B:=by simp
theorem TidyEnd.of {w0 w':World} {G0 G':Nat -> Prop} {tb rb place n m:Nat} {S S2:RS} {q h p:Nat} {t u:PT (h + 1)} {key:ByteArray} (hB:TBase w0 w' G0 G' tb rb place n m S2) (hN:Nod w0 w' G' q (nd (h + 1) u)) (hO:Opn S S2 (h + 1) p t key u):TidyEnd w0 w' G0 tb rb place n m S q h p t key:=⟨S2,G',u,hB.more (by omega),hN,hO⟩
theorem tidy_some (w0 W:World) (G0 G:Nat -> Prop) (tb rb place n m:Nat) (S S1:RS) (q qk:Nat) {h p:Nat} {key:ByteArray} (A B:List (Kid h)) (x:Kid h) (t':PT h) (i:Nat) (hi:A.length=i) (hB:TBase w0 W G0 G tb rb place n m S1) (hN:Nod w0 W G q (nd (h + 1) (A ++ x :: B:List (Kid h)))) (hK:Nod w0 W G qk (nd h t')) (t:PT (h + 1)) (htt:t=(A ++ x :: B:List (Kid h))) (hT:Tr S (h + 1) p t) (hR:RemOne S S1 h x.2.1 x.2.2 key t') (hpos:0 < (nd h t').len) (hm:m <= 3998000) :
 Calls Tryz.prog 181 #[.pointer (some ⟨tb,0,none⟩),.pointer (some ⟨q,0,none⟩),.int .i64 (i:Int),.pointer (some ⟨qk,0,none⟩)] W fun e w'=>e=.returned (.tuple #[]) /\ Hid (TidyEnd w0 w' G0 tb rb place n m S q h p t key):=by
 have hO:Opn S S1 (h + 1) p t key (A ++ (x.1,x.2.1,t') :: B:List (Kid h)):=by subst htt; exact Opn.kidOne hT hR hpos
 have okk:(nd h t').Ok:=hR.op.wf.ok hpos (Nat.le_trans hR.op.siz (by decide))
 have TS:=Hd (tail_size hK okk)
 obtain ⟨ka,kc,k1⟩:=hK.rd.keys
 have hNx:=hN
 rw [show nd (h + 1) (A ++ x :: B:List (Kid h))=nd (h + 1) (A ++ (x.1,x.2.1,t') :: B:List (Kid h)) by simp [nd]] at hNx
 have hsz:=hR.op.siz
 have hAl:i <= 65536:=by
  have h1:=hT.fit
  rw [htt] at h1
  have h2:=size_len (nd (h + 1) (A ++ x :: B:List (Kid h)))
  rw [nd_lenS,List.length_append] at h2; omega
 have k3:∃ a c,W.cell? ⟨q,3,none⟩=some (.slice a (A.length + 1 + B.length) c):=by
  have:=hN.rd
  rw [nd_of_mid] at this
  obtain ⟨g1,o1,c1,g2,o2,c2,e1,e3,-⟩:=this.at (by simp; omega)
  refine ⟨some ⟨g2,o2,none⟩,c2,?_⟩
  rw [e3]; simp; omega
 obtain ⟨a3,c3,k3⟩:=k3
 have HO:=Hd hO
 have HNX:=Hd hNx
 have HB:=Hd hB
 have HM:=Hd hm
 have HI:=Hd hi
 have hln:¬ (((nd h t').len:Nat):Int)=0:=by omega
 have hln2:((((nd h t').len:Nat):Int) == 0)=false:=by simpa using hln
 have hln3:¬ (nd h t').len=0:=by omega
 clear hO okk hN hK hT hR hNx hB hm hi hpos htt
 generalize (nd h t').len=kl at *
 go_enter Tryz.func181,Tryz.ntmps181
 go_wp2_with fail
 refine TS.out.mono ?_
 rintro e w1 ⟨rfl,rfl⟩
 clear TS hln hln2 hln3 k1
 by_cases h128:128 <= (nd h t').size
 ·have hS1:(128:Int) <= (((nd h t').size:Nat):Int):=by omega
  clear k3
  go_wp2_with fail
  first | go_end0 | refine bodyPost_ret (results_none rfl _ _ _) rfl ?_
  exact ⟨rfl,TidyEnd.of HB.out HNX.out HO.out⟩
 ·have hS1:¬ (128:Int) <= (((nd h t').size:Nat):Int):=by omega
  have w1x:IntKind.i64.wrap ((i:Int) + 1)=(i:Int) + 1:=wrap_small (by omega) (by omega)
  cases B with
  | nil =>
    have hc1:¬ ((i:Int) + 1 < ((A.length + 1 + ([]:List (Kid h)).length:Nat):Int)):=by have:=HI.out; simp; omega
    generalize A.length + 1 + ([]:List (Kid h)).length=NN at *
    clear h128 hsz
    by_cases hi0:0 < i
    ·rcases nil_or_snoc A with hA0 | ⟨A',z,hA0⟩
     ·subst hA0; have:=HI.out; simp at this; omega
     ·subst hA0
      have hI1:(0:Int) < (i:Int):=by omega
      have hI2:IntKind.i64.wrap ((i:Int) - 1)=(i:Int) - 1:=wrap_small (by omega) (by omega)
      have J2:Hid (Calls Tryz.prog 219 #[.pointer (some ⟨tb,0,none⟩),.pointer (some ⟨q,0,none⟩),.int .i64 ((i:Int) - 1)] _ _):=Hd (joined_i w0 _ G0 G tb rb place n m S S1 q A' [] z (x.1,x.2.1,t') (HB.out) (by have:=HNX.out; rw [snoc_fix] at this; exact this) (by have:=HO.out; rw [snoc_fix] at this; exact this) HM.out ((i:Int) - 1) (by have:=HI.out; simp at this; omega))
      go_wp2_with fail
      refine J2.out.mono ?_
      rintro e w9 ⟨b2,rfl,HJ2⟩
      clear J2 hI1 hI2
      go_wp2_with fail
      first | go_end0 | refine bodyPost_ret (results_none rfl _ _ _) rfl ?_
      refine ⟨rfl,?_⟩
      have hj:=HJ2.out
      cases b2 with
      | true =>
        first | rw [if_pos rfl] at hj | rw [if_pos trivial] at hj
        exact hj
      | false =>
        rw [if_neg (by simp)] at hj
        exact TidyEnd.of hj.1 hj.2 (by have:=HO.out; rw [snoc_fix] at this; exact this)
    ·have hI1:¬ (0:Int) < (i:Int):=by omega
     go_wp2_with fail
     first | go_end0 | refine bodyPost_ret (results_none rfl _ _ _) rfl ?_
     exact ⟨rfl,TidyEnd.of (HB.out) (HNX.out) HO.out⟩
  | cons y B' =>
    have hc1:((i:Int) + 1 < ((A.length + 1 + (y :: B').length:Nat):Int)):=by have:=HI.out; simp; omega
    generalize A.length + 1 + (y :: B').length=NN at *
    have J1:=Hd (joined_i w0 w1 G0 G tb rb place n m S S1 q A B' (x.1,x.2.1,t') y HB.out HNX.out HO.out HM.out (i:Int) (by rw [HI.out]))
    clear h128 hsz
    go_wp2_with fail
    refine J1.out.mono ?_
    rintro e w7 ⟨b1,rfl,HJ1⟩
    clear J1
    cases b1 with
    | true =>
      clear k3
      go_wp2_with fail
      first | go_end0 | refine bodyPost_ret (results_none rfl _ _ _) rfl ?_
      refine ⟨rfl,?_⟩
      have hj:=HJ1.out
      first | rw [if_pos rfl] at hj | rw [if_pos trivial] at hj
      exact hj
    | false =>
      have hj:=HJ1.out
      rw [if_neg (by simp)] at hj
      have HBJ:=Hd hj.1
      have HNJ:=Hd hj.2
      clear hj HJ1 k3 hc1 HB HNX
      by_cases hi0:0 < i
      ·rcases nil_or_snoc A with hA0 | ⟨A',z,hA0⟩
       ·subst hA0; have:=HI.out; simp at this; omega
       ·subst hA0
        have hI1:(0:Int) < (i:Int):=by omega
        have hI2:IntKind.i64.wrap ((i:Int) - 1)=(i:Int) - 1:=wrap_small (by omega) (by omega)
        have J2:Hid (Calls Tryz.prog 219 #[.pointer (some ⟨tb,0,none⟩),.pointer (some ⟨q,0,none⟩),.int .i64 ((i:Int) - 1)] _ _):=Hd (joined_i w0 _ G0 G tb rb place n m S S1 q A' (y :: B') z (x.1,x.2.1,t') (HBJ.out) (by have:=HNJ.out; rw [snoc_fix] at this; exact this) (by have:=HO.out; rw [snoc_fix] at this; exact this) HM.out ((i:Int) - 1) (by have:=HI.out; simp at this; omega))
        go_wp2_with fail
        refine J2.out.mono ?_
        rintro e w9 ⟨b2,rfl,HJ2⟩
        clear J2 hI1 hI2
        go_wp2_with fail
        first | go_end0 | refine bodyPost_ret (results_none rfl _ _ _) rfl ?_
        refine ⟨rfl,?_⟩
        have hj:=HJ2.out
        cases b2 with
        | true =>
          first | rw [if_pos rfl] at hj | rw [if_pos trivial] at hj
          exact hj
        | false =>
          rw [if_neg (by simp)] at hj
          exact TidyEnd.of hj.1 hj.2 (by have:=HO.out; rw [snoc_fix] at this; exact this)
      ·have hI1:¬ (0:Int) < (i:Int):=by omega
       go_wp2_with fail
       first | go_end0 | refine bodyPost_ret (results_none rfl _ _ _) rfl ?_
       exact ⟨rfl,TidyEnd.of (HBJ.out) (HNJ.out) HO.out⟩
theorem TBase.trans {w0 W W':World} {G0 G G':Nat -> Prop} {tb rb place n m m':Nat} {S S':RS} (a:TBase w0 W G0 G tb rb place n m S) (b:TBase W W' G G' tb rb place n m' S'):TBase w0 W' G0 G' tb rb place n m' S':=by
 have hs:=a.up.size
 refine ⟨b.room,a.up.trans' b.up fun j hj e=>(a.sub j e).resolve_right (by omega),fun k hk=>?_,b.blk,b.gt,a.tl⟩
 rcases b.sub k hk with e | e
 ·exact a.sub k e
 ·exact .inr (by omega)
theorem TBase.turn {w0 W:World} {G0 G:Nat -> Prop} {tb rb place n m:Nat} {S:RS} (a:TBase w0 W G0 G tb rb place n m S):Turn G0 G w0 W:=⟨a.up,a.sub⟩
theorem Nod.base {w0 W W':World} {G:Nat -> Prop} {q:Nat} {d:Nd} (h:Nod W W' G q d) (hs:w0.heap.size <= W.heap.size):Nod w0 W' G q d:=by
 obtain ⟨F,a,b⟩:=h; exact ⟨F,a,fun k hk=>⟨Nat.le_trans hs (b k hk).1,(b k hk).2⟩⟩
theorem Opn.written {S S1:RS} {h p:Nat} {t u:PT h} {key:ByteArray} (H:Opn S S1 h p t key u) (hz:0 < (nd h u).len):RemOne S (wrS S1 p (nd h u)) h p t key u:=by
 have T:=Tr.write H.wf hz H.siz H.kid (by rw [pgs_low]; exact H.nod) H.use
 exact ⟨⟨H.wf,H.siz,T.kids,H.nod,H.use,H.del,H.frm.trans (Frm.write _ _ _ _ (by simp)),fun n c hc=>(H.spr n c hc).write,H.lenD,H.wtD⟩,fun _=>T.on⟩
theorem tidy_none (w0 W:World) (G0 G:Nat -> Prop) (tb rb place n m:Nat) (S S1:RS) (q qk:Nat) {h p:Nat} {key:ByteArray} (A B:List (Kid h)) (x:Kid h) (t':PT h) (i:Nat) (hi:A.length=i) (hB:TBase w0 W G0 G tb rb place n m S1) (hN:Nod w0 W G q (nd (h + 1) (A ++ x :: B:List (Kid h)))) (hK:Nod w0 W G qk (nd h t')) (t:PT (h + 1)) (htt:t=(A ++ x :: B:List (Kid h))) (hT:Tr S (h + 1) p t) (hR:RemOne S S1 h x.2.1 x.2.2 key t') (hz:(nd h t').len=0) (hm:m <= 3998000) :
 Calls Tryz.prog 181 #[.pointer (some ⟨tb,0,none⟩),.pointer (some ⟨q,0,none⟩),.int .i64 (i:Int),.pointer (some ⟨qk,0,none⟩)] W fun e w'=>e=.returned (.tuple #[]) /\ Hid (TidyEnd w0 w' G0 tb rb place n m S q h p t key):=by
 have hO:S1.used x.2.1=true /\ Opn S (frS S1 x.2.1) (h + 1) p t key (A ++ B:List (Kid h)):=by subst htt; exact Opn.kidNone hT hR hz
 obtain ⟨ka,kc,k1⟩:=hK.rd.keys
 rw [hz] at k1
 obtain ⟨t0,t1⟩:=hB.blk.cells
 have hAl:i <= 65536:=by
  have h1:=hT.fit
  rw [htt] at h1
  have h2:=size_len (nd (h + 1) (A ++ x :: B:List (Kid h)))
  rw [nd_lenS,List.length_append] at h2; omega
 have hNx:=hN
 rw [show nd (h + 1) (A ++ x :: B:List (Kid h))=.inner (A.map (fun x:Kid h=>(x.1,x.2.1)) ++ (x.1,x.2.1) :: B.map (fun x:Kid h=>(x.1,x.2.1))) by simp [nd]] at hNx
 obtain ⟨g3,off,cap3,k3,k2⟩:=kids_at hNx.rd
 rw [List.length_map,List.length_map] at k3
 rw [List.length_map] at k2
 have hlt:(i:Int) < ((A.length + 1 + B.length:Nat):Int):=by omega
 rw [hi] at k2
 have FREE:Hid (Calls Tryz.prog 132 #[.pointer (some ⟨rb,0,none⟩),.int .i64 (x.2.1:Int)] W.drew fun e w'=>e=.returned (.int .i64 0) /\ (w'.cell? ⟨tb,0,none⟩=some (.pointer (some ⟨rb,0,none⟩)) /\ w'.cell? ⟨q,3,none⟩=some (.slice (some ⟨g3,off,none⟩) (A.length + 1 + B.length) cap3) /\ w'.cell? ⟨g3,off + i,none⟩=some (.int .i64 (x.2.1:Int))) /\ Hid (∃ G',TBase w0 w' G0 G' tb rb place n (m + 1) (frS S1 x.2.1) /\ Turn G G' W w')):=Hd (by
  have hd:=(Below.refl W.heap.size W).drew
  refine (tail_free (hB.below hd) (by omega) hO.1).mono ?_
  rintro e w' ⟨rfl,G8,b8,tn8⟩
  have tn:Turn G G8 W w':=tn8.below_left hd
  refine ⟨rfl,⟨b8.blk.cells.1,?_,?_⟩,G8,b8,tn⟩
  ·obtain ⟨F,⟨vk,vv,vi,a⟩,b⟩:=hN
   exact (World.cell?_of_block (tn.upd.block q (lt_of_heap a.blk) (b q ((a.own q).2 (.inl rfl))).2)).trans k3
  ·obtain ⟨F,⟨vk,vv,vi,a⟩,b⟩:=hN
   have e3:=cell_lit (i:=3) a.blk rfl
   rw [k3] at e3
   have e4:vi.ownBlock=some g3:=by cases e3; rfl
   exact (World.cell?_of_block (tn.upd.block g3 (World.block_lt_of_cell? _ _ k2) (b g3 ((a.own g3).2 (.inr (.inr (.inr e4))))).2)).trans k2)
 have HO:=Hd hO.2
 have HNX:=Hd hNx
 have HB:=Hd hB
 have HI:=Hd hi
 have MU:=must_c
 generalize A.length + 1 + B.length=NN at *
 clear hO hN hNx hB hi hT hR hz hK htt hm
 go_enter Tryz.func181,Tryz.ntmps181
 go_wp2_with fail
 go_region_held3 (fun w'=>w'.cell? ⟨tb,0,none⟩=some (.pointer (some ⟨rb,0,none⟩)) /\ w'.cell? ⟨q,3,none⟩=some (.slice (some ⟨g3,off,none⟩) NN cap3) /\ w'.cell? ⟨g3,off + i,none⟩=some (.int .i64 (x.2.1:Int))) (go_keep) ((first
  | (go_at_call 132
     refine Calls.at_args FREE.out (by with_reducible rfl) ?_
     rintro e w8 ⟨rfl,hkf,HFR⟩)
  | (go_at_call 131; refine (MU _).mono ?_; rintro e w9 ⟨rfl,rfl⟩)))
 all_goals (
  obtain ⟨G8,b8,tn8⟩:=HFR.out
  have B8:=Hd b8
  have hn8:=HNX.out.turn tn8
  obtain ⟨F8,y1,y2⟩:=hn8
  have RM:=remove_inner F8 q (A.map (fun x:Kid h=>(x.1,x.2.1))) (B.map (fun x:Kid h=>(x.1,x.2.1))) (x.1,x.2.1) _ y1 (by have:=HI.out; simp; omega)
  rw [List.length_map,HI.out] at RM
  have RM2:=Hd RM
  have Y2:=Hd y2
  clear y1 y2 b8 tn8 RM HFR FREE hkf t0 t1 k3 k2 hlt k1
  go_wp2_with fail
  refine RM2.out.mono ?_
  rintro e w10 ⟨rfl,HG10⟩
  obtain ⟨F10,z1,z2,hu10⟩:=HG10.out
  have B10:=Hd (B8.out.node hu10 Y2.out)
  have N10:=Hd (Nod.go (w0:=w0) (G:=G8) Y2.out HG10.out B8.out.room.lt B8.out.up.size)
  clear RM2 HG10 hu10 z1 z2 Y2 B8
  go_wp2_with fail
  first | go_end0 | refine bodyPost_ret (results_none rfl _ _ _) rfl ?_
  exact ⟨rfl,_,_,(A ++ B:List (Kid h)),B10.out.more (by omega),(by rw [nd_away]; exact N10.out),HO.out⟩)
theorem tidy_c (w0 W:World) (G0 G:Nat -> Prop) (tb rb place n m:Nat) (S S1:RS) (q qk:Nat) {h p:Nat} {key:ByteArray} (A B:List (Kid h)) (x:Kid h) (t':PT h) (hB:TBase w0 W G0 G tb rb place n m S1) (hN:Nod w0 W G q (nd (h + 1) (A ++ x :: B:List (Kid h)))) (hK:Nod w0 W G qk (nd h t')) (hT:Tr S (h + 1) p (A ++ x :: B:List (Kid h))) (hR:RemOne S S1 h x.2.1 x.2.2 key t') (hm:m <= 3998000) :
 Calls Tryz.prog 181 #[.pointer (some ⟨tb,0,none⟩),.pointer (some ⟨q,0,none⟩),.int .i64 (A.length:Nat),.pointer (some ⟨qk,0,none⟩)] W fun e w'=>e=.returned (.tuple #[]) /\ Hid (TidyEnd w0 w' G0 tb rb place n m S q h p (A ++ x :: B:List (Kid h)) key):=by
 by_cases hz:0 < (nd h t').len
 ·exact tidy_some w0 W G0 G tb rb place n m S S1 q qk A B x t' A.length rfl hB hN hK _ rfl hT hR hz hm
 ·exact tidy_none w0 W G0 G tb rb place n m S S1 q qk A B x t' A.length rfl hB hN hK _ rfl hT hR (by omega) hm
def RemEnd (w w':World) (G:Nat -> Prop) (tb rb place n m m':Nat) (S:RS) (h p:Nat) (t:PT h) (key:ByteArray) (q:Nat) (was:Bool):Prop :=
 if was then ∃ S' G' u,TBase w w' G G' tb rb place n m' S' /\ Nod w w' G' q (nd h u) /\ RemOne S S' h p t key u
 else TBase w w' G G tb rb place n m S /\ ∀ e ∈ ents h t,e.1 ≠ key
theorem remove_c:∀ (h:Nat) (G:Nat -> Prop) (tb rb place n m:Nat) (S:RS) (p:Nat) (t:PT h) (key:ByteArray) (deep:Nat) (w:World) (_:RmS w G rb n m S) (_:TB w tb rb place) (_:¬ G tb) (_:Tr S h p t) (_:deep + h <= 20) (_:m + 8 * (h + 1) <= 3998000),
 Calls Tryz.prog 130 #[.pointer (some ⟨tb,0,none⟩),.int .i64 (p:Int),.string key,.int .i64 (deep:Int)] w fun e w'=>∃ (was:Bool) (q:Nat),e=.returned (.tuple #[.bool was,.pointer (some ⟨q,0,none⟩)]) /\ Hid (RemEnd w w' G tb rb place n m (m + 8 * (h + 1)) S h p t key q was)
 | 0,G,tb,rb,place,n,m,S,p,t,key,deep,w,h,ht,hg,hT,hdp,hm=>by
   have hnot:∀ (x:Bool) (w:World),(Op.unary .not (.bool x)).run Tryz.prog w=.ok (.bool (!x)) w:=fun _ _=>rfl
   have RD:=Hd (read_c G tb rb place n m S p (nd 0 t) w h ht (by omega) hT.ok hT.fit hT.on.top.1 hT.on.top.2)
   have B0:=Hd (TBase.start h ht hg)
   have HM1:Hid (m <= 3999000):=Hd (by omega)
   have HM2:Hid (m + 1 <= m + 8 * (0 + 1)):=Hd (by omega)
   have HM3:Hid (m <= m + 8 * (0 + 1)):=Hd (by omega)
   have HG:=Hd h.lt
   have hd1:¬ (20:Int) < (deep:Int):=by omega
   obtain ⟨A,B,rfl,hA,hB,hor⟩:=lb_split t key hT.wf.srt
   have HT:=Hd hT
   have HL:Hid ((Nd.leaf (A ++ B)).len <= 1000000):=Hd (Nat.le_of_lt (Nat.lt_trans hT.ok.few (by decide)))
   have HPOS:Hid (0 < (Nd.leaf (A ++ B)).len):=Hd hT.pos
   have HA:=Hd hA
   have HB:=Hd hB
   have hAl:A.length <= 65536:=by have:=hT.ok.few; rw [nd_len0,List.length_append] at this; omega
   clear h ht hg hT hm hA hB hdp
   rcases hor with ⟨v,B',rfl,hB'⟩ | hB'
   ·have OP:=Hd (Opn.leaf HT.out)
    clear hB'
    go_enter Tryz.func130,Tryz.ntmps130
    go_wp2_with fail
    refine RD.out.mono ?_
    rintro e w1 ⟨q,rfl,HQ⟩
    obtain ⟨F,x1,x2,x3⟩:=HQ.out
    have N1:=Hd (Nod.start (w0:=w) (G:=G) x1 x2 HG.out)
    have B1:=Hd (B0.out.below x3)
    obtain ⟨vk,vv,vi,hv1⟩:=N1.out.rd.view
    have c0:w1.cell? ⟨q,0,none⟩=some (.bool true):=cell_lit hv1.blk rfl
    have FD:=Hd (find_c true q (.leaf (A ++ (key,v) :: B')) vk vv vi (A.map Prod.fst) (key :: B'.map Prod.fst) key w1 hv1 (by simp [Nd.keys]) HPOS.out HL.out (fun a ha=>by obtain ⟨e,he,rfl⟩:=List.mem_map.1 ha; exact HA.out e he) (fun b hb=>by
     rcases List.mem_cons.1 hb with rfl | hb
     ·exact kless_irrefl _
     ·obtain ⟨e,he,rfl⟩:=List.mem_map.1 hb; exact HB.out e (by simp [he])) ⟨fun _=>⟨_,rfl⟩,fun _=>rfl⟩)
    rw [List.length_map] at FD
    clear x1 x2 x3 HQ hv1 RD B0
    go_wp2_with fail
    refine FD.out.mono ?_
    rintro e w2 ⟨rfl,qn,rfl⟩
    have N2:=N1.out.below (drewN_below w1 qn)
    have B2:=B1.out.below (drewN_below w1 qn)
    generalize w1.drewN qn=w2 at *
    obtain ⟨F2,y1,y2⟩:=N2
    have RM:=Hd (remove_leaf F2 q A B' (key,v) w2 y1 (by omega))
    have Y2:=Hd y2
    have B2':=Hd B2
    clear y1 y2 B2 N1 B1 FD c0
    go_wp2_with fail
    refine RM.out.mono ?_
    rintro e w3 ⟨rfl,HI⟩
    have NT:Hid (Nod w w3 G q (nd 0 (A ++ B'))):=Hd (Nod.go Y2.out HI.out B2'.out.room.lt B2'.out.up.size)
    have BT:=Hd (B2'.out.node (by obtain ⟨F',a,b,c⟩:=HI.out; exact c) Y2.out)
    clear RM Y2 B2' HI
    obtain ⟨ka,kc,k1⟩:=NT.out.rd.keys
    by_cases hz:0 < (nd 0 (A ++ B')).len
    ·have hI:(0:Int) < (((nd 0 (A ++ B')).len:Nat):Int):=by omega
     have okU:(nd 0 (A ++ B')).Ok:=OP.out.wf.ok hz (Nat.le_trans OP.out.siz (by decide))
     have TW:=Hd (tail_write BT.out p NT.out.rd okU OP.out.siz OP.out.use HM1.out)
     have HZ:=Hd hz
     clear hz okU
     go_wp2_with fail
     refine TW.out.mono ?_
     rintro e w8 ⟨rfl,HW⟩
     obtain ⟨G8,b8,tn8⟩:=HW.out
     have HB8:=Hd (b8.more HM2.out)
     have HN8:=Hd (NT.out.turn tn8)
     clear TW HW b8 tn8 k1 hI
     go_wp2_with fail
     go_ret2
     refine ⟨true,q,rfl,?_⟩
     show Hid (if true=true then _ else _)
     rw [if_pos rfl]
     exact Hd ⟨_,G8,_,HB8.out,HN8.out,OP.out.written HZ.out⟩
    ·have hI:¬ (0:Int) < (((nd 0 (A ++ B')).len:Nat):Int):=by omega
     have HZ:=Hd hz
     clear hz
     go_wp2_with fail
     go_ret2
     refine ⟨true,q,rfl,?_⟩
     show Hid (if true=true then _ else _)
     rw [if_pos rfl]
     exact Hd ⟨_,_,_,BT.out.more HM3.out,NT.out,OP.out,fun h=>absurd h HZ.out⟩
   ·have HB2:=Hd hB'
    clear hB'
    go_enter Tryz.func130,Tryz.ntmps130
    go_wp2_with fail
    refine RD.out.mono ?_
    rintro e w1 ⟨q,rfl,HQ⟩
    obtain ⟨F,x1,x2,x3⟩:=HQ.out
    have N1:=Hd (Nod.start (w0:=w) (G:=G) x1 x2 HG.out)
    have B1:=Hd (B0.out.below x3)
    obtain ⟨vk,vv,vi,hv1⟩:=N1.out.rd.view
    have c0:w1.cell? ⟨q,0,none⟩=some (.bool true):=cell_lit hv1.blk rfl
    have FD:=Hd (find_c false q (.leaf (A ++ B)) vk vv vi (A.map Prod.fst) (B.map Prod.fst) key w1 hv1 (by simp [Nd.keys]) HPOS.out HL.out (fun a ha=>by obtain ⟨e,he,rfl⟩:=List.mem_map.1 ha; exact HA.out e he) (fun b hb=>by obtain ⟨e,he,rfl⟩:=List.mem_map.1 hb; exact HB.out e he) ⟨(fun e=>by cases e),(fun ⟨B',e⟩=>by
     have hm:key ∈ B.map Prod.fst:=by rw [e]; simp
     obtain ⟨e',he,he2⟩:=List.mem_map.1 hm
     have:=HB2.out e' he
     rw [he2,kless_irrefl] at this; cases this)⟩)
    rw [List.length_map] at FD
    clear x1 x2 x3 HQ hv1 RD B0
    go_wp2_with fail
    refine FD.out.mono ?_
    rintro e w2 ⟨rfl,qn,rfl⟩
    have B2:=Hd (B1.out.below (drewN_below w1 qn))
    generalize w1.drewN qn=w2 at *
    clear N1 B1 FD c0
    go_wp2_with fail
    go_ret2
    refine ⟨false,q,rfl,?_⟩
    show Hid (if false=true then _ else _)
    rw [if_neg (by simp)]
    refine Hd ⟨B2.out,fun e he=>?_⟩
    rcases List.mem_append.1 (show e ∈ A ++ B from he) with he | he
    ·exact kless_ne (HA.out e he)
    ·exact fun e'=>kless_ne (HB2.out e he) e'.symm
 | hh + 1,G,tb,rb,place,n,m,S,p,t,key,deep,w,h,ht,hg,hT,hdp,hm=>by
   have hnot:∀ (x:Bool) (w:World),(Op.unary .not (.bool x)).run Tryz.prog w=.ok (.bool (!x)) w:=fun _ _=>rfl
   have RD:=Hd (read_c G tb rb place n m S p (nd (hh + 1) t) w h ht (by omega) hT.ok hT.fit hT.on.top.1 hT.on.top.2)
   have B0:=Hd (TBase.start h ht hg)
   have HM1:Hid (m + 8 * (hh + 1) + 4 <= 3999000):=Hd (by omega)
   have HM2:Hid (m + 8 * (hh + 1) + 4 + 1 <= m + 8 * (hh + 1 + 1)):=Hd (by omega)
   have HM3:Hid (m + 8 * (hh + 1) + 4 <= m + 8 * (hh + 1 + 1)):=Hd (by omega)
   have HM4:Hid (m + 8 * (hh + 1) <= 3998000):=Hd (by omega)
   have HG:=Hd h.lt
   have hd1:¬ (20:Int) < (deep:Int):=by omega
   have hd2:deep <= 20:=by omega
   have hlenO:=hT.ok.few
   have hpos:=hT.pos
   rw [nd_lenS] at hpos
   obtain ⟨A,x,B,rfl,hW,hA⟩:=way_split t key (hT.wf.2.keys fun x hx=>ents_pos (hT.wf.1 x hx).2.2.2.2 (hT.wf.1 x hx).2.2.1) hpos
   have hk:=hT.kid (x:=x) (by simp)
   have IH:Hid (∀ W G2,TBase w W G G2 tb rb place n m S -> Calls Tryz.prog 130 #[.pointer (some ⟨tb,0,none⟩),.int .i64 (x.2.1:Int),.string key,.int .i64 ((deep:Int) + 1)] W fun e w'=>∃ (was:Bool) (q:Nat),e=.returned (.tuple #[.bool was,.pointer (some ⟨q,0,none⟩)]) /\ Hid (RemEnd W w' G2 tb rb place n m (m + 8 * (hh + 1)) S hh x.2.1 x.2.2 key q was)):=Hd fun W G2 hB=>by
    have:=remove_c hh G2 tb rb place n m S x.2.1 x.2.2 key (deep + 1) W hB.room hB.blk hB.gt hk (by omega) (by omega)
    rw [show ((deep + 1:Nat):Int)=(deep:Int) + 1 by omega] at this
    exact this
   have HT:=Hd hT
   have HW:=Hd hW
   have HA:=Hd hA
   have HLEN:=Hd hlenO
   clear h ht hg hT hm hW hA hdp hk hpos hlenO
   go_enter Tryz.func130,Tryz.ntmps130
   go_wp2_with fail
   refine RD.out.mono ?_
   rintro e w1 ⟨q,rfl,HQ⟩
   obtain ⟨F,x1,x2,x3⟩:=HQ.out
   have N1:=Hd (Nod.start (w0:=w) (G:=G) x1 x2 HG.out)
   have B1:=Hd (B0.out.below x3)
   obtain ⟨vk,vv,vi,hv1⟩:=N1.out.rd.view
   have c0:w1.cell? ⟨q,0,none⟩=some (.bool false):=cell_lit hv1.blk rfl
   have WN:=Hd (way_nd N1.out.rd (Nat.le_of_lt (Nat.lt_trans HLEN.out (by decide))) HW.out HA.out)
   clear x1 x2 x3 HQ hv1 RD B0
   go_wp2_with fail
   refine WN.out.mono ?_
   rintro e w2 ⟨rfl,hb⟩
   have N2:=Hd (N1.out.below hb.out)
   have B2:=Hd (B1.out.below hb.out)
   have hN2:=N2.out.rd
   rw [show nd (hh + 1) (A ++ x :: B:List (Kid hh))=.inner (A.map (fun x:Kid hh=>(x.1,x.2.1)) ++ (x.1,x.2.1) :: B.map (fun x:Kid hh=>(x.1,x.2.1))) by simp [nd]] at hN2
   obtain ⟨g3,off,cap3,k1,k2⟩:=kids_at hN2
   rw [List.length_map,List.length_map] at k1
   rw [List.length_map] at k2
   have hlt:(A.length:Int) < ((A.length + 1 + B.length:Nat):Int):=by omega
   have hlA:A.length <= 65536:=by have:=HLEN.out; rw [nd_lenS,List.length_append,List.length_cons] at this; omega
   have IH2:=Hd (IH.out w2 G B2.out)
   clear hN2 IH N1 B1 WN c0 hb
   go_wp2_with fail
   refine IH2.out.mono ?_
   rintro e w3 ⟨was,qk,rfl,HP⟩
   clear IH2 k1 k2
   cases was with
   | false =>
     have hif:=HP.out
     unfold RemEnd at hif
     rw [if_neg (by simp)] at hif
     have HB3:=Hd (B2.out.trans hif.1)
     have HNO:=Hd hif.2
     clear hif HP
     go_wp2_with fail
     go_ret2
     refine ⟨false,q,rfl,?_⟩
     show Hid (if false=true then _ else _)
     rw [if_neg (by simp)]
     refine Hd ⟨HB3.out,fun e he=>?_⟩
     obtain ⟨w1,w2⟩:=HT.out.wf.2.way HW.out
     rw [ents_mid] at he
     rcases List.mem_append.1 he with he | he
     ·obtain ⟨y,hy,he⟩:=(ents_mem hh A e).1 he
      exact kless_ne (w1 y hy e he)
     ·rcases List.mem_append.1 he with he | he
      ·exact HNO.out e he
      ·obtain ⟨y,hy,he⟩:=(ents_mem hh B e).1 he
       exact fun e'=>kless_ne (w2 y hy e he) e'.symm
   | true =>
     have hif:=HP.out
     unfold RemEnd at hif
     rw [if_pos rfl] at hif
     obtain ⟨S3,G3,u3,b3,n3,r3⟩:=hif
     have TD:=Hd (tidy_c w w3 G G3 tb rb place n (m + 8 * (hh + 1)) S S3 q qk A B x u3 (B2.out.trans b3) (N2.out.turn b3.turn) (n3.base B2.out.up.size) HT.out r3 HM4.out)
     clear b3 n3 r3 HP N2 B2
     go_wp2_with fail
     refine TD.out.mono ?_
     rintro e w4 ⟨rfl,HTD⟩
     obtain ⟨S4,G4,u4,b4,n4,o4⟩:=HTD.out
     have BT:=Hd b4
     have NT:=Hd n4
     have OP:=Hd o4
     clear TD HTD b4 n4 o4
     obtain ⟨ka,kc,k1⟩:=NT.out.rd.keys
     by_cases hz:0 < (nd (hh + 1) u4).len
     ·have hI:(0:Int) < (((nd (hh + 1) u4).len:Nat):Int):=by omega
      have okU:(nd (hh + 1) u4).Ok:=OP.out.wf.ok hz (Nat.le_trans OP.out.siz (by decide))
      have TW:=Hd (tail_write BT.out p NT.out.rd okU OP.out.siz OP.out.use HM1.out)
      have HZ:=Hd hz
      clear hz okU
      go_wp2_with fail
      refine TW.out.mono ?_
      rintro e w8 ⟨rfl,HW⟩
      obtain ⟨G8,b8,tn8⟩:=HW.out
      have HB8:=Hd (b8.more HM2.out)
      have HN8:=Hd (NT.out.turn tn8)
      clear TW HW b8 tn8 k1 hI
      go_wp2_with fail
      go_ret2
      refine ⟨true,q,rfl,?_⟩
      show Hid (if true=true then _ else _)
      rw [if_pos rfl]
      exact Hd ⟨_,G8,_,HB8.out,HN8.out,OP.out.written HZ.out⟩
     ·have hI:¬ (0:Int) < (((nd (hh + 1) u4).len:Nat):Int):=by omega
      have HZ:=Hd hz
      clear hz
      go_wp2_with fail
      go_ret2
      refine ⟨true,q,rfl,?_⟩
      show Hid (if true=true then _ else _)
      rw [if_pos rfl]
      exact Hd ⟨_,_,_,BT.out.more HM3.out,NT.out,OP.out,fun h=>absurd h HZ.out⟩
theorem FrmT.then {place:Nat} {P P1 P2:List Nat} {S S1 S2:RS} (a:FrmT place P P1 S S1) (b:Frm P1 P2 S1 S2):FrmT place P P2 S S2:=by
 refine ⟨fun q h u=>?_,fun q u=>?_,fun k hk=>(congrFun b.root k).trans (a.root k hk)⟩
 ·obtain ⟨h1,u1,c1⟩:=a.keep q h u
  obtain ⟨h2,u2,c2⟩:=b.keep q h1 u1
  exact ⟨h2,u2,c2.trans c1⟩
 ·rcases b.back q u with h | ⟨u1,h1⟩
  ·exact .inl h
  ·rcases a.back q u1 with h | h
   ·exact absurd h h1
   ·exact .inr h
theorem FrmT.root' {place:Nat} {P P1:List Nat} {S S1:RS} (a:FrmT place P P1 S S1) (v:Nat):FrmT place P P1 S (setRootS S1 place v) :=
 ⟨a.keep,a.back,fun k hk=>by show upd S1.root place v k=_; unfold upd; rw [if_neg hk]; exact a.root k hk⟩
structure RootSt (place n cr wr:Nat) (S S':RS) (P:List Nat) (E:List (ByteArray × ByteArray)) (h p:Nat) (u:PT h):Prop where
 wf:Wf h u
 siz:(nd h u).size <= 512
 kid:Kids S' h u
 nod:(p :: low h u).Nodup
 use:S'.used p=true
 cont:0 < (nd h u).len -> S'.cont p=pad (ofL (nd h u).bytes)
 root:S'.root place=p + 1
 frm:FrmT place P (p :: low h u) S S'
 ents:ents h u=E
 spr:∀ c,Spare S n c -> Spare S' n c
 crd:4 * h + 6 <= cr + 1 \/ (1 <= h /\ 4 * h + min 6 (nd h u).len <= cr)
 crp:5 <= cr
 wtl:wt h u <= wr
theorem RootSt.start {place n:Nat} {S S':RS} {h p:Nat} {t u:PT h} {key:ByteArray} (H:RemOne S S' h p t key u) (hr:S.root place=p + 1) (hp:0 < (nd h t).len):RootSt place n (crO (some ⟨h,p,t⟩)) (wtO (some ⟨h,p,t⟩)) S S' (pgs h p t) (Go.Proofs.YtdcjhpafipbpkaaGreatDoor.ents h u) h p u :=
 ⟨H.op.wf,H.op.siz,H.op.kid,H.op.nod,H.op.use,fun hz=>(H.on hz).top.2,by rw [H.op.frm.root]; exact hr,H.op.frm.toT' place,rfl,H.op.spr n,by
  have:=H.op.lenD
  show 4 * h + 6 <= (if h=0 then 6 else 4 * h + min 6 (nd h t).len) + 1 \/ (1 <= h /\ 4 * h + min 6 (nd h u).len <= (if h=0 then 6 else 4 * h + min 6 (nd h t).len))
  by_cases h0:h=0
  ·left; rw [if_pos h0]; omega
  ·right; rw [if_neg h0]; omega,by
  show 5 <= (if h=0 then 6 else 4 * h + min 6 (nd h t).len)
  split <;> omega,H.op.wtD⟩
theorem RootSt.none {place n:Nat} {S S':RS} {o:Option TT} {E:List (ByteArray × ByteArray)} {h p:Nat} {u:PT h} {cr wr:Nat} (H:RootSt place n cr wr S S' (pgsO o) E h p u) (hz:(nd h u).len=0):MapGo place n S (setRootS (frS S' p) place 0) o Option.none /\ E=[]:=by
 refine ⟨⟨setRoot_at _ _ _,?_⟩,by rw [<- H.ents]; exact ents_nil hz⟩
 have hl:=low_nil hz
 have f:=H.frm
 rw [hl] at f
 exact (f.then (Frm.free [p] [] S' p H.use (fun q=>by simp) (by simp))).root' 0
theorem RootSt.done {place n:Nat} {S S':RS} {o:Option TT} {E:List (ByteArray × ByteArray)} {h p:Nat} {u:PT h} {cr wr:Nat} (H:RootSt place n cr wr S S' (pgsO o) E h p u) (hz:0 < (nd h u).len):MapGo place n S S' o (some ⟨h,p,u⟩) /\ crO (some ⟨h,p,u⟩) <= cr + 1:=by
 refine ⟨⟨⟨H.root,H.wf,hz,H.siz,on_iff.2 ⟨⟨H.use,H.cont hz⟩,H.kid⟩,by rw [pgs_low]; exact H.nod⟩,?_⟩,?_⟩
 ·show FrmT place (pgsO o) (pgs h p u) S S'
  rw [pgs_low]; exact H.frm
 ·show (if h=0 then 6 else 4 * h + min 6 (nd h u).len) <= cr + 1
  rcases H.crd with e | e <;> split <;> omega
theorem RootSt.down {place n:Nat} {S S':RS} {P:List Nat} {E:List (ByteArray × ByteArray)} {h p:Nat} {x:Kid h} {cr wr:Nat} (H:RootSt place n cr wr S S' P E (h + 1) p ([x]:List (Kid h))):S'.used x.2.1=true /\ x.2.1 < 65536 /\ RootSt place n cr wr S (setRootS (frS S' p) place (x.2.1 + 1)) P E h x.2.1 x.2.2:=by
 have hx:=H.wf.1 x (by simp)
 have ox:On S' h x.2.1 x.2.2:=H.kid x (by simp)
 have hl:low (h + 1) ([x]:List (Kid h))=x.2.1 :: low h x.2.2:=by
  rw [<- pgs_low]; simp [low]
 have hn:=H.nod
 rw [hl] at hn
 obtain ⟨n1,n2⟩:=List.nodup_cons.1 hn
 have keep:∀ q ∈ x.2.1 :: low h x.2.2,(setRootS (frS S' p) place (x.2.1 + 1)).used q=S'.used q /\ (setRootS (frS S' p) place (x.2.1 + 1)).cont q=S'.cont q:=fun q hq=>by
  refine ⟨?_,rfl⟩
  show flip S'.used p q=_
  unfold flip; rw [if_neg (fun e:q=p=>n1 (by rw [<- e]; exact hq))]
 have ox':On (setRootS (frS S' p) place (x.2.1 + 1)) h x.2.1 x.2.2:=ox.frame fun q hq=>keep q (by rw [<- pgs_low]; exact hq)
 refine ⟨ox.top.1,hx.2.1,hx.2.2.2.2,hx.2.2.2.1,(on_iff.1 ox').2,n2,ox'.top.1,fun _=>ox'.top.2,setRoot_at _ _ _,?_,by rw [<- H.ents]; simp [Go.Proofs.YtdcjhpafipbpkaaGreatDoor.ents],fun c hc=>(H.spr c hc).freeS H.use,by
  have e1:(nd (h + 1) ([x]:List (Kid h))).len=1:=by rw [nd_lenS]; rfl
  have:=H.crd
  rw [e1] at this
  left; omega,H.crp,by
  have:=H.wtl
  rw [wt_cons] at this
  have h2:=Nat.le_max_right (2 ^ h) (wt h x.2.2)
  omega⟩
 have f:=H.frm
 rw [hl] at f
 exact (f.then (Frm.free _ (x.2.1 :: low h x.2.2) S' p H.use (fun q=>by simp) n1)).root' _
def DelGo (place n:Nat) (S S':RS) (o o':Option TT) (key:ByteArray):Prop :=
 MapGo place n S S' o o' /\ Del key (entsO o) (entsO o') /\ hgtO o' <= hgtO o /\ (∀ c,Spare S n c -> Spare S' n c) /\ crO o' <= crO o + 1 /\ wtO o' <= wtO o
def DelEnd (w w':World) (G:Nat -> Prop) (rb n m place:Nat) (S:RS) (o:Option TT) (key:ByteArray) (was:Bool):Prop :=
 if was then ∃ S' o',StGo w w' G rb n (m + 300) S' /\ DelGo place n S S' o o' key else StGo w w' G rb n (m + 300) S /\ ∀ e ∈ entsO o,e.1 ≠ key
structure DelLoc (W:World) (b tb:Nat) (x:Bool):Prop where
 b0:W.heap[b]?=some (.cells #[.pointer (some ⟨tb,0,none⟩)] 103 (0,0))
 b1:W.heap[b + 1]?=some (.cells #[.bool x] 4 (0,0))
 b2:W.heap[b + 1 + 1]?=some (.cells #[.int .i64 0] 34 (0,0))
theorem DelLoc.upd {W W':World} {b tb:Nat} {x:Bool} {G:Nat -> Prop} (h:DelLoc W b tb x) (hu:Upd G W W') (hn:∀ k,b <= k -> k < b + 4 -> ¬ G k):DelLoc W' b tb x :=
 ⟨hu.at h.b0 (hn _ (by omega) (by omega)),hu.at h.b1 (hn _ (by omega) (by omega)),hu.at h.b2 (hn _ (by omega) (by omega))⟩
theorem DelLoc.below {W W':World} {b tb:Nat} {x:Bool} (h:DelLoc W b tb x) (hb:Below W.heap.size W W'):DelLoc W' b tb x:=h.upd (hb.upd' (Nat.le_refl _)) (fun _ _ _ e=>e)
theorem DelLoc.cells {W:World} {b tb:Nat} {x:Bool} (h:DelLoc W b tb x):W.cell? ⟨b,0,none⟩=some (.pointer (some ⟨tb,0,none⟩)) /\ W.cell? ⟨b + 1,0,none⟩=some (.bool x) /\ W.cell? ⟨b + 1 + 1,0,none⟩=some (.int .i64 0) /\ W.frozen? ⟨b + 1,0,none⟩=false /\ W.frozen? ⟨b + 1 + 1,0,none⟩=false /\ b < W.heap.size :=
 ⟨cell_lit h.b0 rfl,cell_lit h.b1 rfl,cell_lit h.b2 rfl,frozen_lit h.b1 0,frozen_lit h.b2 0,lt_of_heap h.b0⟩
theorem DelLoc.setW {W:World} {b tb:Nat} {x:Bool} (h:DelLoc W b tb x) (y:Bool):DelLoc (W.setCell ⟨b + 1,0,none⟩ (.bool y)) b tb y :=
 ⟨(heap_set_ne _ (by omega)).trans h.b0,heap_set_lit h.b1 _,(heap_set_ne _ (by omega)).trans h.b2⟩
theorem DelLoc.setE {W:World} {b tb:Nat} {x:Bool} (h:DelLoc W b tb x):DelLoc (W.setCell ⟨b + 1 + 1,0,none⟩ (.int .i64 0)) b tb x :=
 ⟨(heap_set_ne _ (by omega)).trans h.b0,(heap_set_ne _ (by omega)).trans h.b1,heap_set_lit h.b2 _⟩
def delW (w:World) (tb:Nat) (k:Int):World:=(((w.alloc (.cells #[.pointer (some ⟨tb,0,none⟩)] 103)).alloc (.cells #[.bool false] 4)).alloc (.cells #[.int .i64 0] 34)).alloc (.cells #[.int .i64 k] 3)
theorem delW_below (w:World) (tb:Nat) (k:Int):Below w.heap.size w (delW w tb k):=((((Below.refl w.heap.size w).alloc (Nat.le_refl _) _).alloc (by simp) _).alloc (by simp; omega) _).alloc (by simp; omega) _
theorem delW_size (w:World) (tb:Nat) (k:Int):(delW w tb k).heap.size=w.heap.size + 4:=by unfold delW; simp
theorem delW_loc (w:World) (tb:Nat) (k:Int):DelLoc (delW w tb k) w.heap.size tb false:=by
 refine ⟨?_,?_,?_⟩
 ·unfold delW; rw [heap_alloc_at,if_neg (by simp; omega),heap_alloc_at,if_neg (by simp; omega),heap_alloc_at,if_neg (by simp),heap_alloc_new]
 ·unfold delW; rw [heap_alloc_at,if_neg (by first | (simp; done) | (simp; omega)),heap_alloc_at,if_neg (by first | (simp; done) | (simp; omega)),heap_alloc_at,if_pos (by simp)]
 ·unfold delW; rw [heap_alloc_at,if_neg (by simp),heap_alloc_at,if_pos (by simp)]
structure StG (w W:World) (G G':Nat -> Prop) (rb n m:Nat) (S:RS):Prop where
 room:RmS W G' rb n m S
 up:Upd G w W
 sub:∀ k,G' k -> G k \/ w.heap.size <= k
theorem StG.go {w W:World} {G G':Nat -> Prop} {rb n m:Nat} {S:RS} (h:StG w W G G' rb n m S):StGo w W G rb n m S:=⟨G',h.room,h.up,h.sub⟩
theorem StG.of {w W0 W:World} {G G':Nat -> Prop} {tb rb place n m:Nat} {S:RS} (h:TBase W0 W G G' tb rb place n m S) (hb:Below w.heap.size w W0):StG w W G G' rb n m S:=by
 refine ⟨h.room,((hb.upd' (Nat.le_refl _)).mono (S':=G) fun _ _ e=>False.elim e).trans h.up,fun k hk=>?_⟩
 rcases h.sub k hk with e | e
 ·exact .inl e
 ·have:=hb.size; exact .inr (by omega)
theorem StG.loc {w W:World} {G G':Nat -> Prop} {rb n m:Nat} {S:RS} (h:StG w W G G' rb n m S) {x:Nat} (hx:w.heap.size <= x) (hn:¬ G' x) (i:Nat) (v:Value):StG w (W.setCell ⟨x,i,none⟩ v) G G' rb n m S:=by
 have hu:Upd (fun k=>k=x) W (W.setCell ⟨x,i,none⟩ v):=Upd.setCell (S:=fun k=>k=x) (Upd.refl _ _) (p:=⟨x,i,none⟩) (.inl rfl) v
 exact ⟨h.room.frame hu fun k hk e=>hn (e ▸ hk),h.up.trans' hu fun j hj e=>absurd e (by omega),h.sub⟩
theorem StG.then {w W W':World} {G G' G'':Nat -> Prop} {tb rb place n m m':Nat} {S S':RS} (h:StG w W G G' rb n m S) (b:TBase W W' G' G'' tb rb place n m' S'):StG w W' G G'' rb n m' S':=by
 have hs:=h.up.size
 refine ⟨b.room,h.up.trans' b.up fun j hj e=>(h.sub j e).resolve_right (by omega),fun k hk=>?_⟩
 rcases b.sub k hk with e | e
 ·exact h.sub k e
 ·exact .inr (by omega)
theorem StG.more {w W:World} {G G':Nat -> Prop} {rb n m m':Nat} {S:RS} (h:StG w W G G' rb n m S) (hm:m <= m'):StG w W G G' rb n m' S:=⟨h.room.more hm,h.up,h.sub⟩
theorem RdN.loc {w0 W:World} {G:Nat -> Prop} {q:Nat} {d:Nd} (h:RdN w0 W G q d) {x:Nat} (hx:x < w0.heap.size) (i:Nat) (v:Value):RdN w0 (W.setCell ⟨x,i,none⟩ v) G q d:=by
 obtain ⟨F,a,b⟩:=h
 exact ⟨F,a.upd (S:=fun k=>k=x) (Upd.setCell (S:=fun k=>k=x) (Upd.refl _ _) (p:=⟨x,i,none⟩) (.inl rfl) v) fun k hk _ e=>by have:=(b k hk).1; omega,b⟩
end Go.Proofs.YtdcjhpafipbpkaaGreatDoor
