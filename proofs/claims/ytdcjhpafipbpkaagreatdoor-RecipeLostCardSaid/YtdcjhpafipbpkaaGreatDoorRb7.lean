/- Parts of the proof of RecipeBuilds, joined: TreeZ, MapA, MapB, DelA, DelB, DelC, DelD, DelE, DelF. No condition. -/
import Derived.Test.YtdcjhpafipbpkaaGreatDoorRb6
set_option linter.unusedSimpArgs false
set_option linter.unusedVariables false
set_option linter.unusedSectionVars false
namespace Go.Proofs.YtdcjhpafipbpkaaGreatDoor
set_option maxRecDepth 100000
set_option maxHeartbeats 1000000
open Go.RowKit
structure TT where
  h : Nat
  p : Nat
  t : PT h
def TreeSt (S : RS) (place : Nat) : Option TT → Prop
  | none => S.root place = 0
  | some T => S.root place = T.p + 1 ∧ Tr S T.h T.p T.t
def entsO : Option TT → List (ByteArray × ByteArray)
  | none => []
  | some T => ents T.h T.t
def pgsO : Option TT → List Nat
  | none => []
  | some T => pgs T.h T.p T.t
def singO : Option TT → Nat
  | none => 0
  | some T => sing T.h T.t
def hgtO : Option TT → Nat
  | none => 0
  | some T => T.h
def wtO : Option TT → Nat
  | none => 0
  | some T => wt T.h T.t
def crO : Option TT → Nat
  | none => 6
  | some T => if T.h = 0 then 6 else 4 * T.h + min 6 (nd T.h T.t).len
structure FrmT (place : Nat) (P P' : List Nat) (S S' : RS) : Prop where
  keep : ∀ q, q ∉ P → S.used q = true → q ∉ P' ∧ S'.used q = true ∧ S'.cont q = S.cont q
  back : ∀ q, S'.used q = true → q ∈ P' ∨ (S.used q = true ∧ q ∉ P)
  root : ∀ k, k ≠ place → S'.root k = S.root k
theorem Frm.toT {P P' : List Nat} {S S' : RS} (place v : Nat) (h : Frm P P' S S') : FrmT place P P' S (setRootS S' place v) :=
  ⟨h.keep, h.back, fun k hk => by show upd S'.root place v k = _; unfold upd; rw [if_neg hk, h.root]⟩
theorem Frm.toT' {P P' : List Nat} {S S' : RS} (place : Nat) (h : Frm P P' S S') : FrmT place P P' S S' := ⟨h.keep, h.back, fun k _ => by rw [h.root]⟩
theorem Tr.root {S : RS} {h p : Nat} {t : PT h} (H : Tr S h p t) (place v : Nat) : Tr (setRootS S place v) h p t := H.frame fun q _ => ⟨rfl, rfl⟩
theorem setRoot_at (S : RS) (place v : Nat) : (setRootS S place v).root place = v := by show upd S.root place v place = v; unfold upd; rw [if_pos rfl]
theorem mark_s (G : Nat → Prop) (rb n m : Nat) (S : RS) (w : World) (h : RmS w G rb n m S) : Calls Tryz.prog 114 #[.pointer (some ⟨rb, 0, none⟩)] w fun e w' => ∃ k : Nat, e = .returned (.int .i64 (k : Int)) ∧ w' = w := by
  obtain ⟨puts, h1, h2, h3⟩ := h
  refine (RMark_c G rb n puts w h2).mono ?_
  rintro e w' ⟨rfl, rfl⟩
  exact ⟨_, rfl, rfl⟩
theorem heap_alloc_at (w : World) (o : Obj) (k : Nat) : (w.alloc o).heap[k]? = if k = w.heap.size then some o else w.heap[k]? := by
  by_cases h : k = w.heap.size
  · rw [if_pos h, h]; exact heap_alloc_new w o
  · rw [if_neg h]; show (w.heap.push o)[k]? = _; rw [Array.getElem?_push, if_neg h]
theorem heap_drew (w : World) (k : Nat) : w.drew.heap[k]? = w.heap[k]? := rfl
structure PutLoc (W : World) (b tb : Nat) : Prop where
  b0 : W.heap[b]? = some (.cells #[.pointer (some ⟨tb, 0, none⟩)] 103 (0, 0))
  b1 : W.heap[b + 1]? = some (.cells #[.int .i64 0] 34 (0, 0))
theorem PutLoc.upd {W W' : World} {b tb : Nat} {G : Nat → Prop} (h : PutLoc W b tb) (hu : Upd G W W') (h0 : ¬ G b) (h1 : ¬ G (b + 1)) : PutLoc W' b tb :=
  ⟨hu.at h.b0 h0, hu.at h.b1 h1⟩
theorem PutLoc.below {W W' : World} {b tb : Nat} (h : PutLoc W b tb) (hb : Below W.heap.size W W') : PutLoc W' b tb := h.upd (hb.upd' (Nat.le_refl _)) (fun e => e) (fun e => e)
theorem PutLoc.cells {W : World} {b tb : Nat} (h : PutLoc W b tb) : W.cell? ⟨b, 0, none⟩ = some (.pointer (some ⟨tb, 0, none⟩)) ∧ W.cell? ⟨b + 1, 0, none⟩ = some (.int .i64 0) ∧ W.frozen? ⟨b + 1, 0, none⟩ = false ∧ b < W.heap.size ∧ b + 1 < W.heap.size :=
  ⟨cell_lit h.b0 rfl, cell_lit h.b1 rfl, frozen_lit h.b1 0, lt_of_heap h.b0, lt_of_heap h.b1⟩
def putW (w : World) (tb : Nat) (k : Int) : World := ((w.alloc (.cells #[.pointer (some ⟨tb, 0, none⟩)] 103)).alloc (.cells #[.int .i64 0] 34)).alloc (.cells #[.int .i64 k] 3)
theorem putW_below (w : World) (tb : Nat) (k : Int) : Below w.heap.size w (putW w tb k) := (((Below.refl w.heap.size w).alloc (Nat.le_refl _) _).alloc (by simp) _).alloc (by simp; omega) _
theorem putW_size (w : World) (tb : Nat) (k : Int) : (putW w tb k).heap.size = w.heap.size + 3 := by unfold putW; simp
theorem putW_loc (w : World) (tb : Nat) (k : Int) : PutLoc (putW w tb k) w.heap.size tb := by
  refine ⟨?_, ?_⟩
  · unfold putW; rw [heap_alloc_at, if_neg (by simp; omega), heap_alloc_at, if_neg (by simp), heap_alloc_new]
  · unfold putW; rw [heap_alloc_at, if_neg (by simp), heap_alloc_at, if_pos (by simp)]
theorem TBase.fin {w W0 W : World} {G G' : Nat → Prop} {tb rb place n m : Nat} {S : RS} (h : TBase W0 W G G' tb rb place n m S) (hb : Below w.heap.size w W0) (hG : ∀ k, G k → k < w.heap.size) {x : Nat} (hx : w.heap.size ≤ x) (hx2 : x < W0.heap.size) (i : Nat) (v : Value) :
    StGo w (W.setCell ⟨x, i, none⟩ v) G rb n m S := by
  have hnx : ¬ G' x := fun e => by
    rcases h.sub x e with e | e
    · have := hG x e; omega
    · omega
  have hu : Upd (fun k => k = x) W (W.setCell ⟨x, i, none⟩ v) := Upd.setCell (S := fun k => k = x) (Upd.refl _ _) (p := ⟨x, i, none⟩) (.inl rfl) v
  refine ⟨G', h.room.frame hu fun k hk e => hnx (e ▸ hk), ?_, fun k hk => ?_⟩
  · have u1 : Upd G w W := ((hb.upd' (Nat.le_refl _)).mono (S' := G) fun _ _ e => False.elim e).trans h.up
    exact u1.trans' hu fun j hj e => absurd e (by omega)
  · rcases h.sub k hk with e | e
    · exact .inl e
    · have := hb.size; exact .inr (by omega)
structure MapGo (place n : Nat) (S S' : RS) (o o' : Option TT) : Prop where
  st : TreeSt S' place o'
  frm : FrmT place (pgsO o) (pgsO o') S S'
def PutGo (place n : Nat) (S S' : RS) (o o' : Option TT) (key val : ByteArray) : Prop :=
  MapGo place n S S' o o' ∧ Ins key val (entsO o) (entsO o') ∧ singO o' ≤ singO o ∧ hgtO o' ≤ hgtO o + 1 ∧ (∀ c, Spare S n (c + hgtO o + 2) → Spare S' n c) ∧ crO o' ≤ crO o + 1 ∧ (hgtO o' ≤ hgtO o ∨ 6 * hgtO o + 3 ≤ (pgsO o').length) ∧ wtO o' ≤ wtO o + 1
theorem pgs_many : ∀ {h p : Nat} {t : PT h} (_ : Wf h t), 1 + (nd h t).len * h ≤ (pgs h p t).length
  | 0, _, _, _ => by simp [pgs]
  | h + 1, p, l, H => by
    obtain ⟨l', hl⟩ : ∃ l' : List (Kid h), l' = l := ⟨l, rfl⟩
    subst hl
    have hs : ∀ (l : List (Kid h)) (_ : ∀ x ∈ l, 0 < (nd h x.2.2).len ∧ Wf h x.2.2), l.length * (h + 1) ≤ (List.flatMap (fun x : Kid h => pgs h x.2.1 x.2.2) l).length := by
      intro l
      induction l with
      | nil => intro _; simp
      | cons x l ih =>
        intro hx
        have h1 := pgs_many (p := x.2.1) (hx x (by simp)).2
        have h2 := (hx x (by simp)).1
        have h3 := ih fun y hy => hx y (by simp [hy])
        have h4 : h ≤ (nd h x.2.2).len * h := Nat.le_mul_of_pos_left h h2
        rw [List.flatMap_cons, List.length_append, List.length_cons, Nat.add_mul]
        omega
    have := hs l' fun x hx => ⟨(H.1 x hx).2.2.1, (H.1 x hx).2.2.2.2⟩
    rw [nd_lenS, pgs_low, List.length_cons, Nat.add_comm]
    exact Nat.succ_le_succ this
theorem new_leaf {S : RS} {n place r : Nat} {key val : ByteArray} (hr : S.root place = 0) (hks : key.size ≤ 96) (hvs : val.size ≤ 56) (hu : S.used r = false) :
    PutGo place n S (setRootS (wrS (allocS S r) r (.leaf [(key, val)])) place (r + 1)) none (some ⟨0, r, [(key, val)]⟩) key val := by
  have hw : Wf 0 [(key, val)] := ⟨fun e he => by simp at he; rw [he]; exact ⟨hks, hvs⟩, List.pairwise_singleton _ _⟩
  have T := Tr.fresh (S := S) (h := 0) (p := r) (t := [(key, val)]) hw (by rw [nd_len0]; exact Nat.zero_lt_one) (by rw [nd_leaf, size_leaf]; simp [esL]; omega) trivial (by simp [low]) hu
  have f := (Frm.alloc [] S r hu).trans (Frm.write [r] _ r (nd 0 [(key, val)]) (by simp))
  refine ⟨⟨⟨setRoot_at _ _ _, T.root place (r + 1)⟩, f.toT place (r + 1)⟩, ⟨[], [], rfl, .inl rfl, by simp, by simp⟩, Nat.le_refl _, by simp [hgtO], fun c hc => ?_, by simp [crO], .inl (by simp [hgtO]), by simp [wtO, wt]⟩
  exact ((hc.less (by omega) : Spare S n (c + 1)).alloc hu)
theorem new_root {S S1 : RS} {n place r h p : Nat} {t : PT h} {key val k : ByteArray} {q : Nat} {t1 t2 : PT h} (K : PutTwo S S1 h p t key val k q t1 t2) (hp : p < 65536) (hu : S1.used r = false) :
    PutGo place n S (setRootS (wrS (allocS S1 r) r (.inner [(ByteArray.empty, p), (k, q)])) place (r + 1)) (some ⟨h, p, t⟩) (some ⟨h + 1, r, [(ByteArray.empty, p, t1), (k, q, t2)]⟩) key val := by
  have hw : Wf (h + 1) [(ByteArray.empty, p, t1), (k, q, t2)] := by
    refine ⟨fun x hx => ?_, ?_, ?_⟩
    · simp at hx
      rcases hx with rfl | rfl
      · exact ⟨(by show ByteArray.empty.size ≤ 96; decide), hp, K.tr1.pos, K.tr1.fit, K.tr1.wf⟩
      · exact ⟨K.ksz, K.qlt, K.tr2.pos, K.tr2.fit, K.tr2.wf⟩
    · refine List.pairwise_cons.2 ⟨fun y hy => ?_, List.pairwise_singleton _ _⟩
      simp at hy; subst hy; exact K.lo
    · intro y hy; simp at hy; subst hy; exact K.hi
  have hk : Kids S1 (h + 1) [(ByteArray.empty, p, t1), (k, q, t2)] := fun x hx => by
    simp at hx
    rcases hx with rfl | rfl
    · exact K.tr1.on
    · exact K.tr2.on
  have hn : (low (h + 1) [(ByteArray.empty, p, t1), (k, q, t2)]).Nodup := by simpa [low] using K.nod
  have e : nd (h + 1) [(ByteArray.empty, p, t1), (k, q, t2)] = .inner [(ByteArray.empty, p), (k, q)] := rfl
  have T := Tr.fresh (S := S1) (p := r) hw (by rw [nd_lenS]; exact Nat.zero_lt_succ _) (by rw [e, size_inner]; have := K.ksz; simp [esI]; omega) hk hn hu
  rw [e] at T
  have f := (K.frm.trans (Frm.alloc _ S1 r hu)).trans (Frm.write _ _ r (.inner [(ByteArray.empty, p), (k, q)]) (by simp))
  have hpg : pgs (h + 1) r [(ByteArray.empty, p, t1), (k, q, t2)] = r :: (pgs h p t1 ++ pgs h q t2) := by simp [pgs]
  refine ⟨⟨⟨setRoot_at _ _ _, T.root place (r + 1)⟩, ?_⟩, ?_, ?_, Nat.le_refl _, fun c hc => ?_, ?_, .inr ?_, ?_⟩
  · show FrmT place (pgs h p t) (pgs (h + 1) r _) S _
    rw [hpg]; exact f.toT place (r + 1)
  · show Ins key val (ents h t) (ents (h + 1) [(ByteArray.empty, p, t1), (k, q, t2)])
    have : ents (h + 1) [(ByteArray.empty, p, t1), (k, q, t2)] = ents h t1 ++ ents h t2 := by simp [ents]
    rw [this]; exact K.ins
  · have := K.sng
    show sing (h + 1) [(ByteArray.empty, p, t1), (k, q, t2)] ≤ sing h t
    simp [sing]; exact this
  · exact ((K.spr n (c + 1) (by have : hgtO (some ⟨h, p, t⟩) = h := rfl; rw [this] at hc; exact hc.less (by omega))).alloc hu)
  · have e1 : (nd (h + 1) [(ByteArray.empty, p, t1), (k, q, t2)]).len = 2 := by rw [nd_lenS]; rfl
    show (if h + 1 = 0 then 6 else 4 * (h + 1) + min 6 (nd (h + 1) [(ByteArray.empty, p, t1), (k, q, t2)]).len) ≤ (if h = 0 then 6 else 4 * h + min 6 (nd h t).len) + 1
    rw [e1]
    by_cases h0 : h = 0
    · subst h0; simp
    · have := K.five (by omega)
      rw [if_neg h0, if_neg (by omega)]; omega
  · have g1 := pgs_many (p := p) K.tr1.wf
    have g2 := pgs_many (p := q) K.tr2.wf
    show 6 * h + 3 ≤ (pgs (h + 1) r [(ByteArray.empty, p, t1), (k, q, t2)]).length
    rw [hpg, List.length_cons, List.length_append]
    by_cases h0 : h = 0
    · subst h0; omega
    · have g3 := Nat.mul_le_mul_right h (K.six (by omega))
      rw [Nat.add_mul] at g3
      omega
  · obtain ⟨u1, u2, u3⟩ := K.wtU
    show wt (h + 1) ([(ByteArray.empty, p, t1), (k, q, t2)] : List (Kid h)) ≤ wt h t + 1
    rw [wt_cons, wt_cons]
    show max (2 ^ h) (wt h t1) + (max (2 ^ h) (wt h t2) + 0) ≤ _
    rw [Nat.max_eq_right u2, Nat.max_eq_right u3]; omega
theorem old_root {S S1 : RS} {n place h p : Nat} {t t' : PT h} {key val : ByteArray} (K : PutOne S S1 h p t key val t') (hr : S.root place = p + 1) :
    PutGo place n S S1 (some ⟨h, p, t⟩) (some ⟨h, p, t'⟩) key val :=
  ⟨⟨⟨by rw [K.frm.root]; exact hr, K.tr⟩, K.frm.toT' place⟩, K.ins, K.sng, by simp [hgtO], fun c hc => K.spr n c (by have : hgtO (some ⟨h, p, t⟩) = h := rfl; rw [this] at hc; exact hc.less (by omega)), by
    show (if h = 0 then 6 else 4 * h + min 6 (nd h t').len) ≤ (if h = 0 then 6 else 4 * h + min 6 (nd h t).len) + 1
    have := K.lenU
    split <;> omega, .inl (by simp [hgtO]), K.wtU⟩
theorem rd_leaf {w0 W : World} {G : Nat → Prop} {q a b : Nat} {key val : ByteArray} (h : W.heap[q]? = some (.cells #[.bool true, .slice (some ⟨a, 0, none⟩) 1 1, .slice (some ⟨b, 0, none⟩) 1 1, .slice none 0 0] 222 (0, 0))) (ha : W.heap[a]? = some (.cells #[.string key] 9 (0, 0))) (hb : W.heap[b]? = some (.cells #[.string val] 9 (0, 0)))
    (hn : w0.heap.size ≤ q ∧ w0.heap.size ≤ a ∧ w0.heap.size ≤ b) (hG : ∀ k, G k → k < w0.heap.size) : RdN w0 W G q (.leaf [(key, val)]) := by
  refine ⟨fun k => w0.heap.size ≤ k, ⟨_, _, _, ⟨h, ?_, ?_, .inl ⟨rfl, rfl⟩⟩, fun k hk => ?_⟩, fun k hk => ⟨hk, fun e => by have := hG k e; omega⟩⟩
  · exact .inr ⟨a, 0, 1, rfl, by simp [Nd.keys], fun i hi => by
      have : i = 0 := by simpa [Nd.keys] using hi
      subst this; exact cell_lit ha rfl⟩
  · exact .inr ⟨b, 0, 1, rfl, by simp [Nd.vals], fun i hi => by
      have : i = 0 := by simpa [Nd.vals] using hi
      subst this; exact cell_lit hb rfl⟩
  · rcases hk with e | e | e | e
    · exact ⟨by rw [e]; exact lt_of_heap h, by rw [e]; exact hn.1⟩
    · simp [Value.ownBlock] at e; subst e; exact ⟨lt_of_heap ha, hn.2.1⟩
    · simp [Value.ownBlock] at e; subst e; exact ⟨lt_of_heap hb, hn.2.2⟩
    · simp [Value.ownBlock] at e
theorem rd_root {w0 W : World} {G : Nat → Prop} {q a b p r : Nat} {k : ByteArray} (h : W.heap[q]? = some (.cells #[.bool false, .slice (some ⟨a, 0, none⟩) 2 2, .slice none 0 0, .slice (some ⟨b, 0, none⟩) 2 2] 222 (0, 0))) (ha : W.heap[a]? = some (.cells #[.string ⟨#[]⟩, .string k] 9 (0, 0))) (hb : W.heap[b]? = some (.cells #[.int .i64 (p : Int), .int .i64 (r : Int)] 3 (0, 0)))
    (hn : w0.heap.size ≤ q ∧ w0.heap.size ≤ a ∧ w0.heap.size ≤ b) (hG : ¬ G q ∧ ¬ G a ∧ ¬ G b) : RdN w0 W G q (.inner [(ByteArray.empty, p), (k, r)]) := by
  refine ⟨fun j => j = q ∨ j = a ∨ j = b, ⟨_, _, _, ⟨h, ?_, .inl ⟨rfl, rfl⟩, ?_⟩, fun k hk => ?_⟩, fun j hj => ?_⟩
  · exact .inr ⟨a, 0, 2, rfl, by simp [Nd.keys], fun i hi => by
      have : i = 0 ∨ i = 1 := by have : i < 2 := by simpa [Nd.keys] using hi
                                 omega
      rcases this with rfl | rfl
      · exact cell_lit ha rfl
      · exact cell_lit ha rfl⟩
  · exact .inr ⟨b, 0, 2, rfl, by simp [Nd.kids], fun i hi => by
      have : i = 0 ∨ i = 1 := by have : i < 2 := by simpa [Nd.kids] using hi
                                 omega
      rcases this with rfl | rfl
      · exact cell_lit hb rfl
      · exact cell_lit hb rfl⟩
  · rcases hk with e | e | e | e
    · exact ⟨by rw [e]; exact lt_of_heap h, .inl e⟩
    · simp [Value.ownBlock] at e; subst e; exact ⟨lt_of_heap ha, .inr (.inl rfl)⟩
    · simp [Value.ownBlock] at e
    · simp [Value.ownBlock] at e; subst e; exact ⟨lt_of_heap hb, .inr (.inr rfl)⟩
  · rcases hj with rfl | rfl | rfl
    · exact ⟨hn.1, hG.1⟩
    · exact ⟨hn.2.1, hG.2.1⟩
    · exact ⟨hn.2.2, hG.2.2⟩
theorem loc_of {w W0 W : World} {G G' : Nat → Prop} {tb rb place n m : Nat} {S : RS} {b : Nat} (hL : PutLoc W0 b tb) (hB : TBase W0 W G G' tb rb place n m S) (h0 : ¬ G b) (h1 : ¬ G (b + 1)) : PutLoc W b tb := hL.upd hB.up h0 h1
theorem alloc3 (w : World) (o1 o2 o3 : Obj) : (((w.alloc o1).alloc o2).alloc o3).drew.heap[w.heap.size]? = some o1 ∧ (((w.alloc o1).alloc o2).alloc o3).drew.heap[w.heap.size + 1]? = some o2 ∧ (((w.alloc o1).alloc o2).alloc o3).drew.heap[w.heap.size + 1 + 1]? = some o3 ∧ Below w.heap.size w (((w.alloc o1).alloc o2).alloc o3).drew := by
  refine ⟨?_, ?_, ?_, ((((Below.refl w.heap.size w).alloc (Nat.le_refl _) _).alloc (by simp) _).alloc (by simp; omega) _).drew⟩
  · rw [heap_drew, heap_alloc_at, if_neg (by simp; omega), heap_alloc_at, if_neg (by simp), heap_alloc_new]
  · rw [heap_drew, heap_alloc_at, if_neg (by simp), heap_alloc_at, if_pos (by simp)]
  · rw [heap_drew, heap_alloc_at, if_pos (by simp)]
theorem setRoot_t {w0 W : World} {G0 G : Nat → Prop} {tb rb place n m : Nat} {S : RS} (hB : TBase w0 W G0 G tb rb place n m S) (hp : place < 16) (hm : m ≤ 3999000) (r : Nat) (hr : r < 65536) :
    Calls Tryz.prog 126 #[.pointer (some ⟨tb, 0, none⟩), .int .i64 (r : Int)] W fun e w' => e = .returned (.tuple #[]) ∧ Hid (∃ G', TBase w0 w' G0 G' tb rb place n (m + 1) (setRootS S place (r + 1)) ∧ Turn G G' W w') := by
  have := setRoot_c G tb rb place n m S (r + 1) W hB.room hB.blk hB.gt hp (by omega) (by omega)
  rw [show (((r + 1 : Nat) : Int) - 1) = (r : Int) by omega] at this
  refine this.mono ?_
  rintro e w' ⟨rfl, hg⟩
  exact ⟨rfl, hB.step hg⟩
def PutEnd (w w' : World) (G : Nat → Prop) (rb n m place : Nat) (S : RS) (o : Option TT) (key val : ByteArray) : Prop := ∃ S' o', StGo w w' G rb n (m + 100) S' ∧ PutGo place n S S' o o' key val
theorem Put_new (G : Nat → Prop) (tb rb place n m : Nat) (S : RS) (key val : ByteArray) (w : World) (h : RmS w G rb n m S) (ht : TB w tb rb place) (hg : ¬ G tb) (hp : place < 16) (hm : m ≤ 3900000) (hks : key.size ≤ 96) (hvs : val.size ≤ 56) (hr : S.root place = 0) (hsp : Spare S n 1) :
    Calls Tryz.prog 71 #[.pointer (some ⟨tb, 0, none⟩), .string key, .string val] w fun e w' => e = .returned (.int .i64 0) ∧ Hid (PutEnd w w' G rb n m place S none key val) := by
  have hmf : ∀ (fn : Fn) (first cap : Array Value) (w : World), (Instr.makeFunc fn first cap).run Tryz.prog w = .ok (.func fn first cap) w := fun _ _ _ _ => rfl
  have htl := lt_of_heap ht
  obtain ⟨c0, c1⟩ := ht.cells
  have hb3 := fun k => putW_below w tb k
  have d0 : (((w.alloc (.cells #[.pointer (some ⟨tb, 0, none⟩)] 103)).alloc (.cells #[.int .i64 0] 34)).alloc (.cells #[.int .i64 0] 3)).cell? ⟨tb, 0, none⟩ = some (.pointer (some ⟨rb, 0, none⟩)) := (World.cell?_of_block ((hb3 0).block tb htl)).trans c0
  have M3 : Hid (Calls Tryz.prog 114 #[.pointer (some ⟨rb, 0, none⟩)] (((w.alloc (.cells #[.pointer (some ⟨tb, 0, none⟩)] 103)).alloc (.cells #[.int .i64 0] 34)).alloc (.cells #[.int .i64 0] 3)) fun e w' => ∃ k : Nat, e = .returned (.int .i64 (k : Int)) ∧ w' = (((w.alloc (.cells #[.pointer (some ⟨tb, 0, none⟩)] 103)).alloc (.cells #[.int .i64 0] 34)).alloc (.cells #[.int .i64 0] 3))) := Lib.hid (mark_s G rb n m S _ (h.below (hb3 0)))
  have hk1 : ¬ (96 : Int) < (key.size : Int) := by omega
  have hk2 : ¬ (56 : Int) < (val.size : Int) := by omega
  have HG := Lib.hid h.lt
  have HSP := Lib.hid hsp
  have HKS := Lib.hid hks
  have HVS := Lib.hid hvs
  have HR := Lib.hid hr
  have B0 : Hid (∀ k : Int, TBase (putW w tb k) (putW w tb k) G G tb rb place n m S) := Lib.hid fun k => TBase.start (h.below (hb3 k)) (ht.below (hb3 k)) hg
  have HP := Lib.hid hp
  have HM := Lib.hid hm
  clear h ht hg hp hm hks hvs hr hsp hb3 c1
  go_enter_defers Tryz.func71, Tryz.ntmps71
  go_wp2_with fail
  refine M3.out.mono ?_
  rintro e w1 ⟨k, rfl, rfl⟩
  clear M3 d0
  go_wp2_with fail
  have BW := Lib.hid (B0.out (k : Int))
  have LW := Lib.hid (putW_loc w tb (k : Int))
  have SW := Lib.hid (putW_size w tb (k : Int))
  have BB := Lib.hid (putW_below w tb (k : Int))
  change Calls Tryz.prog 125 #[.pointer (some ⟨tb, 0, none⟩)] (putW w tb (k : Int)) _
  generalize putW w tb (k : Int) = W0 at *
  have RT := root_c G tb rb place n m S W0 BW.out.room BW.out.blk HP.out (by have := HM.out; omega) (by rw [HR.out]; omega)
  rw [HR.out] at RT
  refine RT.mono ?_
  rintro e w2 ⟨rfl, hb⟩
  have B2 := Lib.hid (BW.out.below hb.out)
  have L2 := Lib.hid (LW.out.below hb.out)
  obtain ⟨x0, x1, x2, x3, x4⟩ := L2.out.cells
  have hgB : Hid (¬ G w.heap.size ∧ ¬ G (w.heap.size + 1)) := Lib.hid ⟨fun e => by have := HG.out _ e; omega, fun e => by have := HG.out _ e; omega⟩
  have HS2 : Hid (W0.heap.size ≤ w2.heap.size ∧ ∀ k, G k → k < W0.heap.size) := Lib.hid ⟨hb.out.size, fun k hk => by have := HG.out k hk; have := SW.out; omega⟩
  have FR : Hid (∀ W q a b, Below w2.heap.size w2 W → W.heap[q]? = some (.cells #[.bool true, .slice (some ⟨a, 0, none⟩) 1 1, .slice (some ⟨b, 0, none⟩) 1 1, .slice none 0 0] 222 (0, 0)) → W.heap[a]? = some (.cells #[.string key] 9 (0, 0)) → W.heap[b]? = some (.cells #[.string val] 9 (0, 0)) → w2.heap.size ≤ q ∧ w2.heap.size ≤ a ∧ w2.heap.size ≤ b →
      Calls Tryz.prog 127 #[.pointer (some ⟨tb, 0, none⟩), .pointer (some ⟨q, 0, none⟩)] W fun e w' => ∃ r : Nat, e = .returned (.int .i64 (r : Int)) ∧ w'.cell? ⟨w.heap.size, 0, none⟩ = some (.pointer (some ⟨tb, 0, none⟩)) ∧ Hid (r < 65536 ∧ S.used r = false ∧ ∃ G', TBase W0 w' G G' tb rb place n (m + 3) (wrS (allocS S r) r (.leaf [(key, val)])))) := Lib.hid fun W q a b hW h1 h2 h3 h4 => by
    have hs := HS2.out
    have hrd : RdN W0 W G q (.leaf [(key, val)]) := rd_leaf h1 h2 h3 ⟨by omega, by omega, by omega⟩ hs.2
    have hw : Wf 0 [(key, val)] := ⟨fun e he => by simp at he; rw [he]; exact ⟨HKS.out, HVS.out⟩, List.pairwise_singleton _ _⟩
    have hk := HKS.out
    have hv := HVS.out
    have hsz : (Nd.leaf [(key, val)]).size ≤ 512 := by rw [size_leaf]; simp [esL]; omega
    have hok : (Nd.leaf [(key, val)]).Ok := hw.ok (by rw [nd_len0]; exact Nat.zero_lt_one) (Nat.le_trans hsz (by decide))
    refine (tail_fresh (B2.out.below hW) hrd hok hsz (by have := HM.out; omega) HSP.out.free).mono ?_
    rintro e w' ⟨r, rfl, a1, a2, G', a3, a4⟩
    refine ⟨r, rfl, (L2.out.upd (hW.upd' (Nat.le_refl _)) (fun e => e) (fun e => e) |>.upd a4.upd hgB.out.1 hgB.out.2).cells.1, ?_, a2, G', a3⟩
    have := a3.room.bounds; unfold pagesN at a1; omega
  have SR : Hid (∀ r W, Hid (r < 65536 ∧ S.used r = false ∧ ∃ G', TBase W0 W G G' tb rb place n (m + 3) (wrS (allocS S r) r (.leaf [(key, val)]))) → Calls Tryz.prog 126 #[.pointer (some ⟨tb, 0, none⟩), .int .i64 (r : Int)] W fun e w' => e = .returned (.tuple #[]) ∧ (w'.cell? ⟨w.heap.size, 0, none⟩ = some (.pointer (some ⟨tb, 0, none⟩))) ∧ (w'.cell? ⟨w.heap.size + 1, 0, none⟩ = some (.int .i64 0) ∧ w'.frozen? ⟨w.heap.size + 1, 0, none⟩ = false) ∧ Hid (∃ G', TBase W0 w' G G' tb rb place n (m + 4) (setRootS (wrS (allocS S r) r (.leaf [(key, val)])) place (r + 1)))) := Lib.hid fun r W hW => by
    obtain ⟨a1, a2, G', a3⟩ := hW.out
    refine (setRoot_t a3 HP.out (by have := HM.out; omega) r a1).mono ?_
    rintro e w' ⟨rfl, G2, b1, b2⟩
    have := (loc_of (w := w) LW.out b1 hgB.out.1 hgB.out.2).cells
    exact ⟨rfl, this.1, ⟨this.2.1, this.2.2.1⟩, G2, b1⟩
  clear RT hb
  go_wp2_with fail
  go_region_held3 (fun w' => w'.cell? ⟨w.heap.size, 0, none⟩ = some (.pointer (some ⟨tb, 0, none⟩))) (first | (go_keep; done) | exact (World.cell?_of_block ((alloc3 w2 _ _ _).2.2.2.block _ x3)).trans x0) ((first
    | (go_at_call 127
       refine Calls.at_args (FR.out _ (w2.heap.size + 1 + 1) w2.heap.size (w2.heap.size + 1) (alloc3 _ _ _ _).2.2.2 (alloc3 _ _ _ _).2.2.1 (alloc3 _ _ _ _).1 (alloc3 _ _ _ _).2.1 ⟨by omega, by omega, by omega⟩) (by with_reducible rfl) ?_
       rintro e w3 ⟨r, rfl, hl, HF⟩)
    | (go_at_call 127
       refine Calls.at_args (FR.out _ (w2.heap.size + 1 + 1) (w2.heap.size + 1) w2.heap.size (alloc3 _ _ _ _).2.2.2 (alloc3 _ _ _ _).2.2.1 (alloc3 _ _ _ _).2.1 (alloc3 _ _ _ _).1 ⟨by omega, by omega, by omega⟩) (by with_reducible rfl) ?_
       rintro e w3 ⟨r, rfl, hl, HF⟩)
    | (go_at_call 126
       refine Calls.at_args (SR.out r _ HF) (by with_reducible rfl) ?_
       rintro e w4 ⟨rfl, hk4, hl4, HS⟩)))
  all_goals (
    obtain ⟨G4, b4⟩ := HS.out
    have L4 := loc_of (w := w) LW.out b4 hgB.out.1 hgB.out.2
    have hfin : (w4.setCell ⟨w.heap.size + 1, 0, none⟩ (.int .i64 0)).cell? ⟨w.heap.size + 1, 0, none⟩ = some (.int .i64 0) := cell_lit (heap_set_lit L4.b1 _) rfl
    have hgo := Lib.hid (b4.fin BB.out HG.out (x := w.heap.size + 1) (by omega) (by have := SW.out; omega) 0 (.int .i64 0))
    clear b4 L4 HS FR SR
    go_wp2_with fail
    refine leaves_cons (f := 124) (args := #[.pointer (some ⟨w.heap.size + 1, 0, none⟩)]) (by simp) (by simp [go_sem]) ?_
    refine (guard_idle _ _).mono ?_
    rintro e u' w5 ⟨rfl, rfl, rfl⟩
    refine leaves_cons (f := 123) (args := #[.pointer (some ⟨w.heap.size + 1, 0, none⟩), .pointer (some ⟨w.heap.size, 0, none⟩), .pointer (some ⟨w.heap.size + 1 + 1, 0, none⟩)]) (by simp [settle]) (by simp [go_sem]) ?_
    refine (put1_idle _ _ _ _ _ hfin).mono ?_
    rintro e u' w6 ⟨rfl, rfl, rfl⟩
    have HGO : Hid (PutEnd w (w4.setCell ⟨w.heap.size + 1, 0, none⟩ (.int .i64 0)) G rb n m place S none key val) := Lib.hid (by
      obtain ⟨G5, y1, y2⟩ := hgo.out
      exact ⟨_, _, ⟨G5, y1.more (by omega), y2⟩, new_leaf HR.out HKS.out HVS.out HF.out.2.1⟩)
    simp [Leaves, settle, results, Tryz.results71, go_sem, hfin]
    exact HGO)
theorem Put_old (G : Nat → Prop) (tb rb place n m : Nat) (S : RS) (T : TT) (key val : ByteArray) (w : World) (h : RmS w G rb n m S) (ht : TB w tb rb place) (hg : ¬ G tb) (hp : place < 16) (hm : m ≤ 3900000) (hks : key.size ≤ 96) (hvs : val.size ≤ 56) (hS : TreeSt S place (some T)) (hh : T.h ≤ 20) (hsp : Spare S n (T.h + 2)) :
    Calls Tryz.prog 71 #[.pointer (some ⟨tb, 0, none⟩), .string key, .string val] w fun e w' => e = .returned (.int .i64 0) ∧ Hid (PutEnd w w' G rb n m place S (some T) key val) := by
  have hmf : ∀ (fn : Fn) (first cap : Array Value) (w : World), (Instr.makeFunc fn first cap).run Tryz.prog w = .ok (.func fn first cap) w := fun _ _ _ _ => rfl
  obtain ⟨hh0, p, t⟩ := T
  obtain ⟨hr, hT⟩ := hS
  have hp65 : p < 65536 := by
    have := h.lim p hT.on.top.1
    have := h.bounds
    unfold pagesN at *; omega
  have htl := lt_of_heap ht
  obtain ⟨c0, c1⟩ := ht.cells
  have hb3 := fun k => putW_below w tb k
  have d0 : (((w.alloc (.cells #[.pointer (some ⟨tb, 0, none⟩)] 103)).alloc (.cells #[.int .i64 0] 34)).alloc (.cells #[.int .i64 0] 3)).cell? ⟨tb, 0, none⟩ = some (.pointer (some ⟨rb, 0, none⟩)) := (World.cell?_of_block ((hb3 0).block tb htl)).trans c0
  have M3 : Hid (Calls Tryz.prog 114 #[.pointer (some ⟨rb, 0, none⟩)] (((w.alloc (.cells #[.pointer (some ⟨tb, 0, none⟩)] 103)).alloc (.cells #[.int .i64 0] 34)).alloc (.cells #[.int .i64 0] 3)) fun e w' => ∃ k : Nat, e = .returned (.int .i64 (k : Int)) ∧ w' = (((w.alloc (.cells #[.pointer (some ⟨tb, 0, none⟩)] 103)).alloc (.cells #[.int .i64 0] 34)).alloc (.cells #[.int .i64 0] 3))) := Lib.hid (mark_s G rb n m S _ (h.below (hb3 0)))
  have hk1 : ¬ (96 : Int) < (key.size : Int) := by omega
  have hk2 : ¬ (56 : Int) < (val.size : Int) := by omega
  have HG := Lib.hid h.lt
  have HSP := Lib.hid hsp
  have HKS := Lib.hid hks
  have HVS := Lib.hid hvs
  have HR := Lib.hid hr
  have HT := Lib.hid hT
  have HP65 := Lib.hid hp65
  have HH := Lib.hid hh
  have B0 : Hid (∀ k : Int, TBase (putW w tb k) (putW w tb k) G G tb rb place n m S) := Lib.hid fun k => TBase.start (h.below (hb3 k)) (ht.below (hb3 k)) hg
  have HP := Lib.hid hp
  have HM := Lib.hid hm
  clear h ht hg hp hm hks hvs hr hsp hb3 c1 hT hp65 hh
  go_enter_defers Tryz.func71, Tryz.ntmps71
  go_wp2_with fail
  refine M3.out.mono ?_
  rintro e w1 ⟨k, rfl, rfl⟩
  clear M3 d0
  go_wp2_with fail
  have BW := Lib.hid (B0.out (k : Int))
  have LW := Lib.hid (putW_loc w tb (k : Int))
  have SW := Lib.hid (putW_size w tb (k : Int))
  have BB := Lib.hid (putW_below w tb (k : Int))
  change Calls Tryz.prog 125 #[.pointer (some ⟨tb, 0, none⟩)] (putW w tb (k : Int)) _
  generalize putW w tb (k : Int) = W0 at *
  have RT := root_c G tb rb place n m S W0 BW.out.room BW.out.blk HP.out (by have := HM.out; omega) (by have := HP65.out; rw [HR.out]; omega)
  rw [HR.out, show (((p + 1 : Nat) : Int) - 1) = (p : Int) by omega] at RT
  refine RT.mono ?_
  rintro e w2 ⟨rfl, hb⟩
  have B2 := Lib.hid (BW.out.below hb.out)
  have L2 := Lib.hid (LW.out.below hb.out)
  obtain ⟨x0, x1, x2, x3, x4⟩ := L2.out.cells
  have hgB : Hid (¬ G w.heap.size ∧ ¬ G (w.heap.size + 1)) := Lib.hid ⟨fun e => by have := HG.out _ e; omega, fun e => by have := HG.out _ e; omega⟩
  have PT0 := Lib.hid (put_c hh0 G tb rb place n m S p t key val 0 w2 B2.out.room B2.out.blk B2.out.gt HT.out HKS.out HVS.out (by have := HH.out; omega) (HSP.out.less (by show hh0 + 1 ≤ hh0 + 2; omega)) (by have := HM.out; have : hh0 ≤ 20 := HH.out; omega))
  rw [show ((0 : Nat) : Int) = 0 from rfl] at PT0
  have hp0 : ¬ (p : Int) < 0 := by omega
  clear RT hb
  go_wp2_with fail
  refine PT0.out.mono ?_
  rintro e w3 ⟨kk, q, more, rfl, HPP⟩
  clear PT0 x0 x1 x2 x3 x4
  cases more with
  | false =>
    obtain ⟨S3, hgo3, hif⟩ := HPP.out
    rw [if_neg (by simp)] at hif
    obtain ⟨rfl, rfl, t', K⟩ := hif
    obtain ⟨G3, b3, -⟩ := B2.out.step hgo3
    have L3 := loc_of (w := w) LW.out b3 hgB.out.1 hgB.out.2
    obtain ⟨x0, x1, x2, x3, x4⟩ := L3.cells
    have hfin : (w3.setCell ⟨w.heap.size + 1, 0, none⟩ (.int .i64 0)).cell? ⟨w.heap.size + 1, 0, none⟩ = some (.int .i64 0) := cell_lit (heap_set_lit L3.b1 _) rfl
    have hgo := Lib.hid (b3.fin BB.out HG.out (x := w.heap.size + 1) (by omega) (by have := SW.out; omega) 0 (.int .i64 0))
    have HK := Lib.hid K
    clear b3 L3 HPP hgo3 K
    go_wp2_with fail
    refine leaves_cons (f := 124) (args := #[.pointer (some ⟨w.heap.size + 1, 0, none⟩)]) (by simp) (by simp [go_sem]) ?_
    refine (guard_idle _ _).mono ?_
    rintro e u' w5 ⟨rfl, rfl, rfl⟩
    refine leaves_cons (f := 123) (args := #[.pointer (some ⟨w.heap.size + 1, 0, none⟩), .pointer (some ⟨w.heap.size, 0, none⟩), .pointer (some ⟨w.heap.size + 1 + 1, 0, none⟩)]) (by simp [settle]) (by simp [go_sem]) ?_
    refine (put1_idle _ _ _ _ _ hfin).mono ?_
    rintro e u' w6 ⟨rfl, rfl, rfl⟩
    have HGO : Hid (PutEnd w (w3.setCell ⟨w.heap.size + 1, 0, none⟩ (.int .i64 0)) G rb n m place S (some ⟨hh0, p, t⟩) key val) := Lib.hid (by
      obtain ⟨G5, y1, y2⟩ := hgo.out
      exact ⟨_, _, ⟨G5, y1.more (by have : hh0 ≤ 20 := HH.out; omega), y2⟩, old_root HK.out HR.out⟩)
    simp [Leaves, settle, results, Tryz.results71, go_sem, hfin]
    exact HGO
  | true =>
    obtain ⟨S3, hgo3, hif⟩ := HPP.out
    rw [if_pos rfl] at hif
    obtain ⟨t1, t2, K⟩ := hif
    obtain ⟨G3, b3, -⟩ := B2.out.step hgo3
    have HK := Lib.hid K
    have B3 := Lib.hid b3
    have L3 := Lib.hid (loc_of (w := w) LW.out b3 hgB.out.1 hgB.out.2)
    obtain ⟨x0, x1, x2, x3, x4⟩ := L3.out.cells
    have hg3 : Hid (¬ G3 w.heap.size ∧ ¬ G3 (w.heap.size + 1)) := Lib.hid ⟨fun e => by
      rcases b3.sub _ e with e | e
      · exact hgB.out.1 e
      · have := SW.out; omega, fun e => by
      rcases b3.sub _ e with e | e
      · exact hgB.out.2 e
      · have := SW.out; omega⟩
    have HM3 : Hid (m + 4 * (hh0 + 1) ≤ 3998000) := Lib.hid (by have := HM.out; have : hh0 ≤ 20 := HH.out; omega)
    have HSP3 : Hid (∃ r, r < pagesN n ∧ S3.used r = false) := Lib.hid (by
      have := K.spr n 1 (HSP.out.less (by show 1 + hh0 + 1 ≤ hh0 + 2; omega))
      exact this.free)
    have FR : Hid (∀ W q1 a b, Below w3.heap.size w3 W → W.heap[q1]? = some (.cells #[.bool false, .slice (some ⟨a, 0, none⟩) 2 2, .slice none 0 0, .slice (some ⟨b, 0, none⟩) 2 2] 222 (0, 0)) → W.heap[a]? = some (.cells #[.string ⟨#[]⟩, .string kk] 9 (0, 0)) → W.heap[b]? = some (.cells #[.int .i64 (p : Int), .int .i64 (q : Int)] 3 (0, 0)) → w3.heap.size ≤ q1 ∧ w3.heap.size ≤ a ∧ w3.heap.size ≤ b →
        Calls Tryz.prog 127 #[.pointer (some ⟨tb, 0, none⟩), .pointer (some ⟨q1, 0, none⟩)] W fun e w' => ∃ r : Nat, e = .returned (.int .i64 (r : Int)) ∧ w'.cell? ⟨w.heap.size, 0, none⟩ = some (.pointer (some ⟨tb, 0, none⟩)) ∧ Hid (r < 65536 ∧ S3.used r = false ∧ ∃ G', TBase W0 w' G G' tb rb place n (m + 4 * (hh0 + 1) + 3) (wrS (allocS S3 r) r (.inner [(ByteArray.empty, p), (kk, q)])))) := Lib.hid fun W q1 a b hW h1 h2 h3 h4 => by
      have hs := B3.out.up.size
      have hlt := B3.out.room.lt
      have hrd : RdN W0 W G3 q1 (.inner [(ByteArray.empty, p), (kk, q)]) := rd_root h1 h2 h3 ⟨by omega, by omega, by omega⟩ ⟨fun e => by have := hlt _ e; omega, fun e => by have := hlt _ e; omega, fun e => by have := hlt _ e; omega⟩
      have hk := HK.out.ksz
      have hq := HK.out.qlt
      have hp6 := HP65.out
      have hsz : (Nd.inner [(ByteArray.empty, p), (kk, q)]).size ≤ 512 := by rw [size_inner]; simp [esI]; omega
      have hok : (Nd.inner [(ByteArray.empty, p), (kk, q)]).Ok := by
        refine ⟨by simp [Nd.len, Nd.keys], by simp [Nd.len, Nd.keys], fun x hx => ?_, fun x hx => ?_, fun x hx => ?_⟩
        · simp [Nd.keys] at hx
          rcases hx with rfl | rfl
          · decide
          · exact hk
        · simp [Nd.vals] at hx
        · simp [Nd.kids] at hx
          rcases hx with rfl | rfl <;> omega
      refine (tail_fresh (B3.out.below hW) hrd hok hsz (by have := HM3.out; omega) HSP3.out).mono ?_
      rintro e w' ⟨r, rfl, a1, a2, G', a3, a4⟩
      refine ⟨r, rfl, (L3.out.upd (hW.upd' (Nat.le_refl _)) (fun e => e) (fun e => e) |>.upd a4.upd hg3.out.1 hg3.out.2).cells.1, ?_, a2, G', a3⟩
      have := a3.room.bounds; unfold pagesN at a1; omega
    have SR : Hid (∀ r W, Hid (r < 65536 ∧ S3.used r = false ∧ ∃ G', TBase W0 W G G' tb rb place n (m + 4 * (hh0 + 1) + 3) (wrS (allocS S3 r) r (.inner [(ByteArray.empty, p), (kk, q)]))) → Calls Tryz.prog 126 #[.pointer (some ⟨tb, 0, none⟩), .int .i64 (r : Int)] W fun e w' => e = .returned (.tuple #[]) ∧ (w'.cell? ⟨w.heap.size, 0, none⟩ = some (.pointer (some ⟨tb, 0, none⟩))) ∧ (w'.cell? ⟨w.heap.size + 1, 0, none⟩ = some (.int .i64 0) ∧ w'.frozen? ⟨w.heap.size + 1, 0, none⟩ = false) ∧ Hid (∃ G', TBase W0 w' G G' tb rb place n (m + 4 * (hh0 + 1) + 4) (setRootS (wrS (allocS S3 r) r (.inner [(ByteArray.empty, p), (kk, q)])) place (r + 1)))) := Lib.hid fun r W hW => by
      obtain ⟨a1, a2, G', a3⟩ := hW.out
      refine (setRoot_t a3 HP.out (by have := HM3.out; omega) r a1).mono ?_
      rintro e w' ⟨rfl, G2, b1, b2⟩
      have := (loc_of (w := w) LW.out b1 hgB.out.1 hgB.out.2).cells
      exact ⟨rfl, this.1, ⟨this.2.1, this.2.2.1⟩, G2, b1⟩
    clear b3 hgo3 K HPP B0
    go_wp2_with fail
    go_region_held3 (fun w' => w'.cell? ⟨w.heap.size, 0, none⟩ = some (.pointer (some ⟨tb, 0, none⟩))) (first | (go_keep; done) | exact (World.cell?_of_block ((alloc3 w3 _ _ _).2.2.2.block _ x3)).trans x0) ((first
      | (go_at_call 127
         refine Calls.at_args (FR.out _ (w3.heap.size + 1 + 1) w3.heap.size (w3.heap.size + 1) (alloc3 _ _ _ _).2.2.2 (alloc3 _ _ _ _).2.2.1 (alloc3 _ _ _ _).1 (alloc3 _ _ _ _).2.1 ⟨by omega, by omega, by omega⟩) (by with_reducible rfl) ?_
         rintro e w5 ⟨r, rfl, hl, HF⟩)
      | (go_at_call 127
         refine Calls.at_args (FR.out _ (w3.heap.size + 1 + 1) (w3.heap.size + 1) w3.heap.size (alloc3 _ _ _ _).2.2.2 (alloc3 _ _ _ _).2.2.1 (alloc3 _ _ _ _).2.1 (alloc3 _ _ _ _).1 ⟨by omega, by omega, by omega⟩) (by with_reducible rfl) ?_
         rintro e w5 ⟨r, rfl, hl, HF⟩)
      | (go_at_call 126
         refine Calls.at_args (SR.out r _ HF) (by with_reducible rfl) ?_
         rintro e w4 ⟨rfl, hk4, hl4, HS⟩)))
    all_goals (
      obtain ⟨G4, b4⟩ := HS.out
      have L4 := loc_of (w := w) LW.out b4 hgB.out.1 hgB.out.2
      have hfin : (w4.setCell ⟨w.heap.size + 1, 0, none⟩ (.int .i64 0)).cell? ⟨w.heap.size + 1, 0, none⟩ = some (.int .i64 0) := cell_lit (heap_set_lit L4.b1 _) rfl
      have hgo := Lib.hid (b4.fin BB.out HG.out (x := w.heap.size + 1) (by omega) (by have := SW.out; omega) 0 (.int .i64 0))
      clear b4 L4 HS FR SR
      go_wp2_with fail
      refine leaves_cons (f := 124) (args := #[.pointer (some ⟨w.heap.size + 1, 0, none⟩)]) (by simp) (by simp [go_sem]) ?_
      refine (guard_idle _ _).mono ?_
      rintro e u' w5 ⟨rfl, rfl, rfl⟩
      refine leaves_cons (f := 123) (args := #[.pointer (some ⟨w.heap.size + 1, 0, none⟩), .pointer (some ⟨w.heap.size, 0, none⟩), .pointer (some ⟨w.heap.size + 1 + 1, 0, none⟩)]) (by simp [settle]) (by simp [go_sem]) ?_
      refine (put1_idle _ _ _ _ _ hfin).mono ?_
      rintro e u' w6 ⟨rfl, rfl, rfl⟩
      have HGO : Hid (PutEnd w (w4.setCell ⟨w.heap.size + 1, 0, none⟩ (.int .i64 0)) G rb n m place S (some ⟨hh0, p, t⟩) key val) := Lib.hid (by
        obtain ⟨G5, y1, y2⟩ := hgo.out
        exact ⟨_, _, ⟨G5, y1.more (by have : hh0 ≤ 20 := HH.out; omega), y2⟩, new_root HK.out HP65.out HF.out.2.1⟩)
      simp [Leaves, settle, results, Tryz.results71, go_sem, hfin]
      exact HGO)
section
variable {S S' : RS} {h p : Nat} {A B : List (Kid h)} {x : Kid h} {key : ByteArray}
end
section
variable {S S1 : RS} {h p : Nat} {A B : List (Kid h)} {x y : Kid h} {key : ByteArray} {t : PT (h + 1)}
end
def OneNd (W W' : World) (p : Nat) (d : Nd) : Prop := ∃ F, IsNd W' F p d ∧ (∀ k, F k → W.heap.size ≤ k) ∧ Below W.heap.size W W'
section
variable {w0 W : World} {G0 G : Nat → Prop} {tb rb place n m : Nat} {S : RS}
theorem tail_read {h p : Nat} {t : PT h} (hB : TBase w0 W G0 G tb rb place n m S) (hm : m ≤ 3999000) (hT : On S h p t) (hf : (nd h t).size ≤ 512) (ho : (nd h t).Ok) :
    Calls Tryz.prog 133 #[.pointer (some ⟨tb, 0, none⟩), .int .i64 (p : Int)] W fun e w' => ∃ q, e = .returned (.pointer (some ⟨q, 0, none⟩)) ∧ Hid (OneNd W w' q (nd h t)) := by
  refine (read_c G tb rb place n m S p (nd h t) W hB.room hB.blk (by omega) ho hf hT.top.1 hT.top.2).mono ?_
  rintro e w' ⟨q, rfl, F, a, b, c⟩
  exact ⟨q, rfl, F, a, b, c⟩
end
structure StG (w W : World) (G G' : Nat → Prop) (rb n m : Nat) (S : RS) : Prop where
  room : RmS W G' rb n m S
  up : Upd G w W
  sub : ∀ k, G' k → G k ∨ w.heap.size ≤ k
theorem StG.go {w W : World} {G G' : Nat → Prop} {rb n m : Nat} {S : RS} (h : StG w W G G' rb n m S) : StGo w W G rb n m S := ⟨G', h.room, h.up, h.sub⟩
theorem StG.of {w W0 W : World} {G G' : Nat → Prop} {tb rb place n m : Nat} {S : RS} (h : TBase W0 W G G' tb rb place n m S) (hb : Below w.heap.size w W0) : StG w W G G' rb n m S := by
  refine ⟨h.room, ((hb.upd' (Nat.le_refl _)).mono (S' := G) fun _ _ e => False.elim e).trans h.up, fun k hk => ?_⟩
  rcases h.sub k hk with e | e
  · exact .inl e
  · have := hb.size; exact .inr (by omega)
theorem StG.loc {w W : World} {G G' : Nat → Prop} {rb n m : Nat} {S : RS} (h : StG w W G G' rb n m S) {x : Nat} (hx : w.heap.size ≤ x) (hn : ¬ G' x) (i : Nat) (v : Value) : StG w (W.setCell ⟨x, i, none⟩ v) G G' rb n m S := by
  have hu : Upd (fun k => k = x) W (W.setCell ⟨x, i, none⟩ v) := Upd.setCell (S := fun k => k = x) (Upd.refl _ _) (p := ⟨x, i, none⟩) (.inl rfl) v
  exact ⟨h.room.frame hu fun k hk e => hn (e ▸ hk), h.up.trans' hu fun j hj e => absurd e (by omega), h.sub⟩
end Go.Proofs.YtdcjhpafipbpkaaGreatDoor
