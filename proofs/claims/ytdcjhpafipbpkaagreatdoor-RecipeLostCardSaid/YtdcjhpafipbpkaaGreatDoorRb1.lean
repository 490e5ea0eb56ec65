/- Parts of the proof of RecipeBuilds, joined: Base, BRow, Read, ReadC, FltA, FltB, CutP. No condition. -/
import Derived.WalkKit
import Derived.Lib.Hide
import Derived.Maps.Own
import Derived.Test.YtdcjhpafipbpkaaGreatDoorProg
import Derived.Deep.AppendSrc
import Derived.Laws.AppendOwn
import Derived.WalkSpells
import Derived.Test.YtdcjhpafipbpkaaGreatDoorRows
import Derived.ProofKit
import Derived.OpenShut
import Derived.ChangeOld
import Derived.Below
import Derived.Deep.Slices
import Derived.Laws.FloatArith
import Derived.Laws.ComplexArith
import Derived.Deep.LoopGhost
set_option linter.unusedSimpArgs false
set_option linter.unusedVariables false
set_option linter.unusedSectionVars false
namespace Go.Proofs.YtdcjhpafipbpkaaGreatDoor
open Go.RowKit Go.MapKept
structure Upd (S : Nat → Prop) (w w' : World) : Prop where
  os : w'.os = w.os
  tape : w'.tape = w.tape
  output : w'.output = w.output
  size : w.heap.size ≤ w'.heap.size
  block : ∀ k, k < w.heap.size → ¬ S k → w'.heap[k]? = w.heap[k]?
theorem Upd.refl (S : Nat → Prop) (w : World) : Upd S w w := ⟨rfl, rfl, rfl, Nat.le_refl _, fun _ _ _ => rfl⟩
theorem Upd.mono {S S' : Nat → Prop} {w w' : World} (h : Upd S w w') (hs : ∀ k, k < w.heap.size → S k → S' k) : Upd S' w w' :=
  ⟨h.os, h.tape, h.output, h.size, fun k hk hn => h.block k hk (fun hx => hn (hs k hk hx))⟩
theorem Upd.trans' {S S' : Nat → Prop} {a b c : World} (h : Upd S a b) (k : Upd S' b c) (hs : ∀ j, j < a.heap.size → S' j → S j) : Upd S a c :=
  ⟨k.os.trans h.os, k.tape.trans h.tape, k.output.trans h.output, Nat.le_trans h.size k.size,
   fun i hi hn => (k.block i (Nat.lt_of_lt_of_le hi h.size) (fun hx => hn (hs i hi hx))).trans (h.block i hi hn)⟩
theorem Upd.trans {S : Nat → Prop} {a b c : World} (h : Upd S a b) (k : Upd S b c) : Upd S a c := h.trans' k (fun _ _ x => x)
theorem Upd.alloc {S : Nat → Prop} {a w : World} (h : Upd S a w) (o : Obj) : Upd S a (w.alloc o) :=
  h.trans ⟨rfl, rfl, rfl, by simp, fun k hk _ => Below.heap_alloc _ _ _ hk⟩
theorem Upd.drew {S : Nat → Prop} {a w : World} (h : Upd S a w) : Upd S a w.drew := ⟨h.os, h.tape, h.output, h.size, h.block⟩
theorem Upd.drew_left {S : Nat → Prop} {a w : World} (h : Upd S a.drew w) : Upd S a w := ⟨h.os, h.tape, h.output, h.size, h.block⟩
theorem Upd.setCell {S : Nat → Prop} {a w : World} (h : Upd S a w) {p : Addr} (hp : S p.block ∨ a.heap.size ≤ p.block) (u : Value) : Upd S a (w.setCell p u) :=
  h.trans' (S' := fun k => k = p.block) ⟨rfl, rfl, rfl, by simp, fun k _ hn => Below.heap_setCell _ _ _ _ hn⟩ (fun j hj e => by
    subst e; rcases hp with hp | hp
    · exact hp
    · omega)
theorem Upd.grown {S : Nat → Prop} {a w w' : World} {row : Option Nat} (h : Upd S a w) (hg : w.grownBy w' row) (hr : ∀ k, row = some k → S k ∨ a.heap.size ≤ k) : Upd S a w' :=
  h.trans' (S' := fun k => row = some k) ⟨hg.os, hg.tape, hg.output, hg.size, fun k hk hn => hg.block k hk (fun e => hn e.symm)⟩ (fun j hj e => by
    rcases hr j e with hp | hp
    · exact hp
    · omega)
theorem Upd.below {S : Nat → Prop} {B : Nat} {w w' : World} (h : Upd S w w') (hB : B ≤ w.heap.size) (hS : ∀ k, k < B → ¬ S k) : Below B w w' :=
  ⟨h.os, h.tape, h.output, h.size, fun k hk => h.block k (by omega) (hS k hk)⟩
theorem upd_setCell (w : World) (b i : Nat) (v : Value) : Upd (fun k => k = b) w (w.setCell ⟨b, i, none⟩ v) := (Upd.refl (fun k => k = b) w).setCell (.inl rfl) v
structure Turn (F F' : Nat → Prop) (w w' : World) : Prop where
  upd : Upd F w w'
  sub : ∀ k, F' k → F k ∨ w.heap.size ≤ k
theorem Turn.trans {F F' F'' : Nat → Prop} {a b c : World} (h : Turn F F' a b) (k : Turn F' F'' b c) : Turn F F'' a c :=
  ⟨h.upd.trans' k.upd (fun j hj hx => (h.sub j hx).resolve_right (by omega)), fun j hj => by
    rcases k.sub j hj with hx | hx
    · exact h.sub j hx
    · exact .inr (Nat.le_trans h.upd.size hx)⟩
theorem cell_lit {w : World} {b i : Nat} {cs : Array Value} {T : TypeId} {fr : Nat × Nat} {v : Value} (h : w.heap[b]? = some (.cells cs T fr)) (hv : cs[i]? = some v) : w.cell? ⟨b, i, none⟩ = some v := by
  simp [World.cell?, h, hv]
theorem frozen_lit {w : World} {b : Nat} {cs : Array Value} {T : TypeId} (h : w.heap[b]? = some (.cells cs T (0, 0))) (i : Nat) : w.frozen? ⟨b, i, none⟩ = false := by
  simp [World.frozen?, h]
theorem heap_set_lit {w : World} {b i : Nat} {cs : Array Value} {T : TypeId} {fr : Nat × Nat} (h : w.heap[b]? = some (.cells cs T fr)) (v : Value) : (w.setCell ⟨b, i, none⟩ v).heap[b]? = some (.cells (cs.setIfInBounds i v) T fr) := by
  simp [World.setCell, Array.getElem?_modify, h]
theorem heap_set_ne {w : World} {b i b' : Nat} (v : Value) (h : b' ≠ b) : (w.setCell ⟨b, i, none⟩ v).heap[b']? = w.heap[b']? := Below.heap_setCell _ _ _ _ h
theorem heap_alloc_lt {w : World} {b : Nat} (o : Obj) (h : b < w.heap.size) : (w.alloc o).heap[b]? = w.heap[b]? := Below.heap_alloc _ _ _ h
theorem lt_of_heap {w : World} {b : Nat} {o : Obj} (h : w.heap[b]? = some o) : b < w.heap.size := (Array.getElem?_eq_some_iff.1 h).1
theorem Upd.at {S : Nat → Prop} {w w' : World} (h : Upd S w w') {k : Nat} {o : Obj} (hk : w.heap[k]? = some o) (hn : ¬ S k) : w'.heap[k]? = some o := (h.block k (lt_of_heap hk) hn).trans hk
theorem one1 (a : Value) (ha : a.oneCell' = true) : ∀ u ∈ [a], u.oneCell' = true := by
  intro u hu; simp at hu; rw [hu]; exact ha
theorem one2 (a b : Value) (ha : a.oneCell' = true) (hb : b.oneCell' = true) : ∀ u ∈ [a, b], u.oneCell' = true := by
  intro u hu; simp at hu; rcases hu with rfl | rfl <;> assumption
structure KEnc (κ : Type) where
  enc : κ → Value
  desc : TypeDesc
  key : ∀ a, IsKey desc (enc a)
  inj : ∀ a b, enc a = enc b → a = b
def kInt : KEnc Int := ⟨fun n => .int .i64 n, .int .i64, fun _ => rfl, fun a b h => by cases h; rfl⟩
section maps
variable {κ α : Type} [DecidableEq κ]
def look : List (κ × α) → κ → Option α
  | [], _ => none
  | p :: r, k => if p.1 = k then some p.2 else look r k
def del (m : List (κ × α)) (k : κ) : List (κ × α) := m.filter (fun p => decide (p.1 ≠ k))
def put (m : List (κ × α)) (k : κ) (v : α) : List (κ × α) := (k, v) :: del m k
theorem look_none {m : List (κ × α)} {k : κ} : look m k = none ↔ ∀ p ∈ m, p.1 ≠ k := by
  induction m with
  | nil => simp [look]
  | cons p r ih => unfold look; by_cases h : p.1 = k <;> simp [h, ih]
theorem look_some {m : List (κ × α)} {k : κ} {a : α} (hn : (m.map Prod.fst).Nodup) : look m k = some a ↔ (k, a) ∈ m := by
  induction m with
  | nil => simp [look]
  | cons p r ih =>
    simp only [List.map_cons, List.nodup_cons] at hn
    unfold look
    by_cases h : p.1 = k
    · simp only [h, if_true, List.mem_cons]
      constructor
      · intro e; cases e; exact .inl (by rw [← h])
      · intro e
        rcases e with e | e
        · rw [← e]
        · exact absurd (List.mem_map.2 ⟨(k, a), e, h.symm⟩) hn.1
    · simp only [h, if_false, List.mem_cons, ih hn.2]
      constructor
      · exact .inr
      · intro e
        rcases e with e | e
        · exact absurd (by rw [← e]) h
        · exact e
theorem look_perm {m m' : List (κ × α)} (hp : m.Perm m') (hn : (m.map Prod.fst).Nodup) (k : κ) : look m k = look m' k := by
  have hn' : (m'.map Prod.fst).Nodup := (hp.map _).nodup_iff.1 hn
  cases h : look m k with
  | none =>
    rw [eq_comm, look_none]
    exact fun p hp' => look_none.1 h p (hp.mem_iff.2 hp')
  | some a => rw [eq_comm, look_some hn']; exact hp.mem_iff.1 ((look_some hn).1 h)
theorem look_del (m : List (κ × α)) (k k' : κ) : look (del m k) k' = if k = k' then none else look m k' := by
  induction m with
  | nil => simp [del, look]
  | cons p r ih =>
    unfold del at ih ⊢
    by_cases hp : p.1 = k
    · rw [List.filter_cons_of_neg (by simp [hp]), ih]
      by_cases h : k = k'
      · simp [h]
      · simp only [look, hp, h, if_false]
    · rw [List.filter_cons_of_pos (by simp [hp])]
      simp only [look, ih]
      by_cases h : k = k'
      · subst h; simp [hp]
      · simp [h]
theorem look_put (m : List (κ × α)) (k k' : κ) (v : α) : look (put m k v) k' = if k = k' then some v else look m k' := by
  unfold put
  simp only [look, look_del]
  by_cases h : k = k' <;> simp [h]
theorem del_of_none {m : List (κ × α)} {k : κ} (h : look m k = none) : del m k = m := by
  unfold del
  exact List.filter_eq_self.2 fun p hp => by simpa using look_none.1 h p hp
theorem del_perm {m m' : List (κ × α)} (hp : m.Perm m') (k : κ) : (del m k).Perm (del m' k) := hp.filter _
theorem put_perm {m m' : List (κ × α)} (hp : m.Perm m') (k : κ) (v : α) : (put m k v).Perm (put m' k v) := (del_perm hp k).cons _
def MapIs (K : KEnc κ) (V : α → Value) (w : World) (r : Nat) (m : List (κ × α)) : Prop :=
  ∃ (es : Array MapEntry) (clock : Nat) (m0 : List (κ × α)), w.heap[r]? = some (.map es clock) ∧ Stamped es clock ∧ es.toList.map (fun e => (e.key, e.val)) = m0.map (fun p => (K.enc p.1, V p.2)) ∧ m0.Perm m
variable {K : KEnc κ} {V : α → Value} {w : World} {r : Nat} {m : List (κ × α)}
omit [DecidableEq κ] in
theorem MapIs.lt (h : MapIs K V w r m) : r < w.heap.size := by obtain ⟨es, clock, m0, hb, _⟩ := h; exact lt_of_heap hb
omit [DecidableEq κ] in
theorem MapIs.of_heap (h : MapIs K V w r m) {w' : World} (e : w'.heap[r]? = w.heap[r]?) : MapIs K V w' r m := by
  obtain ⟨es, clock, m0, hb, hs, he, hm⟩ := h; exact ⟨es, clock, m0, e.trans hb, hs, he, hm⟩
omit [DecidableEq κ] in
theorem MapIs.upd (h : MapIs K V w r m) {S : Nat → Prop} {w' : World} (hu : Upd S w w') (hn : ¬ S r) : MapIs K V w' r m := h.of_heap (hu.block r h.lt hn)
omit [DecidableEq κ] in
theorem MapIs.alloc (h : MapIs K V w r m) (o : Obj) : MapIs K V (w.alloc o) r m := h.of_heap (heap_alloc_lt o h.lt)
omit [DecidableEq κ] in
theorem MapIs.made (w : World) : MapIs K V (w.alloc (.map #[] 0)) w.heap.size ([] : List (κ × α)) :=
  ⟨#[], 0, [], (heap_alloc w _).1, stamped_empty 0, rfl, .refl _⟩
omit [DecidableEq κ] in
theorem ents_keys {es : List MapEntry} {m0 : List (κ × α)} (he : es.map (fun e => (e.key, e.val)) = m0.map (fun p => (K.enc p.1, V p.2))) : es.map (·.key) = (m0.map Prod.fst).map K.enc := by
  have := congrArg (List.map Prod.fst) he
  simpa [Function.comp_def] using this
omit [DecidableEq κ] in
theorem ents_isKey {es : List MapEntry} {m0 : List (κ × α)} (he : es.map (fun e => (e.key, e.val)) = m0.map (fun p => (K.enc p.1, V p.2))) : ∀ x ∈ es, IsKey K.desc x.key := by
  intro x hx
  have h1 : x.key ∈ es.map (·.key) := List.mem_map.2 ⟨x, hx, rfl⟩
  rw [ents_keys he] at h1
  obtain ⟨k, _, e⟩ := List.mem_map.1 h1
  rw [← e]; exact K.key k
omit [DecidableEq κ] in
theorem ents_nodup {es : Array MapEntry} {clock : Nat} {m0 : List (κ × α)} (hs : Stamped es clock) (he : es.toList.map (fun e => (e.key, e.val)) = m0.map (fun p => (K.enc p.1, V p.2))) : (m0.map Prod.fst).Nodup := by
  have h1 := hs.2.2
  rw [ents_keys he] at h1
  exact List.Pairwise.imp (fun hne e => hne (by rw [e])) (List.pairwise_map.1 h1)
omit [DecidableEq κ] in
theorem ents_get {es : List MapEntry} {m0 : List (κ × α)} (he : es.map (fun e => (e.key, e.val)) = m0.map (fun p => (K.enc p.1, V p.2))) {j : Nat} {e : MapEntry} (hj : es[j]? = some e) : ∃ p, m0[j]? = some p ∧ e.key = K.enc p.1 ∧ e.val = V p.2 := by
  have h1 : (es.map (fun e => (e.key, e.val)))[j]? = some (e.key, e.val) := by simp [hj]
  rw [he] at h1
  simp only [List.getElem?_map, Option.map_eq_some_iff] at h1
  obtain ⟨p, hp, e1⟩ := h1
  simp only [Prod.mk.injEq] at e1
  exact ⟨p, hp, e1.1.symm, e1.2.symm⟩
theorem ents_find {es : Array MapEntry} {clock : Nat} {m0 : List (κ × α)} (hs : Stamped es clock) (he : es.toList.map (fun e => (e.key, e.val)) = m0.map (fun p => (K.enc p.1, V p.2))) (k : κ) :
    (look m0 k = none ∧ Instr.findNow K.desc (K.enc k) es.toList 0 = some none ∧ ∀ x ∈ es.toList, x.key ≠ K.enc k) ∨
    ∃ j e a, look m0 k = some a ∧ Instr.findNow K.desc (K.enc k) es.toList 0 = some (some (j, V a)) ∧ es.toList[j]? = some e ∧ m0[j]? = some (k, a) ∧ e.key = K.enc k := by
  rcases findNow_spec (K.key k) es.toList 0 (ents_isKey he) with ⟨h1, h2⟩ | ⟨j, e, h1, h2, h3⟩
  · refine .inl ⟨?_, h1, h2⟩
    rw [look_none]
    intro p hp e
    have h4 : K.enc p.1 ∈ es.toList.map (·.key) := by rw [ents_keys he]; exact List.mem_map.2 ⟨p.1, List.mem_map.2 ⟨p, hp, rfl⟩, rfl⟩
    obtain ⟨x, hx, e1⟩ := List.mem_map.1 h4
    exact h2 x hx (by rw [e1, e])
  · obtain ⟨p, hp, e1, e2⟩ := ents_get he h2
    have hk : p.1 = k := K.inj _ _ (e1.symm.trans h3)
    have hm : p = (k, p.2) := by rw [← hk]
    refine .inr ⟨j, e, p.2, ?_, by rw [← e2]; simpa using h1, h2, by rw [hp, hm], h3⟩
    rw [look_some (ents_nodup hs he), ← hm]
    exact List.mem_of_getElem? hp
theorem run_lookup {P : Program} {t kt et : TypeId} (h : MapIs K V w r m) (ht : P.underlying t = some (.map kt et)) (hk : P.underlying kt = some K.desc) {z : Value} (hz : (zeroValue et).run P w = .ok z w) (k : κ) :
    (Instr.lookup t (.map (some r)) (K.enc k) false).run P w = .ok (((look m k).map V).getD z) w := by
  obtain ⟨es, clock, m0, hb, hs, he, hm⟩ := h
  rw [← look_perm hm (ents_nodup hs he)]
  rcases ents_find hs he k with ⟨h0, h1, h2⟩ | ⟨j, e, a, h0, h1, h2, h3, h4⟩
  · simp [Instr.lookup, run_underlying ht, MapKept.run_getObj_map hb, run_checkKey hk (K.key k), run_findKey hk h1, hz, h0, Result.andThen]
  · simp [Instr.lookup, run_underlying ht, MapKept.run_getObj_map hb, run_checkKey hk (K.key k), run_findKey hk h1, h0, Result.andThen]
theorem run_lookup_ok {P : Program} {t kt et : TypeId} (h : MapIs K V w r m) (ht : P.underlying t = some (.map kt et)) (hk : P.underlying kt = some K.desc) {z : Value} (hz : (zeroValue et).run P w = .ok z w) (k : κ) :
    (Instr.lookup t (.map (some r)) (K.enc k) true).run P w = .ok (.tuple #[((look m k).map V).getD z, .bool (look m k).isSome]) w := by
  obtain ⟨es, clock, m0, hb, hs, he, hm⟩ := h
  rw [← look_perm hm (ents_nodup hs he)]
  rcases ents_find hs he k with ⟨h0, h1, h2⟩ | ⟨j, e, a, h0, h1, h2, h3, h4⟩
  · simp [Instr.lookup, run_underlying ht, MapKept.run_getObj_map hb, run_checkKey hk (K.key k), run_findKey hk h1, hz, h0, Result.andThen]
  · simp [Instr.lookup, run_underlying ht, MapKept.run_getObj_map hb, run_checkKey hk (K.key k), run_findKey hk h1, h0, Result.andThen]
def setObjW (w : World) (r : Nat) (o : Obj) : World := { w with heap := w.heap.setIfInBounds r o }
theorem upd_setObjW (w : World) (r : Nat) (o : Obj) : Upd (· = r) w (setObjW w r o) :=
  ⟨rfl, rfl, rfl, by simp [setObjW], fun k _ hn => by simp [setObjW, Ne.symm hn]⟩
omit [DecidableEq κ] in
theorem split_at {l : List (κ × α)} {j : Nat} {p : κ × α} (h : l[j]? = some p) : l = l.take j ++ p :: l.drop (j + 1) := by
  have hj := (List.getElem?_eq_some_iff.1 h)
  obtain ⟨hlt, e⟩ := hj
  rw [← e, List.getElem_cons_drop]; simp
theorem del_split {l : List (κ × α)} {j : Nat} {k : κ} {a : α} (h : l[j]? = some (k, a)) (hn : (l.map Prod.fst).Nodup) : del l k = l.take j ++ l.drop (j + 1) := by
  have e := split_at h
  have hn' := hn
  rw [e] at hn'
  simp only [List.map_append, List.map_cons, List.nodup_append, List.nodup_cons] at hn'
  have h1 : del (l.take j) k = l.take j := del_of_none (look_none.2 fun p hp hk => hn'.2.2 p.1 (List.mem_map.2 ⟨p, hp, rfl⟩) k (by simp) hk)
  have h2 : del (l.drop (j + 1)) k = l.drop (j + 1) := del_of_none (look_none.2 fun p hp hk => hn'.2.1.1 (by rw [← hk]; exact List.mem_map.2 ⟨p, hp, rfl⟩))
  conv => lhs; rw [e]
  unfold del at h1 h2 ⊢
  rw [List.filter_append, List.filter_cons_of_neg (by simp), h1, h2]
theorem run_mapUpdate {P : Program} {t kt et : TypeId} (h : MapIs K V w r m) (ht : P.underlying t = some (.map kt et)) (hk : P.underlying kt = some K.desc) (k : κ) (a : α) :
    ∃ w', (Instr.mapUpdate t (.map (some r)) (K.enc k) (V a)).run P w = .ok () w' ∧ MapIs K V w' r (put m k a) ∧ Upd (· = r) w w' := by
  obtain ⟨es, clock, m0, hb, hs, he, hm⟩ := h
  have hnd := ents_nodup hs he
  rcases ents_find hs he k with ⟨h0, h1, h2⟩ | ⟨j, e, b, h0, h1, h2, h3, h4⟩
  · refine ⟨setObjW w r (.map (es.push { key := K.enc k, val := V a, born := clock }) (clock + 1)), ?_, ⟨_, _, m0 ++ [(k, a)], (heap_set hb).1, stamped_push hs h2, by simp [he], ?_⟩, upd_setObjW _ _ _⟩
    · simp [Instr.mapUpdate, run_underlying ht, MapKept.run_getObj_map hb, run_checkKey hk (K.key k), run_findKey hk h1, run_setObj_map _ hb, setObjW, Result.andThen]
    · refine List.Perm.trans ?_ (put_perm hm k a)
      unfold put
      rw [del_of_none h0]
      exact List.perm_append_comm
  · have hj : es[j]? = some e := by simpa using h2
    have hkey : ∀ e', es[j]? = some e' → ({ e' with key := K.enc k, val := V a } : MapEntry).key = e'.key := fun e' he' => by rw [hj] at he'; cases he'; exact h4.symm
    refine ⟨setObjW w r (.map (es.modify j fun e => { e with key := K.enc k, val := V a }) clock), ?_, ⟨_, _, m0.set j (k, a), (heap_set hb).1, stamped_modify hs _ _ (fun _ _ => rfl) (fun e' _ he' => hkey e' he'), ?_, ?_⟩, upd_setObjW _ _ _⟩
    · simp [Instr.mapUpdate, run_underlying ht, MapKept.run_getObj_map hb, run_checkKey hk (K.key k), run_findKey hk h1, hj, h4, run_keyThatStays (K.key k), run_setObj_map _ hb, setObjW, Result.andThen]
    · apply List.ext_getElem?
      intro i
      have hei := congrArg (fun l => l[i]?) he
      simp only [List.getElem?_map] at hei
      simp only [List.getElem?_map, Array.toList_modify, List.getElem?_modify, List.getElem?_set]
      by_cases hij : j = i
      · subst hij
        have hlt : j < m0.length := (List.getElem?_eq_some_iff.1 h3).1
        simp [h2, hlt]
      · simpa [hij] using hei
    · refine List.Perm.trans ?_ (put_perm hm k a)
      unfold put
      have hlt : j < m0.length := (List.getElem?_eq_some_iff.1 h3).1
      rw [del_split h3 hnd, List.set_eq_take_append_cons_drop, if_pos hlt]
      exact List.perm_middle
end maps
open Go.RowKit
def BRow (B : Nat) (v : Value) (l : List UInt8) (w : World) : Prop :=
  ∃ g cap cs fr, v = .slice (some ⟨g, 0, none⟩) l.length cap ∧ B ≤ g ∧ w.heap[g]? = some (.cells cs 5 fr) ∧ cs.size = cap ∧ l.length ≤ cap ∧ (∀ i, i < cap → w.frozen? ⟨g, i, none⟩ = false) ∧ ∀ i (h : i < l.length), cs[i]? = some (.int .u8 l[i].toNat)
theorem infoB : (Tryz.prog.info? 5).map (fun i => (i.zero, i.size, i.bytes)) = some (some (.int .u8 0), 1, 1) := by kernel_rfl
set_option maxRecDepth 100000
theorem laidOut : laidOutB Tryz.prog = true := by kernel_rfl
def Reads (w : World) (T : TypeId) (v : Value) : Prop :=
  ∃ (H : Type) (enc : TypeId × Value → H) (d : DataW H) (p : List MemPlace) (base : Nat), Value.okWide Tryz.prog w .any base T v ∧ DataW.Trod enc Tryz.prog w 0 (fun _ => true) true T v d p
theorem reads_int {w : World} {T : TypeId} {k : IntKind} {v : Value} (ht : Tryz.prog.underlying T = some (.int k)) (h : Reads w T v) : ∃ n, v = .int k n ∧ (Lit.int k n).wf = true := by
  obtain ⟨H, enc, d, p, base, h1, h2⟩ := h
  obtain ⟨n, rfl, _, _, hw⟩ := ChangeShapes.open_int ht h1 h2
  exact ⟨n, rfl, hw⟩
def SliceAt (w : World) (v : Value) (l : List Value) : Prop :=
  ∃ a cap, v = .slice a l.length cap ∧ l.length ≤ cap ∧ cap ≤ maxLen ∧ ∀ k, (h : k < l.length) → ∃ b off, a = some ⟨b, off, none⟩ ∧ w.cell? ⟨b, off + k, none⟩ = some l[k] ∧ b < w.heap.size
theorem addr_add {w : World} {a : Addr} {i : Nat} {u : Value} (h : w.cell? (a.add i) = some u) : a.add i = ⟨a.block, a.off + i, none⟩ ∧ a.block < w.heap.size := by
  have h1 := World.cell?_spot h
  have h2 := World.block_lt_of_cell? w _ h
  unfold Addr.add at h1 h2 ⊢
  split at h1
  · rename_i h0
    subst h0
    simp only [if_true] at h2 ⊢
    obtain ⟨b, o, s⟩ := a
    simp only at h1 h2 ⊢
    subst h1
    exact ⟨rfl, h2⟩
  · rename_i h0
    simp only [h0, if_false] at h2 ⊢
    exact ⟨trivial, h2⟩
def Reads1 (w : World) (e : TypeId) (x : Value) : Prop := ∃ (H : Type) (enc : TypeId × Value → H) (m : Nat) (y : DataW H × List MemPlace), DataW.trod enc Tryz.prog w 0 (fun _ => true) true m e [x] = some y
theorem reads_slice1 {w : World} {T e : TypeId} {v : Value} (ht : Tryz.prog.underlying T = some (.slice e)) (hc : Tryz.prog.cellsOf e = 1) (h : Reads w T v) : ∃ l, SliceAt w v l ∧ ∀ x ∈ l, Reads1 w e x := by
  obtain ⟨H, enc, d, p, base, h1, h2⟩ := h
  obtain ⟨a, len, cap, rfl⟩ := WideShapes.okWide_slice ht h1
  obtain ⟨fuel, hf⟩ := h2
  rcases Deep.open_slice1 ht hc hf with ⟨hcs, _⟩ | ⟨x, l, c, m, n, V, D, Pl, hcs, _, hl, hm, hmm, _, hel⟩
  · simp [Value.cells] at hcs
    obtain ⟨rfl, rfl, rfl⟩ := hcs
    exact ⟨[], ⟨none, 0, rfl, Nat.zero_le _, Nat.zero_le _, fun i hi => absurd hi (by simp)⟩, by simp⟩
  · simp [Value.cells] at hcs
    obtain ⟨rfl, rfl, rfl⟩ := hcs
    simp only [if_true] at hmm
    subst hmm
    have hlen : ((List.range len).map V).length = len := by simp
    refine ⟨(List.range len).map V, ⟨_, _, by rw [hlen], by rw [hlen]; exact hl, hm, fun k hk => ?_⟩, ?_⟩
    · rw [hlen] at hk
      obtain ⟨g1, _⟩ := hel k (by omega)
      obtain ⟨g2, g3⟩ := addr_add g1
      have e0 : x.spot = none ∨ k ≠ 0 := by
        by_cases hk0 : k = 0
        · subst hk0
          have := World.cell?_spot g1
          exact .inl (by simpa [Addr.add] using this)
        · exact .inr hk0
      obtain ⟨g4, _⟩ := hel 0 (by omega)
      have hs := World.cell?_spot g4
      have hs : x.spot = none := by simpa [Addr.add] using hs
      obtain ⟨b, o, sp⟩ := x
      simp only at hs
      subst hs
      rw [g2] at g1
      exact ⟨b, o, rfl, by simpa using g1, g3⟩
    · intro u hu
      obtain ⟨k, hk, rfl⟩ := List.mem_map.1 hu
      obtain ⟨_, g2⟩ := hel k (by have := List.mem_range.1 hk; omega)
      exact ⟨H, enc, n, _, g2⟩
theorem reads1_string {w : World} {e : TypeId} {x : Value} (ht : Tryz.prog.underlying e = some .string) (h : Reads1 w e x) : ∃ s, x = .string s ∧ s.size ≤ maxLen := by
  obtain ⟨H, enc, m, y, h⟩ := h
  obtain ⟨b, hb, _, hw⟩ := DataW.trod_string ht h
  exact ⟨b, by simpa using hb, hw⟩
theorem list_of {α : Type} {f : α → Value} {q : α → Prop} : ∀ {l : List Value}, (∀ x ∈ l, ∃ a, x = f a ∧ q a) → ∃ xs : List α, l = xs.map f ∧ ∀ a ∈ xs, q a
  | [], _ => ⟨[], rfl, by simp⟩
  | x :: l, h => by
    obtain ⟨a, rfl, ha⟩ := h x (List.mem_cons_self ..)
    obtain ⟨xs, rfl, hxs⟩ := list_of (l := l) (fun y hy => h y (List.mem_cons_of_mem _ hy))
    exact ⟨a :: xs, rfl, by intro b hb; rcases List.mem_cons.1 hb with rfl | hb; exact ha; exact hxs b hb⟩
theorem reads_strings {w : World} {T e : TypeId} {v : Value} (ht : Tryz.prog.underlying T = some (.slice e)) (hc : Tryz.prog.cellsOf e = 1) (he : Tryz.prog.underlying e = some .string) (h : Reads w T v) :
    ∃ l : List ByteArray, SliceAt w v (l.map Value.string) ∧ ∀ s ∈ l, s.size ≤ maxLen := by
  obtain ⟨l, h1, h2⟩ := reads_slice1 ht hc h
  obtain ⟨xs, rfl, h3⟩ := list_of (f := Value.string) (q := fun s => s.size ≤ maxLen) (fun x hx => reads1_string he (h2 x hx))
  exact ⟨xs, h1, h3⟩
set_option maxHeartbeats 1000000
open Ieee
theorem log2_pow (n : Nat) (h : n ≠ 0) : ∀ p, (n * 2 ^ p).log2 = n.log2 + p
  | 0 => by simp
  | p + 1 => by
    rw [Nat.pow_succ, ← Nat.mul_assoc, Nat.mul_comm _ 2, Nat.log2_two_mul (Nat.mul_ne_zero h (Nat.ne_of_gt (Nat.two_pow_pos p))), log2_pow n h p]
    omega
theorem cut_zero (neg : Bool) (n : Nat) : Toward.even.cut neg n 0 = n := by
  simp [Toward.cut, Nat.mod_one]
theorem cut_exact (neg : Bool) (k d : Nat) (hk : k ≠ 0) : Toward.even.cut neg (k * 2 ^ d) d = k := by
  have h1 : min d ((k * 2 ^ d).log2 + 2) = d := by rw [log2_pow k hk d]; omega
  have hp := Nat.two_pow_pos d
  unfold Toward.cut
  simp only [h1, Nat.one_shiftLeft, Nat.mul_div_cancel _ hp, Nat.mul_mod_left]
  have : ¬ (2 ^ d < 2 * 0) := by omega
  have h2 : ((2 : Nat) ^ d == 2 * 0) = false := by simp
  simp [h2]
theorem log2_lt53 {n : Nat} (h0 : n ≠ 0) (h : n < 9007199254740992) : n.log2 ≤ 52 := by
  have := (Nat.log2_lt h0 (k := 53)).2 (by simpa using h)
  omega
theorem rung_le (B T K : Nat) (h1 : T ≤ 1074 * B) (h2 : K < 2 * B) : T + K ≤ 2047 * B := by omega
theorem nearest_whole (neg : Bool) (N p : Nat) (h0 : N ≠ 0) (hN : N < 9007199254740992) (hp : p ≤ 1074) :
    double.nearest neg (N * 2 ^ p) (-(p : Int)) = double.word neg ((N.log2 + 1022) * 2 ^ 52 + N * 2 ^ (52 - N.log2)) := by
  have hL := log2_lt53 h0 hN
  have hm : N * 2 ^ p ≠ 0 := Nat.mul_ne_zero h0 (Nat.ne_of_gt (Nat.two_pow_pos p))
  have hlp : double.leastPlace = -1074 := by decide
  have hb : double.binade = 2 ^ 52 := rfl
  have hlast : max (-(p : Int) + ((N * 2 ^ p).log2 : Nat) - (double.fractionBits : Nat)) double.leastPlace = (N.log2 : Int) - 52 := by
    rw [log2_pow N h0 p, hlp]
    show max (-(p : Int) + ((N.log2 + p : Nat) : Int) - ((52 : Nat) : Int)) (-1074) = _
    omega
  have hK1 : N * 2 ^ (52 - N.log2) < 2 ^ 53 := by
    have h1 : N < 2 ^ (N.log2 + 1) := Nat.lt_log2_self
    calc N * 2 ^ (52 - N.log2) < 2 ^ (N.log2 + 1) * 2 ^ (52 - N.log2) := Nat.mul_lt_mul_of_pos_right h1 (Nat.two_pow_pos _)
      _ = 2 ^ 53 := by rw [← Nat.pow_add]; congr 1; omega
  rw [hlp] at hlast
  unfold Format.nearest
  rw [if_neg hm]
  simp only [hlp, hb, hlast]
  have hkept : Toward.even.cut neg ((N * 2 ^ p) <<< (-(p : Int) - ((N.log2 : Int) - 52)).toNat) ((N.log2 : Int) - 52 - -(p : Int)).toNat = N * 2 ^ (52 - N.log2) := by
    by_cases hc : p ≤ 52 - N.log2
    · rw [show (-(p : Int) - ((N.log2 : Int) - 52)).toNat = 52 - N.log2 - p by omega, show ((N.log2 : Int) - 52 - -(p : Int)).toNat = 0 by omega, cut_zero, Nat.shiftLeft_eq, Nat.mul_assoc, ← Nat.pow_add]
      congr 2; omega
    · rw [show (-(p : Int) - ((N.log2 : Int) - 52)).toNat = 0 by omega, Nat.shiftLeft_zero, show ((N.log2 : Int) - 52 - -(p : Int)).toNat = p - (52 - N.log2) by omega]
      have : N * 2 ^ p = (N * 2 ^ (52 - N.log2)) * 2 ^ (p - (52 - N.log2)) := by
        rw [Nat.mul_assoc, ← Nat.pow_add]; congr 2; omega
      rw [this]
      exact cut_exact neg _ _ (Nat.mul_ne_zero h0 (Nat.ne_of_gt (Nat.two_pow_pos _)))
  rw [hkept, show ((N.log2 : Int) - 52 - -1074).toNat = N.log2 + 1022 by omega]
  have hinf : double.infRung = 2047 * 2 ^ 52 := by decide
  congr 1
  rw [hinf]
  apply Nat.min_eq_left
  have : (N.log2 + 1022) * 2 ^ 52 ≤ 1074 * 2 ^ 52 := Nat.mul_le_mul_right _ (by omega)
  have e : (2 : Nat) ^ 53 = 2 * 2 ^ 52 := by decide
  rw [e] at hK1
  exact rung_le _ _ _ this hK1
theorem read_word (neg : Bool) (N : Nat) (h0 : N ≠ 0) (hN : N < 9007199254740992) :
    double.read (double.word neg ((N.log2 + 1022) * 2 ^ 52 + N * 2 ^ (52 - N.log2))) = .number neg (N * 2 ^ (52 - N.log2)) (-((52 - N.log2 : Nat) : Int)) := by
  have hL := log2_lt53 h0 hN
  have hlo : 2 ^ 52 ≤ N * 2 ^ (52 - N.log2) := by
    have h1 : 2 ^ N.log2 ≤ N := Nat.log2_self_le h0
    calc 2 ^ 52 = 2 ^ N.log2 * 2 ^ (52 - N.log2) := by rw [← Nat.pow_add]; congr 1; omega
      _ ≤ N * 2 ^ (52 - N.log2) := Nat.mul_le_mul_right _ h1
  have hhi : N * 2 ^ (52 - N.log2) < 2 ^ 53 := by
    have h1 : N < 2 ^ (N.log2 + 1) := Nat.lt_log2_self
    calc N * 2 ^ (52 - N.log2) < 2 ^ (N.log2 + 1) * 2 ^ (52 - N.log2) := Nat.mul_lt_mul_of_pos_right h1 (Nat.two_pow_pos _)
      _ = 2 ^ 53 := by rw [← Nat.pow_add]; congr 1; omega
  generalize N * 2 ^ (52 - N.log2) = K at *
  generalize N.log2 = L at *
  have hs : double.signWeight = 2048 * 2 ^ 52 := by decide
  have hb : double.binade = 2 ^ 52 := rfl
  have hinf : double.infRung = 2047 * 2 ^ 52 := by decide
  have hlp : double.leastPlace = -1074 := by decide
  have e53 : (2 : Nat) ^ 53 = 2 * 2 ^ 52 := by decide
  rw [e53] at hhi
  have hr : (L + 1022) * 2 ^ 52 + K < 2047 * 2 ^ 52 := by
    have : (L + 1022) * 2 ^ 52 ≤ 1074 * 2 ^ 52 := Nat.mul_le_mul_right _ (by omega)
    omega
  have e52 : (2 : Nat) ^ 52 = 4503599627370496 := by decide
  unfold Format.read Format.word
  simp only [hs, hb, hinf, hlp]
  rw [e52] at *
  have hw : (if neg = true then 2048 * 4503599627370496 + ((L + 1022) * 4503599627370496 + K) else (L + 1022) * 4503599627370496 + K) % (2048 * 4503599627370496) = (L + 1022) * 4503599627370496 + K := by
    cases neg <;> simp <;> omega
  have hn : ((if neg = true then 2048 * 4503599627370496 + ((L + 1022) * 4503599627370496 + K) else (L + 1022) * 4503599627370496 + K) / (2048 * 4503599627370496) % 2 == 1) = neg := by
    cases neg
    · simp; omega
    · simp; omega
  rw [hw, hn]
  rw [if_neg (by omega), if_pos (by omega)]
  congr 1
  · omega
  · omega
theorem read_zero (neg : Bool) : ∃ p : Nat, p ≤ 1074 ∧ double.read (double.word neg 0) = .number neg 0 (-(p : Int)) := ⟨1074, by decide, by cases neg <;> decide⟩
def FI (x : Nat) (n : Int) : Prop := ∃ (neg : Bool) (p : Nat), double.read x = .number neg (n.natAbs * 2 ^ p) (-(p : Int)) ∧ p ≤ 1074 ∧ (n < 0 → neg = true) ∧ (0 < n → neg = false)
theorem FI.write (neg : Bool) (n : Int) (p : Nat) (hn : n.natAbs < 9007199254740992) (hp : p ≤ 1074) (h1 : n < 0 → neg = true) (h2 : 0 < n → neg = false) : FI (double.write (.number neg (n.natAbs * 2 ^ p) (-(p : Int)))) n := by
  show FI (double.nearest neg (n.natAbs * 2 ^ p) (-(p : Int))) n
  by_cases h0 : n.natAbs = 0
  · have hn0 : n = 0 := Int.natAbs_eq_zero.1 h0
    subst hn0
    rw [show double.nearest neg ((0 : Int).natAbs * 2 ^ p) (-(p : Int)) = double.word neg 0 by unfold Format.nearest; rw [if_pos (by simp)]]
    obtain ⟨q, hq, e⟩ := read_zero neg
    exact ⟨neg, q, by rw [e, Int.natAbs_zero, Nat.zero_mul], hq, fun h => absurd h (by decide), fun h => absurd h (by decide)⟩
  · rw [nearest_whole neg n.natAbs p h0 hn hp]
    exact ⟨neg, 52 - n.natAbs.log2, read_word neg _ h0 hn, by omega, h1, h2⟩
theorem signed_whole {neg : Bool} {n : Int} {p m : Nat} (hpm : p ≤ m) (h1 : n < 0 → neg = true) (h2 : 0 < n → neg = false) : signed neg (n.natAbs * 2 ^ p) (-(p : Int) - -(m : Int)).toNat = n * 2 ^ m := by
  have e : (-(p : Int) - -(m : Int)).toNat = m - p := by omega
  have e2 : (n.natAbs * 2 ^ p) <<< (m - p) = n.natAbs * 2 ^ m := by
    rw [Nat.shiftLeft_eq, Nat.mul_assoc, ← Nat.pow_add]; congr 2; omega
  unfold signed
  rw [e, e2]
  rcases Int.lt_trichotomy n 0 with h | h | h
  · rw [h1 h, if_pos rfl]
    have : (n.natAbs : Int) = -n := by omega
    push_cast
    rw [this, Int.neg_mul, Int.neg_neg]
  · subst h; cases neg <;> simp
  · rw [h2 h, if_neg (by decide)]
    have : (n.natAbs : Int) = n := by omega
    push_cast
    rw [this]
theorem sum_whole {s t : Bool} {a b : Int} {p q : Nat} (h1 : a < 0 → s = true) (h2 : 0 < a → s = false) (h3 : b < 0 → t = true) (h4 : 0 < b → t = false) :
    ∃ neg, Datum.sum (.number s (a.natAbs * 2 ^ p) (-(p : Int))) (.number t (b.natAbs * 2 ^ q) (-(q : Int))) = some (.number neg ((a + b).natAbs * 2 ^ (max p q)) (-((max p q : Nat) : Int))) ∧ (a + b < 0 → neg = true) ∧ (0 < a + b → neg = false) := by
  have hbase : min (-(p : Int)) (-(q : Int)) = -((max p q : Nat) : Int) := by omega
  have hpos : (0 : Int) < 2 ^ (max p q) := Int.pow_pos (by decide)
  have htot : a * 2 ^ (max p q) + b * 2 ^ (max p q) = (a + b) * 2 ^ (max p q) := by rw [Int.add_mul]
  refine ⟨if (a + b) * 2 ^ (max p q) = 0 then s && t else decide ((a + b) * 2 ^ (max p q) < 0), ?_, fun h => ?_, fun h => ?_⟩
  · unfold Datum.sum
    simp only [hbase]
    rw [signed_whole (Nat.le_max_left p q) h1 h2, signed_whole (Nat.le_max_right p q) h3 h4, htot, Int.natAbs_mul]
    congr 2
  · have : (a + b) * 2 ^ (max p q) < 0 := Int.mul_neg_of_neg_of_pos h hpos
    rw [if_neg (by omega)]; simpa using this
  · have : 0 < (a + b) * 2 ^ (max p q) := Int.mul_pos h hpos
    rw [if_neg (by omega)]; simp; omega
theorem FI.add {x y : Nat} {a b : Int} (hx : FI x a) (hy : FI y b) (h : (a + b).natAbs < 9007199254740992) : ∃ r, floatBits .add .f64 x y = some r ∧ FI r (a + b) := by
  obtain ⟨s, p, e1, hp, h1, h2⟩ := hx
  obtain ⟨t, q, e2, hq, h3, h4⟩ := hy
  obtain ⟨neg, e3, h5, h6⟩ := sum_whole (p := p) (q := q) h1 h2 h3 h4
  refine ⟨double.write (.number neg ((a + b).natAbs * 2 ^ (max p q)) (-((max p q : Nat) : Int))), ?_, FI.write neg (a + b) (max p q) h (by omega) h5 h6⟩
  show ((double.read x).sum (double.read y)).map double.write = _
  rw [e1, e2, e3]; rfl
theorem FI.sub {x y : Nat} {a b : Int} (hx : FI x a) (hy : FI y b) (h : (a - b).natAbs < 9007199254740992) : ∃ r, floatBits .sub .f64 x y = some r ∧ FI r (a - b) := by
  obtain ⟨s, p, e1, hp, h1, h2⟩ := hx
  obtain ⟨t, q, e2, hq, h3, h4⟩ := hy
  have hn : (b.natAbs : Nat) = (-b).natAbs := by omega
  obtain ⟨neg, e3, h5, h6⟩ := sum_whole (s := s) (t := !t) (a := a) (b := -b) (p := p) (q := q) h1 h2 (fun h => by simp [h4 (by omega)]) (fun h => by simp [h3 (by omega)])
  rw [show a + -b = a - b by omega] at e3 h5 h6
  refine ⟨double.write (.number neg ((a - b).natAbs * 2 ^ (max p q)) (-((max p q : Nat) : Int))), ?_, FI.write neg (a - b) (max p q) h (by omega) h5 h6⟩
  show ((double.read x).sum (double.read y).opposite).map double.write = _
  rw [e1, e2]
  show (Datum.sum _ (.number (!t) (b.natAbs * 2 ^ q) (-(q : Int)))).map double.write = _
  rw [hn, e3]; rfl
theorem FI.ofInt (n : Int) (h : n.natAbs < 9007199254740992) : FI (floatOfInt .f64 n) n := by
  have := FI.write (decide (n < 0)) n 0 h (by decide) (fun h => by simpa using h) (fun h => by simp; omega)
  rw [show floatOfInt .f64 n = double.write (.number (decide (n < 0)) n.natAbs 0) from rfl]
  simpa using this
theorem FI.toInt {x : Nat} {n : Int} (h : FI x n) : (double.read x).toInt .zero = some n := by
  obtain ⟨neg, p, e, hp, h1, h2⟩ := h
  rw [e]
  have hc : Toward.zero.cut neg ((n.natAbs * 2 ^ p) <<< (-(p : Int)).toNat) (- -(p : Int)).toNat = n.natAbs := by
    rw [show (-(p : Int)).toNat = 0 by omega, Nat.shiftLeft_zero, show (- -(p : Int)).toNat = p by omega]
    by_cases h0 : n.natAbs = 0
    · rw [h0, Nat.zero_mul]; simp [Toward.cut]
    · have h1 : min p ((n.natAbs * 2 ^ p).log2 + 2) = p := by rw [log2_pow _ h0 p]; omega
      have hp2 := Nat.two_pow_pos p
      unfold Toward.cut
      simp only [h1, Nat.one_shiftLeft, Nat.mul_div_cancel _ hp2, Bool.toNat_false, Nat.add_zero]
  show (match (Datum.number neg (Toward.zero.cut neg ((n.natAbs * 2 ^ p) <<< (-(p : Int)).toNat) (- -(p : Int)).toNat) 0 : Datum) with | .number s m _ => some (signed s m 0) | _ => none) = _
  rw [hc]
  show some (signed neg n.natAbs 0) = some n
  congr 1
  unfold signed
  rw [Nat.shiftLeft_zero]
  cases neg with
  | true =>
    rw [if_pos rfl]
    have := h2
    by_cases h0 : 0 < n
    · exact absurd (h2 h0) (by decide)
    · omega
  | false =>
    rw [if_neg (by decide)]
    by_cases h0 : n < 0
    · exact absurd (h1 h0) (by decide)
    · omega
theorem FI.toI64 {x : Nat} {n : Int} (h : FI x n) (h1 : -9223372036854775808 ≤ n) (h2 : n ≤ 9223372036854775807) : floatToIntVal .f64 x .i64 = some n := by
  unfold floatToIntVal
  rw [show (FloatKind.f64.decode x) = double.read x from rfl, h.toInt]
  simp only
  rw [if_pos ⟨h1, h2⟩]
open Ieee
theorem FI.zero : FI 0 0 := by
  obtain ⟨p, hp, e⟩ := read_zero false
  exact ⟨false, p, by rw [Int.natAbs_zero, Nat.zero_mul]; exact e, hp, fun h => absurd h (by decide), fun h => absurd h (by decide)⟩
theorem neg_low (x : Nat) : (x ^^^ 2 ^ 63) % 2 ^ 63 = x % 2 ^ 63 := by
  apply Nat.eq_of_testBit_eq
  intro i
  rw [Nat.testBit_mod_two_pow, Nat.testBit_mod_two_pow, Nat.testBit_xor, Nat.testBit_two_pow]
  by_cases h : i < 63
  · have : decide (63 = i) = false := by simp; omega
    rw [this, Bool.xor_false]
  · simp [h]
theorem neg_top (x : Nat) : ((x ^^^ 2 ^ 63) / 2 ^ 63 % 2 == 1) = !(x / 2 ^ 63 % 2 == 1) := by
  have h1 : ∀ y : Nat, (y / 2 ^ 63 % 2 == 1) = y.testBit 63 := fun y => by
    rw [Nat.testBit_eq_decide_div_mod_eq]
    by_cases h : y / 2 ^ 63 % 2 = 1 <;> simp [h]
  rw [h1, h1, Nat.testBit_xor, Nat.testBit_two_pow]
  simp
theorem FI.neg {x : Nat} {n : Int} (h : FI x n) : FI (Op.negFloat .f64 x) (-n) := by
  obtain ⟨s, p, e, hp, h1, h2⟩ := h
  refine ⟨!s, p, ?_, hp, fun h => by rw [h2 (by omega)]; rfl, fun h => by rw [h1 (by omega)]; rfl⟩
  rw [Int.natAbs_neg]
  have e1 : Op.negFloat .f64 x = x ^^^ 2 ^ 63 := rfl
  have hs : double.signWeight = 2 ^ 63 := by decide
  rw [e1]
  unfold Format.read at e ⊢
  simp only [hs] at e ⊢
  rw [neg_low, neg_top]
  generalize (x / 2 ^ 63 % 2 == 1) = b at *
  generalize x % 2 ^ 63 = r at *
  split at e
  · next h =>
    rw [if_pos h]
    injection e with a1 a2 a3
    rw [a1, a2, a3]
  · next h =>
    rw [if_neg h]
    split at e
    · next h' =>
      rw [if_pos h']
      injection e with a1 a2 a3
      rw [a1, a2, a3]
    · split at e <;> cases e
theorem run_neg_f (x : Nat) (t : TypeId) (w : World) : (Op.unary .neg (.float .f64 x)).run Tryz.prog w = .ok (.float .f64 (Op.negFloat .f64 x)) w := rfl
theorem FI.order {x y : Nat} {a b : Int} (hx : FI x a) (hy : FI y b) : double.order x y = some (compare a b) := by
  obtain ⟨s, p, e1, hp, h1, h2⟩ := hx
  obtain ⟨t, q, e2, hq, h3, h4⟩ := hy
  unfold Format.order Datum.order
  rw [e1, e2]
  have hbase : min (-(p : Int)) (-(q : Int)) = -((max p q : Nat) : Int) := by omega
  simp only [hbase]
  rw [signed_whole (Nat.le_max_left p q) h1 h2, signed_whole (Nat.le_max_right p q) h3 h4]
  have hpos : (0 : Int) < 2 ^ (max p q) := Int.pow_pos (by decide)
  congr 1
  simp only [compare, compareOfLessAndEq]
  by_cases h : a < b
  · rw [if_pos h, if_pos (Int.mul_lt_mul_of_pos_right h hpos)]
  · rw [if_neg h, if_neg (fun hl => h (Int.lt_of_mul_lt_mul_right hl (Int.le_of_lt hpos)))]
    by_cases e : a = b
    · rw [if_pos e, if_pos (by rw [e])]
    · rw [if_neg e, if_neg (fun he => e (Int.eq_of_mul_eq_mul_right (Int.ne_of_gt hpos) he))]
structure ZI (r i : Nat) (a b : Int) : Prop where
  re : FI r a
  im : FI i b
def Sml (n : Int) : Prop := n.natAbs < 4503599627370496
theorem plain_c (r i : Nat) (a b : Int) (h : ZI r i a b) (ha : Sml a) (hb : Sml b) : ∃ r' i', ZI r' i' a b ∧ ∀ w, Calls Tryz.prog 260 #[.complex .f64 r i] w fun e w' => e = .returned (.complex .f64 r' i') ∧ w = w' := by
  obtain ⟨r', e1, h1⟩ := h.re.add FI.zero (by unfold Sml at ha; omega)
  obtain ⟨i', e2, h2⟩ := h.im.add FI.zero (by unfold Sml at hb; omega)
  rw [Int.add_zero] at h1 h2
  have x1 := fun w => run_float_arith (P := Tryz.prog) w .add 305 .f64 r 0 r' e1
  have x2 := fun w => run_float_arith (P := Tryz.prog) w .add 305 .f64 i 0 i' e2
  refine ⟨r', i', ⟨h1, h2⟩, fun w => ?_⟩
  clear h ha hb e1 e2 h1 h2
  go_enter Tryz.func260, Tryz.ntmps260
  go_wp2_with fail
  go_ret
  exact ⟨rfl, rfl⟩
theorem turned_c (r i : Nat) (w : World) : Calls Tryz.prog 262 #[.complex .f64 r i] w fun e w' => e = .returned (.complex .f64 (Op.negFloat .f64 i) r) ∧ w = w' := by
  have x1 := fun w => run_neg_f i 305 w
  generalize Op.negFloat .f64 i = ni at *
  go_enter Tryz.func262, Tryz.ntmps262
  go_wp2_with fail
  go_ret
  exact ⟨rfl, rfl⟩
theorem many1_c (r i : Nat) (w : World) : Calls Tryz.prog 261 #[.complex .f64 r i, .int .i64 1] w fun e w' => e = .returned (.complex .f64 (Op.negFloat .f64 i) r) ∧ w = w' := by
  have T := fun w => turned_c r i w
  have k1 : bits .and .i64 1 3 = 1 := by decide
  generalize Op.negFloat .f64 i = ni at *
  go_enter Tryz.func261, Tryz.ntmps261
  go_wp2_with fail
  go_loopg [0, 7] 1 (fun g s0 s7 wr => ((g = 1 ∧ s7 = .int .i64 0 ∧ s0 = .complex .f64 r i) ∨ (g = 0 ∧ s7 = .int .i64 1 ∧ s0 = .complex .f64 ni r)) ∧ w = wr)
  case atStart => exact ⟨.inl ⟨rfl, rfl, rfl⟩, rfl⟩
  case round =>
    obtain ⟨⟨rfl, rfl, rfl⟩ | ⟨rfl, rfl, rfl⟩, rfl⟩ := hrel
    · go_wp2_with fail
      refine (T _).mono ?_
      rintro e w1 ⟨rfl, rfl⟩
      clear T
      go_wp2_with fail
      go_roundg 0
      case measure => decide
      case rel => exact ⟨.inr ⟨rfl, rfl, rfl⟩, rfl⟩
    · clear T
      go_wp2_with fail
      go_ret
      exact ⟨rfl, rfl⟩
theorem many8_c (r i : Nat) (w : World) : Calls Tryz.prog 261 #[.complex .f64 r i, .int .i64 8] w fun e w' => e = .returned (.complex .f64 r i) ∧ w = w' := by
  have k1 : bits .and .i64 8 3 = 0 := by decide
  go_enter Tryz.func261, Tryz.ntmps261
  go_wp2_with fail
  go_loopg [0, 7] 1 (fun g s0 s7 wr => g = 1 ∧ s7 = .int .i64 0 ∧ s0 = .complex .f64 r i ∧ w = wr)
  case atStart => exact ⟨rfl, rfl, rfl, rfl⟩
  case round =>
    obtain ⟨rfl, rfl, rfl, rfl⟩ := hrel
    go_wp2_with fail
    go_ret
    exact ⟨rfl, rfl⟩
theorem csum {op : BinOp} (hop : op = .add ∨ op = .sub) {r i r2 i2 x y : Nat} (h1 : floatBits op .f64 r r2 = some x) (h2 : floatBits op .f64 i i2 = some y) (w : World) : (binOp op 266 (.complex .f64 r i) (.complex .f64 r2 i2)).run Tryz.prog w = .ok (.complex .f64 x y) w :=
  run_complex_sum w op hop 266 .f64 r i r2 i2 x y (by unfold cSumBits; rw [h1, h2]; rfl)
theorem Join_c (r i r2 i2 : Nat) (a b c d : Int) (h : ZI r i a b) (h2 : ZI r2 i2 c d) (q1 : Sml (-b + c)) (q2 : Sml (a + d)) : ∃ r' i', ZI r' i' (-b + c) (a + d) ∧ ∀ w, Calls Tryz.prog 224 #[.complex .f64 r i, .complex .f64 r2 i2, .int .i64 1] w fun e w' => e = .returned (.complex .f64 r' i') ∧ w = w' := by
  have T := fun w => many1_c r i w
  obtain ⟨r3, e1, h1⟩ := h.im.neg.add h2.re (by unfold Sml at q1; omega)
  obtain ⟨i3, e2, h3⟩ := h.re.add h2.im (by unfold Sml at q2; omega)
  have cs := fun w => csum (.inl rfl) e1 e2 w
  obtain ⟨r4, i4, hz, P⟩ := plain_c r3 i3 (-b + c) (a + d) ⟨h1, h3⟩ q1 q2
  refine ⟨r4, i4, hz, fun w => ?_⟩
  clear h h2 q1 q2 e1 e2 h1 h3 hz
  generalize Op.negFloat .f64 i = ni at *
  go_enter Tryz.func224, Tryz.ntmps224
  go_wp2_with fail
  refine (T _).mono ?_
  rintro e w1 ⟨rfl, rfl⟩
  go_wp2_with fail
  refine (P _).mono ?_
  rintro e w1 ⟨rfl, rfl⟩
  go_wp2_with fail
  go_ret
  exact ⟨rfl, rfl⟩
theorem Roll_c (r i : Nat) (a b : Int) (o n : Nat) (h : ZI r i a b) (ho : o < 256) (hn : n < 256) (q1 : b.natAbs < 1000000) (q2 : a.natAbs < 1000000) : ∃ r' i', ZI r' i' (-b + n - o) a ∧ ∀ w, Calls Tryz.prog 225 #[.complex .f64 r i, .int .i64 8, .int .u8 (o : Int), .int .u8 (n : Int)] w fun e w' => e = .returned (.complex .f64 r' i') ∧ w = w' := by
  have T := fun w => turned_c r i w
  have f1 := FI.ofInt (n : Int) (by omega)
  have f2 := FI.ofInt (o : Int) (by omega)
  obtain ⟨fn, hfn⟩ : ∃ x, floatOfInt .f64 (n : Int) = x := ⟨_, rfl⟩
  obtain ⟨fo, hfo⟩ : ∃ x, floatOfInt .f64 (o : Int) = x := ⟨_, rfl⟩
  rw [hfn] at f1
  rw [hfo] at f2
  have M := fun w => many8_c fo 0 w
  obtain ⟨r3, e1, h1⟩ := h.im.neg.add f1 (by omega)
  obtain ⟨i3, e2, h2⟩ := h.re.add FI.zero (by omega)
  have cs := fun w => csum (.inl rfl) e1 e2 w
  obtain ⟨r5, e3, h3⟩ := h1.sub f2 (by omega)
  obtain ⟨i5, e4, h4⟩ := h2.sub FI.zero (by omega)
  have cs2 := fun w => csum (.inr rfl) e3 e4 w
  obtain ⟨r6, i6, hz, P⟩ := plain_c r5 i5 (-b + n - o) (a + 0 - 0) ⟨h3, h4⟩ (by unfold Sml; omega) (by unfold Sml; omega)
  rw [show a + 0 - 0 = a by omega] at hz
  refine ⟨r6, i6, hz, fun w => ?_⟩
  clear h ho hn q1 q2 f1 f2 e1 e2 e3 e4 h1 h2 h3 h4 hz
  generalize Op.negFloat .f64 i = ni at *
  go_enter Tryz.func225, Tryz.ntmps225
  go_wp2_with fail
  refine (T _).mono ?_
  rintro e w1 ⟨rfl, rfl⟩
  go_wp2_with fail
  refine (M _).mono ?_
  rintro e w1 ⟨rfl, rfl⟩
  go_wp2_with fail
  refine (P _).mono ?_
  rintro e w1 ⟨rfl, rfl⟩
  go_wp2_with fail
  go_ret
  exact ⟨rfl, rfl⟩
theorem FI.most : FI 4832362400168542208 1125899906842624 := by
  have := FI.ofInt 1125899906842624 (by decide)
  rwa [show floatOfInt .f64 1125899906842624 = 4832362400168542208 by decide +kernel] at this
theorem FI.least : FI 14055734437023318016 (-1125899906842624) := by
  have := FI.ofInt (-1125899906842624) (by decide)
  rwa [show floatOfInt .f64 (-1125899906842624) = 14055734437023318016 by decide +kernel] at this
theorem cell_mod (x : Int) : (if Int.tmod x 16 < 0 then Int.tmod x 16 + 16 else Int.tmod x 16) = x % 16 := by
  rcases Int.lt_or_le x 0 with h | h
  · have : Int.tmod x 16 = -((-x) % 16) := by
      rw [show x = -(-x) by omega, Int.neg_tmod, Int.tmod_eq_emod_of_nonneg (by omega)]
      congr 2; omega
    rw [this]
    split <;> omega
  · rw [Int.tmod_eq_emod_of_nonneg h]
    split <;> omega
theorem Cell_c (r i : Nat) (a b : Int) (w : World) (h : ZI r i a b) (q1 : a.natAbs < 1000000) (q2 : b.natAbs < 1000000) : Calls Tryz.prog 186 #[.complex .f64 r i, .int .i64 16] w fun e w' => e = .returned (.int .i64 ((a + 3 * b) % 16)) ∧ w = w' := by
  have o1 : FloatKind.f64.format.order r 14055734437023318016 = some .gt := by
    rw [show FloatKind.f64.format.order r 14055734437023318016 = double.order r 14055734437023318016 from rfl, h.re.order FI.least]
    have : compare a (-1125899906842624) = .gt := by rw [Int.compare_eq_gt]; omega
    rw [this]
  have o2 : FloatKind.f64.format.order r 4832362400168542208 = some .lt := by
    rw [show FloatKind.f64.format.order r 4832362400168542208 = double.order r 4832362400168542208 from rfl, h.re.order FI.most]
    have : compare a 1125899906842624 = .lt := by rw [Int.compare_eq_lt]; omega
    rw [this]
  have o3 : FloatKind.f64.format.order i 14055734437023318016 = some .gt := by
    rw [show FloatKind.f64.format.order i 14055734437023318016 = double.order i 14055734437023318016 from rfl, h.im.order FI.least]
    have : compare b (-1125899906842624) = .gt := by rw [Int.compare_eq_gt]; omega
    rw [this]
  have o4 : FloatKind.f64.format.order i 4832362400168542208 = some .lt := by
    rw [show FloatKind.f64.format.order i 4832362400168542208 = double.order i 4832362400168542208 from rfl, h.im.order FI.most]
    have : compare b 1125899906842624 = .lt := by rw [Int.compare_eq_lt]; omega
    rw [this]
  have c1 := fun w => run_convert_float_int (P := Tryz.prog) w 305 3 .f64 .i64 r a (by rw [Tryz.underlying305]; rfl) Tryz.underlying3 (h.re.toI64 (by omega) (by omega))
  have c2 := fun w => run_convert_float_int (P := Tryz.prog) w 305 3 .f64 .i64 i b (by rw [Tryz.underlying305]; rfl) Tryz.underlying3 (h.im.toI64 (by omega) (by omega))
  have k1 : IntKind.i64.wrap (3 * b) = 3 * b := by simp [IntKind.wrap, IntKind.bits, IntKind.signed]; omega
  have k2 : IntKind.i64.wrap (a + 3 * b) = a + 3 * b := by simp [IntKind.wrap, IntKind.bits, IntKind.signed]; omega
  have HM := Lib.hid (cell_mod (a + 3 * b))
  have ht : -16 < Int.tmod (a + 3 * b) 16 ∧ Int.tmod (a + 3 * b) 16 < 16 := ⟨Int.lt_tmod_of_pos _ (by decide), Int.tmod_lt_of_pos _ (by decide)⟩
  clear h q1 q2
  generalize htm : Int.tmod (a + 3 * b) 16 = tm at *
  have kw : IntKind.i64.wrap (tm + 16) = tm + 16 := by simp [IntKind.wrap, IntKind.bits, IntKind.signed]; omega
  have kw2 : wrap64 (tm + 16) = tm + 16 := by unfold wrap64; omega
  by_cases hn : tm < 0
  · have HM2 : Hid (tm + 16 = (a + 3 * b) % 16) := Lib.hid (by rw [← HM.out, if_pos hn])
    clear HM ht
    go_enter Tryz.func186, Tryz.ntmps186
    go_wp2_with fail
    go_ret
    exact ⟨by rw [← HM2.out]; rfl, rfl⟩
  · have HM2 : Hid (tm = (a + 3 * b) % 16) := Lib.hid (by rw [← HM.out, if_neg hn])
    clear HM ht
    go_enter Tryz.func186, Tryz.ntmps186
    go_wp2_with fail
    go_ret
    exact ⟨by rw [← HM2.out]; rfl, rfl⟩
theorem snoc_cut {α : Type} {P : List α → Prop} (h0 : P []) (h1 : ∀ l a, P l → P (l ++ [a])) : ∀ l, P l := by
  have h : ∀ n (l : List α), l.length = n → P l := by
    intro n
    induction n with
    | zero => intro l hl; rw [List.length_eq_zero_iff.1 hl]; exact h0
    | succ n ih =>
      intro l hl
      have hne : l ≠ [] := fun e => by rw [e] at hl; cases hl
      rw [← List.dropLast_concat_getLast hne]
      exact h1 _ _ (ih _ (by rw [List.length_dropLast]; omega))
  exact fun l => h _ l rfl
def zsF (z : Int × Int) (l : List UInt8) : Int × Int := l.foldl (fun z c => (-z.2 + (c.toNat : Int), z.1)) z
def zsL (l : List UInt8) : Int × Int := zsF (0, 0) l
theorem zsF_snoc (z : Int × Int) (l : List UInt8) (c : UInt8) : zsF z (l ++ [c]) = (-(zsF z l).2 + (c.toNat : Int), (zsF z l).1) := by simp [zsF]
theorem zsL_snoc (l : List UInt8) (c : UInt8) : zsL (l ++ [c]) = (-(zsL l).2 + (c.toNat : Int), (zsL l).1) := zsF_snoc _ l c
def win (l : List UInt8) : List UInt8 := l.drop (l.length - 8)
theorem win_short {l : List UInt8} (h : l.length < 8) (c : UInt8) : win l = l ∧ win (l ++ [c]) = win l ++ [c] := by
  unfold win
  rw [List.length_append, List.length_singleton, show l.length - 8 = 0 by omega, show l.length + 1 - 8 = 0 by omega]
  simp
theorem zs_abs (l : List UInt8) : (zsL l).1.natAbs ≤ 255 * l.length ∧ (zsL l).2.natAbs ≤ 255 * l.length := by
  refine snoc_cut (P := fun l => (zsL l).1.natAbs ≤ 255 * l.length ∧ (zsL l).2.natAbs ≤ 255 * l.length) (by simp [zsL, zsF]) (fun l c ih => ?_) l
  rw [zsL_snoc, List.length_append, List.length_singleton]
  have := c.toNat_lt
  simp only
  omega
theorem win_len (l : List UInt8) : (win l).length ≤ 8 := by unfold win; rw [List.length_drop]; omega
theorem win_roll {l : List UInt8} (h : 8 ≤ l.length) (c : UInt8) : zsL (win (l ++ [c])) = (-(zsL (win l)).2 + (c.toNat : Int) - ((l[l.length - 8]'(by omega)).toNat : Int), (zsL (win l)).1) := by
  have e1 : win l = l[l.length - 8]'(by omega) :: l.drop (l.length - 7) := by
    unfold win
    rw [List.drop_eq_getElem_cons (i := l.length - 8) (by omega), show l.length - 8 + 1 = l.length - 7 by omega]
  have e2 : win (l ++ [c]) = l.drop (l.length - 7) ++ [c] := by
    unfold win
    rw [List.length_append, List.length_singleton, show l.length + 1 - 8 = l.length - 7 by omega, List.drop_append_of_le_length (by omega)]
  have hl : (l.drop (l.length - 7)).length = 7 := by rw [List.length_drop]; omega
  rw [e1, e2]
  generalize (l[l.length - 8]'(by omega)) = o
  generalize l.drop (l.length - 7) = m at hl
  match m, hl with
  | [a1, a2, a3, a4, a5, a6, a7], _ =>
    simp only [zsL, zsF, List.foldl_cons, List.foldl_nil, List.cons_append, List.nil_append, Prod.mk.injEq]
    exact ⟨by omega, trivial⟩
def cellL (l : List UInt8) : Int := ((zsL (win l)).1 + 3 * (zsL (win l)).2) % 16
def endL (o : List UInt8) : Bool := decide (o.length = 128) || (decide (16 ≤ o.length) && decide (cellL o = 0))
def stepC (p : List (List UInt8) × List UInt8) (c : UInt8) : List (List UInt8) × List UInt8 := if endL (p.2 ++ [c]) then (p.1 ++ [p.2 ++ [c]], []) else (p.1, p.2 ++ [c])
def cutS (s : List UInt8) : List (List UInt8) × List UInt8 := s.foldl stepC ([], [])
def cutT (s : List UInt8) : List (List UInt8) := (cutS s).1 ++ if (cutS s).2 = [] then [] else [(cutS s).2]
theorem cutS_snoc (r : List UInt8) (c : UInt8) : cutS (r ++ [c]) = stepC (cutS r) c := by unfold cutS; rw [List.foldl_append]; rfl
theorem cutS_yes {r : List UInt8} {c : UInt8} (h : endL ((cutS r).2 ++ [c]) = true) : cutS (r ++ [c]) = ((cutS r).1 ++ [(cutS r).2 ++ [c]], []) := by
  rw [cutS_snoc]; unfold stepC; rw [if_pos h]
theorem cutS_no {r : List UInt8} {c : UInt8} (h : ¬ endL ((cutS r).2 ++ [c]) = true) : cutS (r ++ [c]) = ((cutS r).1, (cutS r).2 ++ [c]) := by
  rw [cutS_snoc]; unfold stepC; rw [if_neg h]
theorem cutS_open (r : List UInt8) : (cutS r).2.length < 128 := by
  refine snoc_cut (P := fun r => (cutS r).2.length < 128) (by simp [cutS]) (fun r c ih => ?_) r
  by_cases h : endL ((cutS r).2 ++ [c]) = true
  · rw [cutS_yes h]; simp
  · rw [cutS_no h]
    have : ¬ ((cutS r).2 ++ [c]).length = 128 := fun e => h (by unfold endL; simp [e])
    simp only [List.length_append, List.length_singleton] at this ⊢
    omega
def Parts (L : List (List UInt8)) : Prop := ∀ p ∈ L, 1 ≤ p.length ∧ p.length ≤ 128
theorem Parts.len : ∀ {L : List (List UInt8)}, Parts L → L.length ≤ L.flatten.length
  | [], _ => by simp
  | p :: L, h => by
    have h1 := Parts.len (L := L) fun q hq => h q (by simp [hq])
    have h2 := (h p (by simp)).1
    rw [List.flatten_cons, List.length_append, List.length_cons]; omega
theorem cutS_parts (r : List UInt8) : Parts (cutS r).1 ∧ (cutS r).1.flatten ++ (cutS r).2 = r := by
  refine snoc_cut (P := fun r => Parts (cutS r).1 ∧ (cutS r).1.flatten ++ (cutS r).2 = r) ⟨fun p hp => by simp [cutS] at hp, by simp [cutS]⟩ (fun r c ih => ?_) r
  obtain ⟨h1, h2⟩ := ih
  have ho := cutS_open r
  by_cases h : endL ((cutS r).2 ++ [c]) = true
  · rw [cutS_yes h]
    refine ⟨fun p hp => ?_, ?_⟩
    · rcases List.mem_append.1 hp with hp | hp
      · exact h1 p hp
      · simp at hp; subst hp; simp; omega
    · simp only [List.flatten_append, List.flatten_cons, List.flatten_nil, List.append_nil]
      rw [← List.append_assoc, h2]
  · rw [cutS_no h]
    exact ⟨h1, by simp only; rw [← List.append_assoc, h2]⟩
theorem cutT_ok (s : List UInt8) : Parts (cutT s) ∧ (cutT s).flatten = s ∧ (cutT s).length ≤ s.length := by
  obtain ⟨h1, h2⟩ := cutS_parts s
  have ho := cutS_open s
  have hp : Parts (cutT s) := by
    unfold cutT
    by_cases h : (cutS s).2 = []
    · rw [if_pos h, List.append_nil]; exact h1
    · rw [if_neg h]
      intro p hp
      rcases List.mem_append.1 hp with hp | hp
      · exact h1 p hp
      · simp at hp; subst hp
        have : (cutS s).2.length ≠ 0 := fun e => h (List.eq_nil_of_length_eq_zero e)
        omega
  have hf : (cutT s).flatten = s := by
    unfold cutT
    by_cases h : (cutS s).2 = []
    · rw [if_pos h, List.append_nil]
      rw [h, List.append_nil] at h2
      exact h2
    · rw [if_neg h]; simpa using h2
  exact ⟨hp, hf, by have := hp.len; rwa [hf] at this⟩
end Go.Proofs.YtdcjhpafipbpkaaGreatDoor
