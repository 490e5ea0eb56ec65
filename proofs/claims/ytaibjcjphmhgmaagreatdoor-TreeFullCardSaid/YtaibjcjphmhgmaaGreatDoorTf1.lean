/- Parts of the proof of TreeFull, joined: Read, ReadC, ManyC, ManyD, FullG, RefNA, LogI, RoomI, FullA, FullB. No condition. -/
import Derived.Test.YtaibjcjphmhgmaaGreatDoorTm8
import Derived.Test.YtaibjcjphmhgmaaGreatDoorRows
import Derived.ProofKit
import Derived.OpenShut
import Derived.ChangeOld
import Derived.Below
import Derived.Deep.Slices
import Derived.Lib.SmallJoins
import Derived.WalkLawsBesides
import Derived.BigQuiet
import Derived.Deep.QuietTactic
set_option linter.unusedSimpArgs false
set_option linter.unusedVariables false
set_option linter.unusedSectionVars false
namespace Go.Proofs.YtaibjcjphmhgmaaGreatDoor
set_option maxRecDepth 100000
open Go.RowKit

theorem ownK : ownKnob Tryz.prog.godebug = none := by kernel_rfl
theorem laidOut : laidOutB Tryz.prog = true := by kernel_rfl
/-- The value v of type T can be read in the world w. -/
def Reads (w : World) (T : TypeId) (v : Value) : Prop :=
  ∃ (H : Type) (enc : TypeId × Value → H) (d : DataW H) (p : List MemPlace) (base : Nat), Value.okWide Tryz.prog w .any base T v ∧ DataW.Trod enc Tryz.prog w 0 (fun _ => true) true T v d p
theorem reads_int {w : World} {T : TypeId} {k : IntKind} {v : Value} (ht : Tryz.prog.underlying T = some (.int k)) (h : Reads w T v) : ∃ n, v = .int k n ∧ (Lit.int k n).wf = true := by
  obtain ⟨H, enc, d, p, base, h1, h2⟩ := h
  obtain ⟨n, rfl, _, _, hw⟩ := ChangeShapes.open_int ht h1 h2
  exact ⟨n, rfl, hw⟩
theorem reads_bool {w : World} {T : TypeId} {v : Value} (ht : Tryz.prog.underlying T = some .bool) (h : Reads w T v) : ∃ n, v = .bool n := by
  obtain ⟨H, enc, d, p, base, h1, h2⟩ := h
  obtain ⟨n, rfl, _, _⟩ := RowKit.open_bool ht h1 h2
  exact ⟨n, rfl⟩
theorem reads_string {w : World} {T : TypeId} {v : Value} (ht : Tryz.prog.underlying T = some .string) (h : Reads w T v) : ∃ s, v = .string s ∧ s.size ≤ maxLen := by
  obtain ⟨H, enc, d, p, base, h1, h2⟩ := h
  obtain ⟨n, rfl, _, _, hs⟩ := ChangeMaps.open_string ht h1 h2
  exact ⟨n, rfl, hs⟩
/-- A slice of cells of one cell each. -/
def SliceAt (w : World) (v : Value) (l : List Value) : Prop :=
  ∃ a cap, v = .slice a l.length cap ∧ l.length ≤ cap ∧ cap ≤ maxLen ∧ ∀ k, (h : k < l.length) → ∃ b off, a = some ⟨b, off, none⟩ ∧ w.cell? ⟨b, off + k, none⟩ = some l[k] ∧ b < w.heap.size
theorem addr_add {w : World} {a : Addr} {i : Nat} {u : Value} (h : w.cell? (a.add i) = some u) : a.add i = ⟨a.block, a.off + i, none⟩ ∧ a.block < w.heap.size := by
  have h1 := World.cell?_spot h
  have h2 := World.block_lt_of_cell? w _ h
  unfold Addr.add at h1 h2 ⊢
  split at h1
  · rename_i h0
    subst h0
    simp only [if_true] at h2 ⊢
    obtain ⟨b, o, s⟩ := a
    simp only at h1 h2 ⊢
    subst h1
    exact ⟨rfl, h2⟩
  · rename_i h0
    simp only [h0, if_false] at h2 ⊢
    exact ⟨trivial, h2⟩
theorem choose_list {α : Type} {n : Nat} {p : Nat → α → Prop} (h : ∀ i, i < n → ∃ x, p i x) : ∃ l : List α, l.length = n ∧ ∀ i, (hi : i < l.length) → p i l[i] := by
  induction n with
  | zero => exact ⟨[], rfl, fun i hi => absurd hi (by simp)⟩
  | succ n ih =>
    obtain ⟨l, hl, hp⟩ := ih (fun i hi => h i (by omega))
    obtain ⟨x, hx⟩ := h n (by omega)
    refine ⟨l ++ [x], by simp [hl], fun i hi => ?_⟩
    by_cases e : i < l.length
    · rw [List.getElem_append_left e]; exact hp i e
    · have : i = n := by simp at hi; omega
      subst this
      rw [List.getElem_append_right (by omega)]
      simpa [hl] using hx
/-- The value x, xs one cell of type e, can be read in the world w. -/
def Reads1 (w : World) (e : TypeId) (x : Value) : Prop := ∃ (H : Type) (enc : TypeId × Value → H) (m : Nat) (y : DataW H × List MemPlace), DataW.trod enc Tryz.prog w 0 (fun _ => true) true m e [x] = some y
/-- A slice whose elements are of one cell. -/
theorem reads_slice1 {w : World} {T e : TypeId} {v : Value} (ht : Tryz.prog.underlying T = some (.slice e)) (hc : Tryz.prog.cellsOf e = 1) (h : Reads w T v) : ∃ l, SliceAt w v l ∧ ∀ x ∈ l, Reads1 w e x := by
  obtain ⟨H, enc, d, p, base, h1, h2⟩ := h
  obtain ⟨a, len, cap, rfl⟩ := WideShapes.okWide_slice ht h1
  obtain ⟨fuel, hf⟩ := h2
  rcases Deep.open_slice1 ht hc hf with ⟨hcs, _⟩ | ⟨x, l, c, m, n, V, D, Pl, hcs, _, hl, hm, hmm, _, hel⟩
  · simp [Value.cells] at hcs
    obtain ⟨rfl, rfl, rfl⟩ := hcs
    exact ⟨[], ⟨none, 0, rfl, Nat.zero_le _, Nat.zero_le _, fun i hi => absurd hi (by simp)⟩, by simp⟩
  · simp [Value.cells] at hcs
    obtain ⟨rfl, rfl, rfl⟩ := hcs
    simp only [if_true] at hmm
    subst hmm
    have hlen : ((List.range len).map V).length = len := by simp
    refine ⟨(List.range len).map V, ⟨_, _, by rw [hlen], by rw [hlen]; exact hl, hm, fun k hk => ?_⟩, ?_⟩
    · rw [hlen] at hk
      obtain ⟨g1, _⟩ := hel k (by omega)
      obtain ⟨g2, g3⟩ := addr_add g1
      have e0 : x.spot = none ∨ k ≠ 0 := by
        by_cases hk0 : k = 0
        · subst hk0
          have := World.cell?_spot g1
          exact .inl (by simpa [Addr.add] using this)
        · exact .inr hk0
      obtain ⟨g4, _⟩ := hel 0 (by omega)
      have hs := World.cell?_spot g4
      have hs : x.spot = none := by simpa [Addr.add] using hs
      obtain ⟨b, o, sp⟩ := x
      simp only at hs
      subst hs
      rw [g2] at g1
      exact ⟨b, o, rfl, by simpa using g1, g3⟩
    · intro u hu
      obtain ⟨k, hk, rfl⟩ := List.mem_map.1 hu
      obtain ⟨_, g2⟩ := hel k (by have := List.mem_range.1 hk; omega)
      exact ⟨H, enc, n, _, g2⟩
theorem reads1_bool {w : World} {e : TypeId} {x : Value} (ht : Tryz.prog.underlying e = some .bool) (h : Reads1 w e x) : ∃ b, x = .bool b := by
  obtain ⟨H, enc, m, y, h⟩ := h
  obtain ⟨b, hb, _⟩ := DataW.trod_bool ht h
  exact ⟨b, by simpa using hb⟩
theorem reads1_int {w : World} {e : TypeId} {k : IntKind} {x : Value} (ht : Tryz.prog.underlying e = some (.int k)) (h : Reads1 w e x) : ∃ n, x = .int k n ∧ (Lit.int k n).wf = true := by
  obtain ⟨H, enc, m, y, h⟩ := h
  obtain ⟨b, hb, _, hw⟩ := DataW.trod_int ht h
  exact ⟨b, by simpa using hb, hw⟩
theorem reads1_string {w : World} {e : TypeId} {x : Value} (ht : Tryz.prog.underlying e = some .string) (h : Reads1 w e x) : ∃ s, x = .string s ∧ s.size ≤ maxLen := by
  obtain ⟨H, enc, m, y, h⟩ := h
  obtain ⟨b, hb, _, hw⟩ := DataW.trod_string ht h
  exact ⟨b, by simpa using hb, hw⟩
theorem list_of {α : Type} {f : α → Value} {q : α → Prop} : ∀ {l : List Value}, (∀ x ∈ l, ∃ a, x = f a ∧ q a) → ∃ xs : List α, l = xs.map f ∧ ∀ a ∈ xs, q a
  | [], _ => ⟨[], rfl, by simp⟩
  | x :: l, h => by
    obtain ⟨a, rfl, ha⟩ := h x (List.mem_cons_self ..)
    obtain ⟨xs, rfl, hxs⟩ := list_of (l := l) (fun y hy => h y (List.mem_cons_of_mem _ hy))
    exact ⟨a :: xs, rfl, by intro b hb; rcases List.mem_cons.1 hb with rfl | hb; exact ha; exact hxs b hb⟩
theorem reads_bools {w : World} {T e : TypeId} {v : Value} (ht : Tryz.prog.underlying T = some (.slice e)) (hc : Tryz.prog.cellsOf e = 1) (he : Tryz.prog.underlying e = some .bool) (h : Reads w T v) : ∃ l : List Bool, SliceAt w v (l.map Value.bool) := by
  obtain ⟨l, h1, h2⟩ := reads_slice1 ht hc h
  obtain ⟨xs, rfl, _⟩ := list_of (f := Value.bool) (q := fun _ => True) (fun x hx => by obtain ⟨b, hb⟩ := reads1_bool he (h2 x hx); exact ⟨b, hb, trivial⟩)
  exact ⟨xs, h1⟩
theorem reads_ints {w : World} {T e : TypeId} {k : IntKind} {v : Value} (ht : Tryz.prog.underlying T = some (.slice e)) (hc : Tryz.prog.cellsOf e = 1) (he : Tryz.prog.underlying e = some (.int k)) (h : Reads w T v) :
    ∃ l : List Int, SliceAt w v (l.map (Value.int k)) ∧ ∀ n ∈ l, (Lit.int k n).wf = true := by
  obtain ⟨l, h1, h2⟩ := reads_slice1 ht hc h
  obtain ⟨xs, rfl, h3⟩ := list_of (f := Value.int k) (q := fun n => (Lit.int k n).wf = true) (fun x hx => reads1_int he (h2 x hx))
  exact ⟨xs, h1, h3⟩
theorem reads_strings {w : World} {T e : TypeId} {v : Value} (ht : Tryz.prog.underlying T = some (.slice e)) (hc : Tryz.prog.cellsOf e = 1) (he : Tryz.prog.underlying e = some .string) (h : Reads w T v) :
    ∃ l : List ByteArray, SliceAt w v (l.map Value.string) ∧ ∀ s ∈ l, s.size ≤ maxLen := by
  obtain ⟨l, h1, h2⟩ := reads_slice1 ht hc h
  obtain ⟨xs, rfl, h3⟩ := list_of (f := Value.string) (q := fun s => s.size ≤ maxLen) (fun x hx => reads1_string he (h2 x hx))
  exact ⟨xs, h1, h3⟩
end Go.Proofs.YtaibjcjphmhgmaaGreatDoor
namespace Go.Proofs.YtaibjcjphmhgmaaGreatDoor
set_option maxRecDepth 100000
open Go.RowKit
/-- These cells read as a value of type e in the world w. -/
def ReadsC (w : World) (e : TypeId) (cs : List Value) : Prop := ∃ (H : Type) (enc : TypeId × Value → H) (m : Nat) (y : DataW H × List MemPlace), DataW.trod enc Tryz.prog w 0 (fun _ => true) true m e cs = some y
theorem Reads.c {w : World} {T : TypeId} {v : Value} (h : Reads w T v) : ReadsC w T v.cells.toList := by
  obtain ⟨H, enc, d, p, base, h1, fuel, hf⟩ := h
  exact ⟨H, enc, fuel, _, hf⟩
theorem reads_struct {w : World} {T : TypeId} {v : Value} {fs : Array Field} (ht : Tryz.prog.underlying T = some (.struct fs)) (h : Reads w T v) : ∃ cs : Array Value, v = .agg cs ∧ cs.size = Tryz.prog.cellsOf T ∧ ReadsC w T cs.toList := by
  have hc := h.c
  obtain ⟨H, enc, d, p, base, h1, h2⟩ := h
  obtain ⟨cs, rfl, hs⟩ := WideShapes.okWide_struct ht h1
  exact ⟨cs, rfl, hs, hc⟩
theorem reads_array {w : World} {T e : TypeId} {v : Value} {n : Nat} (ht : Tryz.prog.underlying T = some (.array n e)) (h : Reads w T v) : ∃ cs : Array Value, v = .agg cs ∧ cs.size = Tryz.prog.cellsOf T ∧ ReadsC w T cs.toList := by
  have hc := h.c
  obtain ⟨H, enc, d, p, base, h1, h2⟩ := h
  simp only [Value.okWide, ht] at h1
  obtain ⟨cs, rfl, hs, _⟩ := h1
  exact ⟨cs, rfl, hs, hc⟩
theorem readsC_struct {w : World} {T : TypeId} {cs : List Value} {fs : Array Field} (ht : Tryz.prog.underlying T = some (.struct fs)) (h : ReadsC w T cs) :
    cs.length = Tryz.prog.cellsOf T ∧ ∀ (i : Nat) (f : Field), fs[i]? = some f → ReadsC w f.type ((cs.drop f.offset).take (Tryz.prog.cellsOf f.type)) := by
  obtain ⟨H, enc, m, y, h⟩ := h
  obtain ⟨xs, n, _, _, hl, hx, hf⟩ := DataW.trod_struct ht h
  refine ⟨hl, fun i f hi => ?_⟩
  have := hf i f hi
  have hlt : i < xs.length := by rw [hx]; exact (Array.getElem?_eq_some_iff.1 hi).1
  rw [List.getElem?_eq_getElem hlt] at this
  exact ⟨H, enc, n, _, this⟩
theorem readsC_array {w : World} {T e : TypeId} {cs : List Value} {n : Nat} (ht : Tryz.prog.underlying T = some (.array n e)) (h : ReadsC w T cs) :
    cs.length = Tryz.prog.cellsOf T ∧ ∀ i, i < n → ReadsC w e ((cs.drop (i * Tryz.prog.cellsOf e)).take (Tryz.prog.cellsOf e)) := by
  obtain ⟨H, enc, m, y, h⟩ := h
  obtain ⟨xs, n, _, _, hl, hx, hf⟩ := DataW.trod_array ht h
  refine ⟨hl, fun i hi => ?_⟩
  have := hf i hi
  rw [List.getElem?_eq_getElem (by omega)] at this
  exact ⟨H, enc, n, _, this⟩
theorem readsC_bool {w : World} {T : TypeId} {cs : List Value} (ht : Tryz.prog.underlying T = some .bool) (h : ReadsC w T cs) : ∃ b, cs = [.bool b] := by
  obtain ⟨H, enc, m, y, h⟩ := h
  obtain ⟨b, hb, _⟩ := DataW.trod_bool ht h
  exact ⟨b, hb⟩
theorem readsC_int {w : World} {T : TypeId} {k : IntKind} {cs : List Value} (ht : Tryz.prog.underlying T = some (.int k)) (h : ReadsC w T cs) : ∃ n, cs = [.int k n] ∧ (Lit.int k n).wf = true := by
  obtain ⟨H, enc, m, y, h⟩ := h
  obtain ⟨b, hb, _, hw⟩ := DataW.trod_int ht h
  exact ⟨b, hb, hw⟩
theorem readsC_string {w : World} {T : TypeId} {cs : List Value} (ht : Tryz.prog.underlying T = some .string) (h : ReadsC w T cs) : ∃ s, cs = [.string s] ∧ s.size ≤ maxLen := by
  obtain ⟨H, enc, m, y, h⟩ := h
  obtain ⟨b, hb, _, hw⟩ := DataW.trod_string ht h
  exact ⟨b, hb, hw⟩
/-- A slice: each element's cells stand one behind the other, and read. -/
theorem readsC_slice {w : World} {T e : TypeId} {cs : List Value} (ht : Tryz.prog.underlying T = some (.slice e)) (h0 : 0 < Tryz.prog.cellsOf e) (h : ReadsC w T cs) :
    ∃ a len cap, cs = [.slice a len cap] ∧ len ≤ cap ∧ cap ≤ maxLen ∧ ∀ k, k < len → ∃ b off es, a = some ⟨b, off, none⟩ ∧ es.length = Tryz.prog.cellsOf e ∧ b < w.heap.size ∧ (∀ j, j < es.length → w.cell? ⟨b, off + k * Tryz.prog.cellsOf e + j, none⟩ = es[j]?) ∧ ReadsC w e es := by
  obtain ⟨H, enc, m, y, h⟩ := h
  rcases Deep.open_slice ht h with ⟨rfl, _⟩ | ⟨x, l, c, m, n, D, Pl, rfl, _, hl, hm, hmm, _, hel⟩
  · exact ⟨none, 0, 0, rfl, Nat.le_refl _, Nat.zero_le _, fun k hk => by omega⟩
  · simp only [if_true] at hmm
    subst hmm
    have hget : ∀ k, k < l → ∃ es, es.length = Tryz.prog.cellsOf e ∧ (∀ j, j < es.length → w.cell? ((x.add (k * Tryz.prog.cellsOf e)).add j) = es[j]?) ∧ ReadsC w e es := by
      intro k hk
      obtain ⟨es, g1, g2⟩ := hel k (by omega)
      obtain ⟨_, q1, q2⟩ := World.cells?_some g1
      exact ⟨es, q1, fun j hj => q2 j (by omega), ⟨H, enc, n, _, g2⟩⟩
    refine ⟨some x, l, _, rfl, hl, hm, fun k hk => ?_⟩
    have hs : x.spot = none := by
      obtain ⟨es, q1, q2, _⟩ := hget 0 (by omega)
      have := q2 0 (by omega)
      rw [List.getElem?_eq_getElem (by omega)] at this
      have := World.cell?_spot this
      simpa [Addr.add] using this
    obtain ⟨es, q1, q2, q3⟩ := hget k hk
    obtain ⟨b, o, sp⟩ := x
    simp only at hs
    subst hs
    have e1 : ∀ j, ((⟨b, o, none⟩ : Addr).add (k * Tryz.prog.cellsOf e)).add j = ⟨b, o + k * Tryz.prog.cellsOf e + j, none⟩ := by
      intro j
      unfold Addr.add
      by_cases h1 : k * Tryz.prog.cellsOf e = 0 <;> by_cases h2 : j = 0 <;> simp [h1, h2]
    refine ⟨b, o, es, rfl, q1, ?_, fun j hj => by rw [← e1]; exact q2 j hj, q3⟩
    have := q2 0 (by omega)
    rw [List.getElem?_eq_getElem (by omega), e1] at this
    exact World.block_lt_of_cell? w _ this
theorem reads_slice {w : World} {T e : TypeId} {v : Value} (ht : Tryz.prog.underlying T = some (.slice e)) (h0 : 0 < Tryz.prog.cellsOf e) (h : Reads w T v) :
    ∃ a len cap, v = .slice a len cap ∧ len ≤ cap ∧ cap ≤ maxLen ∧ ∀ k, k < len → ∃ b off es, a = some ⟨b, off, none⟩ ∧ es.length = Tryz.prog.cellsOf e ∧ b < w.heap.size ∧ (∀ j, j < es.length → w.cell? ⟨b, off + k * Tryz.prog.cellsOf e + j, none⟩ = es[j]?) ∧ ReadsC w e es := by
  have hc := h.c
  obtain ⟨H, enc, d, p, base, h1, h2⟩ := h
  obtain ⟨a, len, cap, rfl⟩ := WideShapes.okWide_slice ht h1
  obtain ⟨a', len', cap', e1, r⟩ := readsC_slice ht h0 hc
  simp [Value.cells] at e1
  obtain ⟨rfl, rfl, rfl⟩ := e1
  exact ⟨_, _, _, rfl, r⟩
end Go.Proofs.YtaibjcjphmhgmaaGreatDoor
namespace Go.Proofs.YtaibjcjphmhgmaaGreatDoor
set_option linter.unusedVariables false
set_option maxRecDepth 100000
set_option maxHeartbeats 4000000
open Go.RowKit
theorem TreeSt.hgt {S : RS} {place : Nat} {o : Option TT} (k : Nat) (h : TreeSt S place o) (hs : singO o = 0) (hl : (entsO o).length < 2 ^ (k + 1)) : hgtO o ≤ k := hgt_o h hs hl
theorem awake9_c (w : World) : Calls Tryz.prog 28 #[] w fun e w' => e = .returned (.bool true) ∧ Hid (Below w.heap.size w w') := by
  have WD := Wide_c 3000 w (by decide) (by decide)
  rw [show ((3000 : Nat) : Int) = 3000 from rfl] at WD
  go_enter Tryz.func28, Tryz.ntmps28
  go_wp2_with fail
  refine WD.mono ?_
  rintro e wb ⟨db, lb, FL, rfl, H1⟩
  clear WD
  go_wp2_with fail
  refine (Begin_c lb wb).mono ?_
  rintro e wc ⟨rfl, H2⟩
  have OF := Of_c _ lb 3000 FL _ [] wc (chg_new H1.out H2.out) (by decide)
  go_wp2_with fail
  refine OF.mono ?_
  rintro e wd ⟨rb, G, rfl, H3⟩
  have NR := Lib.hid (NewRoom.of (w1 := w) (Below.refl _ _) H1.out H2.out H3.out)
  clear OF H1 H2 H3
  have AT := At_c rb 2 wd
  rw [show ((2 : Nat) : Int) = 2 from rfl] at AT
  go_wp2_with fail
  refine AT.mono ?_
  rintro e we ⟨rfl, HT⟩
  have M0 := Lib.hid (MSt.start (c := 40) NR.out (by decide) (by decide) HT.out.1 HT.out.2)
  generalize wd.heap.size = tb at *
  clear NR HT AT
  have P1 := Lib.hid (put_m w we tb rb 2 3000 0 36 none 2 ⟨#[98]⟩ ⟨#[50]⟩ M0.out (by decide) (by decide) (by decide) (by decide) (by decide) (by decide))
  clear M0
  go_wp2_with fail
  refine P1.out.mono ?_
  rintro e w3 ⟨rfl, HP1⟩
  have HX1 : Hid (∃ o, MSt w w3 tb rb 2 3000 100 o 36 ∧ entsO o = [(⟨#[98]⟩, ⟨#[50]⟩)] ∧ singO o = 0) := Lib.hid (by
    obtain ⟨o, a, b, c, d⟩ := HP1.out
    exact ⟨o, a, ins_nil b, Nat.le_zero.1 c⟩)
  clear P1 HP1
  have P2 : Hid (Calls Tryz.prog 31 #[.pointer (some ⟨tb, 0, none⟩), .string ⟨#[97]⟩, .string ⟨#[49]⟩] w3 fun e w' => e = .returned (.int .i64 0) ∧ Hid (∃ o, MSt w w' tb rb 2 3000 200 o 32 ∧ entsO o = [(⟨#[97]⟩, ⟨#[49]⟩), (⟨#[98]⟩, ⟨#[50]⟩)] ∧ singO o = 0)) := Lib.hid (by
    obtain ⟨o, a, b, c⟩ := HX1.out
    refine (put_m w w3 tb rb 2 3000 100 32 o 2 ⟨#[97]⟩ ⟨#[49]⟩ a (by decide) (by decide) (by decide) (by decide) (by decide) (a.hgt 2 c (by rw [b]; decide))).mono ?_
    rintro e w' ⟨rfl, HP⟩
    obtain ⟨o', a', b', c', d'⟩ := HP.out
    rw [b] at b'
    exact ⟨rfl, Lib.hid ⟨o', a', ins_before b' (by decide +kernel) (by decide +kernel), by omega⟩⟩)
  clear HX1
  go_wp2_with fail
  refine P2.out.mono ?_
  rintro e w4 ⟨rfl, HX2⟩
  clear P2
  have SC : Hid (Calls Tryz.prog 44 #[.pointer (some ⟨tb, 0, none⟩), .string ⟨#[]⟩, .string ⟨#[]⟩, .int .i64 9] w4 fun e w' => ∃ g cap, e = .returned (.tuple #[.slice (some ⟨g, 0, none⟩) 2 cap, .int .i64 0]) ∧ Hid (∃ S o, RSt w w' (fun k => k = tb ∨ k = g) rb 3000 200 S ∧ TB w' tb rb 2 ∧ TreeSt S 2 o ∧ entsO o = [(⟨#[97]⟩, ⟨#[49]⟩), (⟨#[98]⟩, ⟨#[50]⟩)] ∧ singO o = 0 ∧ w'.cell? ⟨g, 0, none⟩ = some (.string ⟨#[97]⟩) ∧ w'.cell? ⟨g, 1, none⟩ = some (.string ⟨#[49]⟩))) := Lib.hid (by
    obtain ⟨o, ⟨S, a1, a2, a3, a4⟩, b, c⟩ := HX2.out
    have hs := scan_r w w4 _ tb rb 2 3000 200 S o 9 a1 a2 rfl a3 (by decide) (by decide) (Nat.le_trans (a3.hgt 2 c (by rw [b]; decide)) (by decide)) (by rw [b]; decide) (by decide) (by decide)
    refine hs.mono ?_
    rintro e w' ⟨v, rfl, H⟩
    obtain ⟨hr, hk⟩ := H.out
    rw [b] at hr
    rcases hr.2 with ⟨rfl, h0⟩ | ⟨g, cap, cur, rfl, h1, h2, h3, h4, h5, h6⟩
    · cases h0
    · have k0 := hr.cellAt 0 (by decide)
      have k1 := hr.cellAt 1 (by decide)
      refine ⟨g, cap, rfl, Lib.hid ⟨S, o, hk.1.mono fun k hk => ?_, hk.2.tb a2 rfl, a3, b, c, ?_, ?_⟩⟩
      · rcases hk with rfl | rfl
        · exact .inl rfl
        · exact .inr ⟨by omega, lt_of_heap h2⟩
      · exact k0
      · exact k1)
  clear HX2
  go_wp2_with fail
  refine SC.out.mono ?_
  rintro e w5 ⟨g, cap, rfl, HX3⟩
  clear SC
  have DE : Hid (Calls Tryz.prog 33 #[.pointer (some ⟨tb, 0, none⟩), .string ⟨#[97]⟩] w5 fun e w' => e = .returned (.tuple #[.bool true, .int .i64 0]) ∧ Hid (∃ S o, RSt w w' (fun k => k = tb ∨ k = g) rb 3000 500 S ∧ TB w' tb rb 2 ∧ TreeSt S 2 o ∧ (entsO o).length = 1 ∧ hgtO o ≤ 2 ∧ w'.cell? ⟨g, 0, none⟩ = some (.string ⟨#[97]⟩) ∧ w'.cell? ⟨g, 1, none⟩ = some (.string ⟨#[49]⟩))) := Lib.hid (by
    obtain ⟨S, o, a1, a2, a3, b, c, k0, k1⟩ := HX3.out
    have hh := a3.hgt 2 c (by rw [b]; decide)
    refine (del_r w w5 _ tb rb 2 3000 200 S o ⟨#[97]⟩ a1 a2 (.inl rfl) a3 (by decide) (by decide) (by omega)).mono ?_
    rintro e w' ⟨was, rfl, H⟩
    obtain ⟨S', o', r1, r2, r3⟩ := H.out
    rcases r3 with ⟨rfl, r3⟩ | ⟨rfl, -, -, r3⟩
    · have hd := r3.2.1
      rw [b] at hd
      have he := del_first hd (by decide +kernel)
      exact ⟨rfl, Lib.hid ⟨S', o', r1, r2.tb a2 (.inl rfl), r3.1.st, by rw [he]; rfl, Nat.le_trans r3.2.2.1 hh, (World.cell?_of_block (r2 g (.inr rfl))).trans k0, (World.cell?_of_block (r2 g (.inr rfl))).trans k1⟩⟩
    · exact absurd rfl (r3 (⟨#[97]⟩, ⟨#[49]⟩) (by rw [b]; simp)))
  clear HX3
  go_wp2_with fail
  refine DE.out.mono ?_
  rintro e w6 ⟨rfl, HX4⟩
  clear DE
  have CN : Hid (Calls Tryz.prog 32 #[.pointer (some ⟨tb, 0, none⟩)] w6 fun e w' => e = .returned (.tuple #[.int .i64 1, .int .i64 0]) ∧ w'.cell? ⟨g, 0, none⟩ = some (.string ⟨#[97]⟩) ∧ w'.cell? ⟨g, 1, none⟩ = some (.string ⟨#[49]⟩) ∧ Hid (Below w.heap.size w w')) := Lib.hid (by
    obtain ⟨S, o, a1, a2, a3, b, c, k0, k1⟩ := HX4.out
    have := count_r w w6 _ tb rb 2 3000 500 S o a1 a2 (.inl rfl) a3 (by decide) (by decide) (by omega) (by omega)
    rw [b] at this
    refine this.mono ?_
    rintro e w' ⟨rfl, H⟩
    exact ⟨rfl, (World.cell?_of_block (H.out.2 g (.inr rfl))).trans k0, (World.cell?_of_block (H.out.2 g (.inr rfl))).trans k1, Lib.hid H.out.1.bel⟩)
  clear HX4
  go_wp2_with fail
  refine CN.out.mono ?_
  rintro e w7 ⟨rfl, k0, k1, HB⟩
  clear CN
  go_wp2_with fail
  go_ret
  exact ⟨rfl, HB⟩
end Go.Proofs.YtaibjcjphmhgmaaGreatDoor
namespace Go.Proofs.YtaibjcjphmhgmaaGreatDoor
set_option linter.unusedVariables false
set_option maxRecDepth 100000
set_option maxHeartbeats 4000000
open Go.RowKit
/-- .. at numbers out of the law's bounds. -/
theorem many_out (n step size : Int) (w : World) (h : n < 0 ∨ 400 < n ∨ step < 1 ∨ 1000 < step ∨ size < 0 ∨ 56 < size) :
    Calls Tryz.prog 5 #[.int .i64 n, .int .i64 step, .int .i64 size] w fun e w' => e = .returned (.bool true) ∧ Hid (Below w.heap.size w w') := by
  have AW := awake9_c
  have fin : ∀ w1, Below (w.alloc (.cells #[.int .i64 step] 3)).heap.size (w.alloc (.cells #[.int .i64 step] 3)) w1 → w1.cell? ⟨w.heap.size, 0, none⟩ = some (.int .i64 step) ∧ Hid (Below w.heap.size w w1) := fun w1 hb =>
    ⟨(hb.cell (p := ⟨w.heap.size, 0, none⟩) (by simp)).trans (cell_lit (heap_alloc_new _ _) rfl), Lib.hid (((Below.refl w.heap.size w).alloc (Nat.le_refl _) _).trans (hb.mono (by simp)))⟩
  rcases Int.lt_or_le n 0 with q1 | q1
  · go_enter Tryz.func5, Tryz.ntmps5
    go_wp2_with fail
    refine (AW _).mono ?_
    rintro e w1 ⟨rfl, hb⟩
    obtain ⟨k0, HB⟩ := fin w1 hb.out
    go_wp2_with fail
    go_ret
    exact ⟨rfl, HB⟩
  rcases Int.lt_or_le 400 n with q2 | q2
  · go_enter Tryz.func5, Tryz.ntmps5
    go_wp2_with fail
    refine (AW _).mono ?_
    rintro e w1 ⟨rfl, hb⟩
    obtain ⟨k0, HB⟩ := fin w1 hb.out
    go_wp2_with fail
    go_ret
    exact ⟨rfl, HB⟩
  rcases Int.lt_or_le step 1 with q3 | q3
  · go_enter Tryz.func5, Tryz.ntmps5
    go_wp2_with fail
    refine (AW _).mono ?_
    rintro e w1 ⟨rfl, hb⟩
    obtain ⟨k0, HB⟩ := fin w1 hb.out
    go_wp2_with fail
    go_ret
    exact ⟨rfl, HB⟩
  rcases Int.lt_or_le 1000 step with q4 | q4
  · go_enter Tryz.func5, Tryz.ntmps5
    go_wp2_with fail
    refine (AW _).mono ?_
    rintro e w1 ⟨rfl, hb⟩
    obtain ⟨k0, HB⟩ := fin w1 hb.out
    go_wp2_with fail
    go_ret
    exact ⟨rfl, HB⟩
  have q0 : 0 ≤ step := by omega
  have q5 : (step % 1009 == 0) = false := by simp; omega
  rcases Int.lt_or_le size 0 with q6 | q6
  · clear h
    go_enter Tryz.func5, Tryz.ntmps5
    go_wp2_with fail
    refine (AW _).mono ?_
    rintro e w1 ⟨rfl, hb⟩
    obtain ⟨k0, HB⟩ := fin w1 hb.out
    go_wp2_with fail
    go_ret
    exact ⟨rfl, HB⟩
  have q7 : 56 < size := by omega
  clear h
  go_enter Tryz.func5, Tryz.ntmps5
  go_wp2_with fail
  refine (AW _).mono ?_
  rintro e w1 ⟨rfl, hb⟩
  obtain ⟨k0, HB⟩ := fin w1 hb.out
  go_wp2_with fail
  go_ret
  exact ⟨rfl, HB⟩
/-- The state of the law: the keys that are there. -/
def ManyS (w1 w : World) (tb rb m step : Nat) (c k : Nat) (P : Nat → Prop) : Prop :=
  ∃ o, MSt w1 w tb rb 0 30000 m o c ∧ KeysAre (mkey step) P (entsO o) ∧ (entsO o).length = k
theorem many_put {w1 w : World} {tb rb step i n c : Nat} {val : ByteArray} (h : ∃ o, MSt w1 w tb rb 0 30000 (100 * i) o (c + 12) ∧ KeysAre (mkey step) (fun j => j < i) (entsO o) ∧ (entsO o).length = i ∧ singO o = 0) (hi : i < 400) (h1 : 0 < step) (h2 : step < 1009) (hv : val.size ≤ 56) :
    Calls Tryz.prog 31 #[.pointer (some ⟨tb, 0, none⟩), .string (mkey step i), .string val] w fun e w' => e = .returned (.int .i64 0) ∧ Hid (∃ o, MSt w1 w' tb rb 0 30000 (100 * (i + 1)) o c ∧ KeysAre (mkey step) (fun j => j < i + 1) (entsO o) ∧ (entsO o).length = i + 1 ∧ singO o = 0) := by
  obtain ⟨o, a, b, d, e⟩ := h
  refine (put_m w1 w tb rb 0 30000 (100 * i) c o 10 (mkey step i) val a (by decide) (by omega) (mkey_size step i) hv (by decide) (a.hgt 10 e (by rw [d]; omega))).mono ?_
  rintro e' w' ⟨rfl, H⟩
  obtain ⟨o', a', b', c', d'⟩ := H.out
  obtain ⟨k1, k2⟩ := b.ins (fun j hj he => by
    have := mkey_inj h1 h2 (by omega) (by omega) he
    omega) b'
  refine ⟨rfl, Lib.hid ⟨o', a', ⟨fun e he => ?_, fun j hj => k1.all j (by omega)⟩, by omega, by omega⟩⟩
  obtain ⟨j, hj, h3⟩ := k1.of e he
  exact ⟨j, by omega, h3⟩
theorem many_del {w1 w : World} {tb rb step j n c : Nat} (h : ∃ o, MSt w1 w tb rb 0 30000 (100 * n + 300 * j) o c ∧ KeysAre (mkey step) (fun i => i < n ∧ (i % 2 = 1 ∨ 2 * j ≤ i)) (entsO o) ∧ (entsO o).length + j = n ∧ hgtO o ≤ 10) (hj : 2 * j < n) (hn : n ≤ 400) (h1 : 0 < step) (h2 : step < 1009) :
    Calls Tryz.prog 33 #[.pointer (some ⟨tb, 0, none⟩), .string (mkey step (2 * j))] w fun e w' => e = .returned (.tuple #[.bool true, .int .i64 0]) ∧ Hid (∃ o, MSt w1 w' tb rb 0 30000 (100 * n + 300 * (j + 1)) o c ∧ KeysAre (mkey step) (fun i => i < n ∧ (i % 2 = 1 ∨ 2 * (j + 1) ≤ i)) (entsO o) ∧ (entsO o).length + (j + 1) = n ∧ hgtO o ≤ 10) := by
  obtain ⟨o, a, b, d, e⟩ := h
  refine (del_m w1 w tb rb 0 30000 (100 * n + 300 * j) c o (mkey step (2 * j)) a (by decide) (by omega) (by omega)).mono ?_
  rintro e' w' ⟨was, rfl, H⟩
  obtain ⟨o', a', H'⟩ := H.out
  rcases H' with ⟨rfl, b', c', d'⟩ | ⟨rfl, rfl, b'⟩
  · obtain ⟨k1, k2⟩ := b.del a.srt b' (fun i hi hne he => hne (mkey_inj h1 h2 (by omega) (by omega) he))
    refine ⟨rfl, Lib.hid ⟨o', by rw [show 100 * n + 300 * (j + 1) = 100 * n + 300 * j + 300 by omega]; exact a', ⟨fun e he => ?_, fun i hi => k1.all i (by omega)⟩, by omega, by omega⟩⟩
    obtain ⟨i, hi, h3⟩ := k1.of e he
    exact ⟨i, by omega, h3⟩
  · obtain ⟨v, hv⟩ := b.all (2 * j) (by omega)
    exact absurd rfl (b' _ hv)
theorem many_get {w1 w : World} {tb rb step i n c m : Nat} (h : ∃ o, MSt w1 w tb rb 0 30000 m o c ∧ KeysAre (mkey step) (fun i => i < n ∧ i % 2 = 1) (entsO o) ∧ (entsO o).length = n / 2 ∧ hgtO o ≤ 10) (hi : i < n) (hn : n ≤ 400) (hm : m ≤ 3900000) (h1 : 0 < step) (h2 : step < 1009) :
    Calls Tryz.prog 35 #[.pointer (some ⟨tb, 0, none⟩), .string (mkey step i)] w fun e w' => ∃ v ok, e = .returned (.tuple #[.string v, .bool ok, .int .i64 0]) ∧ ((i : Int) % 2 == 1) = ok ∧ Hid (∃ o, MSt w1 w' tb rb 0 30000 m o c ∧ KeysAre (mkey step) (fun i => i < n ∧ i % 2 = 1) (entsO o) ∧ (entsO o).length = n / 2 ∧ hgtO o ≤ 10) := by
  obtain ⟨o, a, b, d, e⟩ := h
  refine (get_m w1 w tb rb 0 30000 m c o (mkey step i) a (by decide) hm (by omega)).mono ?_
  rintro e' w' ⟨v, ok, rfl, g, H⟩
  refine ⟨v, ok, rfl, ?_, Lib.hid ⟨o, H.out, b, d, e⟩⟩
  rcases g with ⟨rfl, g⟩ | ⟨rfl, -, g⟩
  · obtain ⟨j, hj, h3⟩ := b.of _ g
    have := mkey_inj h1 h2 (by omega) (by omega) h3
    simp; omega
  · have : i % 2 ≠ 1 := fun h => by
      obtain ⟨v', hv⟩ := b.all i ⟨hi, h⟩
      exact g _ hv rfl
    simp; omega
theorem many_count {w1 w : World} {tb rb step c m k : Nat} {P : Nat → Prop} (h : ∃ o, MSt w1 w tb rb 0 30000 m o c ∧ KeysAre (mkey step) P (entsO o) ∧ (entsO o).length = k ∧ hgtO o ≤ 10) (hm : m ≤ 3900000) (hk : k ≤ 400) :
    Calls Tryz.prog 32 #[.pointer (some ⟨tb, 0, none⟩)] w fun e w' => e = .returned (.tuple #[.int .i64 (k : Int), .int .i64 0]) ∧ Hid (∃ o, MSt w1 w' tb rb 0 30000 m o c ∧ KeysAre (mkey step) P (entsO o) ∧ (entsO o).length = k ∧ hgtO o ≤ 10) := by
  obtain ⟨o, a, b, d, e⟩ := h
  refine (count_m w1 w tb rb 0 30000 m c o a (by decide) hm (by omega) (by omega)).mono ?_
  rintro e' w' ⟨rfl, H⟩
  exact ⟨by rw [d], Lib.hid ⟨o, H.out, b, d, e⟩⟩
theorem many_check {w1 w : World} {tb rb step c m k : Nat} {P : Nat → Prop} (h : ∃ o, MSt w1 w tb rb 0 30000 m o c ∧ KeysAre (mkey step) P (entsO o) ∧ (entsO o).length = k ∧ hgtO o ≤ 10) (hm : m ≤ 3900000) :
    Calls Tryz.prog 34 #[.pointer (some ⟨tb, 0, none⟩)] w fun e w' => ∃ p : Nat, e = .returned (.tuple #[.int .i64 (p : Int), .int .i64 0]) ∧ Hid (∃ o, MSt w1 w' tb rb 0 30000 m o c ∧ KeysAre (mkey step) P (entsO o) ∧ (entsO o).length = k ∧ hgtO o ≤ 10) := by
  obtain ⟨o, a, b, d, e⟩ := h
  refine (check_m w1 w tb rb 0 30000 m c o a (by decide) hm (by omega)).mono ?_
  rintro e' w' ⟨rfl, H⟩
  exact ⟨_, rfl, Lib.hid ⟨o, H.out, b, d, e⟩⟩
theorem make_val (w : World) (n : Nat) (h : n ≤ 56) : ∃ (w' : World) (v : Value) (val : ByteArray), (Instr.makeSlice 72 (.int .i64 (n : Int)) (.int .i64 (n : Int))).run Tryz.prog w = .ok v w' ∧ (convert 72 9 v).run Tryz.prog w' = .ok (.string val) w' ∧ val.size ≤ 56 ∧ Below w.heap.size w w' := by
  obtain ⟨j0, hj, hz0, hz1, hz2⟩ := info_parts infoB
  obtain ⟨w1, hr, ho, hg⟩ := run_makeSlice_full (P := Tryz.prog) w w.heap.size 72 5 j0 _ 1 Tryz.underlying72 hj hz0 hz1 .i64 .i64 n (by omega) (by rw [hz2]; omega) (by unfold maxLen; omega) (Nat.le_refl _)
  have e : (madeCells (Value.int .u8 0).cells (n * 1)).toList = bytesC (List.replicate n 0) := by
    rw [show (Value.int .u8 0).cells = #[Value.int .u8 0] from rfl, toList_madeCells_one]
    simp [bytesC]
  rw [e] at ho
  refine ⟨w1, _, _, hr, conv_rowC ho, ?_, (Below.refl _ _).grown hg (Nat.le_refl _) (fun _ e => by cases e)⟩
  show (⟨(List.replicate n (0 : UInt8)).toArray⟩ : ByteArray).size ≤ 56
  rw [Lib.size_eq]; simp; omega
theorem many_in (n step size : Nat) (w : World) (hn : n ≤ 400) (h1 : 1 ≤ step) (h2 : step ≤ 1000) (hs : size ≤ 56) :
    Calls Tryz.prog 5 #[.int .i64 (n : Int), .int .i64 (step : Int), .int .i64 (size : Int)] w fun e w' => e = .returned (.bool true) ∧ Hid (Below w.heap.size w w') := by
  have AW := awake9_c
  have WD := fun w => Wide_c 30000 w (by decide) (by decide)
  rw [show ((30000 : Nat) : Int) = 30000 from rfl] at WD
  have BE := Begin_c
  obtain ⟨w0, hw0⟩ : ∃ w0, w.alloc (.cells #[.int .i64 (step : Int)] 3) = w0 := ⟨_, rfl⟩
  have fin : Hid (∀ w1, Below w0.heap.size w0 w1 → w1.cell? ⟨w.heap.size, 0, none⟩ = some (.int .i64 (step : Int)) ∧ Hid (Below w.heap.size w w1)) := Lib.hid fun w1 hb => by
    subst hw0
    exact ⟨(hb.cell (p := ⟨w.heap.size, 0, none⟩) (by simp)).trans (cell_lit (heap_alloc_new _ _) rfl), Lib.hid (((Below.refl w.heap.size w).alloc (Nat.le_refl _) _).trans (hb.mono (by simp)))⟩
  obtain ⟨N, hN⟩ : ∃ N : Int, (n : Int) = N := ⟨_, rfl⟩
  obtain ⟨ST, hST⟩ : ∃ N : Int, (step : Int) = N := ⟨_, rfl⟩
  obtain ⟨SZ, hSZ⟩ : ∃ N : Int, (size : Int) = N := ⟨_, rfl⟩
  have HNN := Lib.hid hN
  have HSS := Lib.hid hST
  have HZZ := Lib.hid hSZ
  have HLIM : Hid (n ≤ 400 ∧ 0 < step ∧ step ≤ 1000 ∧ step < 1009 ∧ size ≤ 56) := Lib.hid (by omega)
  have q1 : ¬ N < 0 := by omega
  have q2 : ¬ 400 < N := by omega
  have q3 : ¬ ST < 1 := by omega
  have q4 : ¬ 1000 < ST := by omega
  have q0 : 0 ≤ ST := by omega
  have q5 : (ST % 1009 == 0) = false := by simp; omega
  have q6 : ¬ SZ < 0 := by omega
  have q7 : ¬ 56 < SZ := by omega
  rw [hST] at fin hw0 ⊢
  rw [hN, hSZ]
  clear hn h1 h2 hs hST hN hSZ
  go_enter Tryz.func5, Tryz.ntmps5
  go_wp2_with fail
  refine (AW _).mono ?_
  rintro e w1 ⟨rfl, hb⟩
  obtain ⟨k0, -⟩ := fin.out w1 hb.out
  go_wp2_with fail
  refine (WD _).mono ?_
  rintro e wb ⟨db, lb, FL, rfl, H1⟩
  go_wp2_with fail
  refine (BE lb wb).mono ?_
  rintro e wc ⟨rfl, H2⟩
  have OF := Of_c _ lb 30000 FL _ [] wc (chg_new H1.out H2.out) (by decide)
  go_wp2_with fail
  refine OF.mono ?_
  rintro e wd ⟨rb, G, rfl, H3⟩
  have NR := Lib.hid (NewRoom.of hb.out H1.out H2.out H3.out)
  clear OF H1 H2 H3 k0 hb WD BE AW
  have AT := At_c rb 0 wd
  rw [show ((0 : Nat) : Int) = 0 from rfl] at AT
  go_wp2_with fail
  refine AT.mono ?_
  rintro e we ⟨rfl, HT⟩
  have M0 := Lib.hid (MSt.start (c := 12 * 400) NR.out (by decide) (by decide) HT.out.1 HT.out.2)
  generalize wd.heap.size = tb at *
  clear NR HT AT
  have hmf : ∀ (fn : Fn) (first cap : Array Value) (w : World), (Instr.makeFunc fn first cap).run Tryz.prog w = .ok (.func fn first cap) w := fun _ _ _ _ => rfl
  obtain ⟨wf, mv, val, hmk, hcv, hval, hbf⟩ := make_val we size HLIM.out.2.2.2.2
  rw [HZZ.out] at hmk
  have HV := Lib.hid hval
  have M1 : Hid (∃ o, MSt w0 wf tb rb 0 30000 (100 * 0) o (12 * (400 - 0)) ∧ KeysAre (mkey step) (fun j => j < 0) (entsO o) ∧ (entsO o).length = 0 ∧ singO o = 0) := Lib.hid ⟨none, M0.out.below hbf, ⟨fun e he => (by cases he), fun j hj => absurd hj (by omega)⟩, rfl, rfl⟩
  clear hval hbf M0
  have KEY : Hid (∀ (i : Nat) (wr : World), i ≤ 400 → Below w0.heap.size w0 wr → Calls Tryz.prog 30 #[.int .i64 (i : Int), .pointer (some ⟨w.heap.size, 0, none⟩)] wr fun e w' => e = .returned (.string (mkey step i)) ∧ Hid (Below wr.heap.size wr w')) := Lib.hid fun i wr hi hb =>
    Key_c w.heap.size step i wr (by rw [HSS.out]; exact (fin.out wr hb).1) HLIM.out.2.2.1 hi
  go_wp2_with fail
  go_loopg [70] n (fun g s70 wr => ∃ i : Nat, g = n - i ∧ i ≤ n ∧ s70 = .int .i64 (i : Int) ∧ Hid (∃ o, MSt w0 wr tb rb 0 30000 (100 * i) o (12 * (400 - i)) ∧ KeysAre (mkey step) (fun j => j < i) (entsO o) ∧ (entsO o).length = i ∧ singO o = 0))
  case atStart => exact ⟨0, by omega, Nat.zero_le _, rfl, M1.out⟩
  case round =>
    obtain ⟨i, rfl, hi, rfl, HM⟩ := hrel
    by_cases hlt : i < n
    · have hltI : (i : Int) < N := by rw [← HNN.out]; omega
      have hi4 : i ≤ 400 := by have := HLIM.out; omega
      have KY := KEY.out i wr hi4 (by obtain ⟨o, a, -⟩ := HM.out; exact a.bel)
      have HLT := Lib.hid hlt
      clear hlt hi M1
      go_wp2_with fail
      refine KY.mono ?_
      rintro e w5 ⟨rfl, hb⟩
      have PT := many_put (w1 := w0) (w := w5) (tb := tb) (rb := rb) (step := step) (i := i) (n := n) (c := 12 * (400 - (i + 1))) (val := val) (by
        have h4 := HLT.out
        have h5 := HLIM.out
        obtain ⟨o, a, b, d, e⟩ := HM.out
        refine ⟨o, ?_, b, d, e⟩
        have := a.below hb.out
        rwa [show 12 * (400 - i) = 12 * (400 - (i + 1)) + 12 by omega] at this) (by have := HLT.out; have := HLIM.out; omega) HLIM.out.2.1 HLIM.out.2.2.2.1 HV.out
      clear KY hb
      go_wp2_with fail
      refine PT.mono ?_
      rintro e w6 ⟨rfl, HM6⟩
      clear PT
      go_wp2_with fail
      go_roundg (n - (i + 1))
      case measure => have := HLT.out; omega
      case rel => exact ⟨i + 1, rfl, HLT.out, by congr 1, HM6.out⟩
    · obtain rfl : i = n := by omega
      have hltI : ¬ (i : Int) < N := by rw [← HNN.out]; omega
      have HM2 : Hid (∃ o, MSt w0 wr tb rb 0 30000 (100 * i) o (12 * (400 - i)) ∧ KeysAre (mkey step) (fun j => j < i) (entsO o) ∧ (entsO o).length = i ∧ hgtO o ≤ 10) := Lib.hid (by
        obtain ⟨o, a, b, d, e⟩ := HM.out
        exact ⟨o, a, b, d, a.hgt 10 e (by rw [d]; have := HLIM.out; omega)⟩)
      have CT := many_count HM2.out (by have := HLIM.out; omega) HLIM.out.1
      rw [HNN.out] at CT
      clear HM M1 hi hlt HM2
      go_wp2_with fail
      refine CT.mono ?_
      rintro e w5 ⟨rfl, HM5⟩
      clear CT
      have D0 : Hid (∃ o, MSt w0 w5 tb rb 0 30000 (100 * i + 300 * 0) o (12 * (400 - i)) ∧ KeysAre (mkey step) (fun k => k < i ∧ (k % 2 = 1 ∨ 2 * 0 ≤ k)) (entsO o) ∧ (entsO o).length + 0 = i ∧ hgtO o ≤ 10) := Lib.hid (by
        obtain ⟨o, a, b, d, e⟩ := HM5.out
        refine ⟨o, a, ⟨fun x hx => ?_, fun k hk => b.all k hk.1⟩, by omega, e⟩
        obtain ⟨k, hk, h3⟩ := b.of x hx
        exact ⟨k, ⟨hk, .inr (by omega)⟩, h3⟩)
      clear HM5
      go_wp2_with fail
      go_loopg [16] i (fun g s16 wr => ∃ j : Nat, g = i - j ∧ 2 * j ≤ i + 1 ∧ s16 = .int .i64 (2 * (j : Int)) ∧ Hid (∃ o, MSt w0 wr tb rb 0 30000 (100 * i + 300 * j) o (12 * (400 - i)) ∧ KeysAre (mkey step) (fun k => k < i ∧ (k % 2 = 1 ∨ 2 * j ≤ k)) (entsO o) ∧ (entsO o).length + j = i ∧ hgtO o ≤ 10))
      case atStart => exact ⟨0, by omega, by omega, rfl, D0.out⟩
      case round =>
        obtain ⟨j, rfl, hj, rfl, HM⟩ := hrel
        clear D0
        by_cases hlt : 2 * j < i
        · have hltI : 2 * (j : Int) < N := by rw [← HNN.out]; omega
          have KY := KEY.out (2 * j) wr (by have := HLIM.out; omega) (by obtain ⟨o, a, -⟩ := HM.out; exact a.bel)
          rw [show ((2 * j : Nat) : Int) = 2 * (j : Int) by omega] at KY
          have HLT := Lib.hid hlt
          have hj4 : j ≤ 400 := by have := HLIM.out; omega
          clear hlt hj
          go_wp2_with fail
          refine KY.mono ?_
          rintro e w7 ⟨rfl, hb⟩
          have DT := many_del (w1 := w0) (w := w7) (tb := tb) (rb := rb) (step := step) (j := j) (n := i) (c := 12 * (400 - i)) (by
            obtain ⟨o, a, b, d, e⟩ := HM.out
            exact ⟨o, a.below hb.out, b, d, e⟩) HLT.out HLIM.out.1 HLIM.out.2.1 HLIM.out.2.2.2.1
          clear KY hb
          go_wp2_with fail
          refine DT.mono ?_
          rintro e w8 ⟨rfl, HM8⟩
          clear DT
          go_wp2_with fail
          go_roundg (i - (j + 1))
          case measure => have := HLT.out; omega
          case rel => exact ⟨j + 1, rfl, by have := HLT.out; omega, by congr 1, HM8.out⟩
        · have hltI : ¬ 2 * (j : Int) < N := by rw [← HNN.out]; omega
          have D2 : Hid (∃ o, MSt w0 wr tb rb 0 30000 (100 * i + 300 * j) o (12 * (400 - i)) ∧ KeysAre (mkey step) (fun k => k < i ∧ k % 2 = 1) (entsO o) ∧ (entsO o).length = i / 2 ∧ hgtO o ≤ 10) := Lib.hid (by
            obtain ⟨o, a, b, d, e⟩ := HM.out
            refine ⟨o, a, ⟨fun x hx => ?_, fun k hk => b.all k ⟨hk.1, .inl hk.2⟩⟩, by omega, e⟩
            obtain ⟨k, hk, h3⟩ := b.of x hx
            exact ⟨k, ⟨hk.1, by have := hk.1; have := hk.2; omega⟩, h3⟩)
          have hmm : Hid (100 * i + 300 * j ≤ 3900000) := Lib.hid (by have := HLIM.out; omega)
          have CK := many_check D2.out hmm.out
          clear HM hlt hj
          generalize 100 * i + 300 * j = mm at *
          go_wp2_with fail
          refine CK.mono ?_
          rintro e w9 ⟨p, rfl, HM9⟩
          clear CK D2
          go_wp2_with fail
          go_loopg [120] i (fun g s120 wr => ∃ q : Nat, g = i - q ∧ q ≤ i ∧ s120 = .int .i64 (q : Int) ∧ Hid (∃ o, MSt w0 wr tb rb 0 30000 mm o (12 * (400 - i)) ∧ KeysAre (mkey step) (fun k => k < i ∧ k % 2 = 1) (entsO o) ∧ (entsO o).length = i / 2 ∧ hgtO o ≤ 10))
          case atStart => exact ⟨0, by omega, Nat.zero_le _, rfl, HM9.out⟩
          case round =>
            obtain ⟨q, rfl, hq, rfl, HM⟩ := hrel
            clear HM9
            by_cases hlt : q < i
            · have hltJ : (q : Int) < N := by rw [← HNN.out]; omega
              have hq4 : q ≤ 400 := by have := HLIM.out; omega
              have KY := KEY.out q wr hq4 (by obtain ⟨o, a, -⟩ := HM.out; exact a.bel)
              have HLT := Lib.hid hlt
              clear hlt hq
              go_wp2_with fail
              refine KY.mono ?_
              rintro e w7 ⟨rfl, hb⟩
              have GT := many_get (w1 := w0) (w := w7) (tb := tb) (rb := rb) (step := step) (i := q) (n := i) (c := 12 * (400 - i)) (m := mm) (by
                obtain ⟨o, a, b, d, e⟩ := HM.out
                exact ⟨o, a.below hb.out, b, d, e⟩) HLT.out HLIM.out.1 hmm.out HLIM.out.2.1 HLIM.out.2.2.2.1
              clear KY hb
              go_wp2_with fail
              refine GT.mono ?_
              rintro e w8 ⟨v, ok, rfl, hok, HM8⟩
              clear GT
              cases ok with
              | false =>
                go_wp2_with fail
                go_roundg (i - (q + 1))
                case measure => have := HLT.out; omega
                case rel => exact ⟨q + 1, rfl, HLT.out, by congr 1, HM8.out⟩
              | true =>
                go_wp2_with fail
                go_roundg (i - (q + 1))
                case measure => have := HLT.out; omega
                case rel => exact ⟨q + 1, rfl, HLT.out, by congr 1, HM8.out⟩
            · have hltJ : ¬ (q : Int) < N := by rw [← HNN.out]; omega
              have CT := many_count HM.out hmm.out (by have := HLIM.out; omega)
              have HBE : Hid (∀ w', (∃ o, MSt w0 w' tb rb 0 30000 mm o (12 * (400 - i)) ∧ KeysAre (mkey step) (fun k => k < i ∧ k % 2 = 1) (entsO o) ∧ (entsO o).length = i / 2 ∧ hgtO o ≤ 10) → Below w.heap.size w w') := Lib.hid (by
                rintro w' ⟨o, a, -⟩
                exact (fin.out w' a.bel).2.out)
              have hdiv : Int.tdiv N 2 = ((i / 2 : Nat) : Int) := by rw [← HNN.out, Int.tdiv_eq_ediv_of_nonneg (by omega)]; omega
              have hdiv2 : N / 2 = ((i / 2 : Nat) : Int) := by rw [← HNN.out]; omega
              clear HM hlt hq
              generalize i / 2 = half at *
              go_wp2_with fail
              refine CT.mono ?_
              rintro e w10 ⟨rfl, HM10⟩
              clear CT
              go_wp2_with fail
              go_ret
              exact ⟨rfl, HBE.out _ HM10.out⟩
end Go.Proofs.YtaibjcjphmhgmaaGreatDoor
namespace Go.Proofs.YtaibjcjphmhgmaaGreatDoor
set_option linter.unusedVariables false
set_option maxRecDepth 100000
set_option maxHeartbeats 1000000
open Go.RowKit
/-- An act on a map: what, of which map, a number, how much longer; key, value, end. -/
structure TAct where
  what : Int
  mp : Int
  nn : Int
  lg : Int
  key : ByteArray
  val : ByteArray
  tt : ByteArray
def TAct.cells (a : TAct) : List Value := [.int .i64 a.what, .int .i64 a.mp, .int .i64 a.nn, .int .i64 a.lg, .string a.key, .string a.val, .string a.tt]
structure TAct.Fits (a : TAct) : Prop where
  what : -9223372036854775808 ≤ a.what ∧ a.what ≤ 9223372036854775807
  mp : -9223372036854775808 ≤ a.mp ∧ a.mp ≤ 9223372036854775807
  nn : -9223372036854775808 ≤ a.nn ∧ a.nn ≤ 9223372036854775807
  lg : -9223372036854775808 ≤ a.lg ∧ a.lg ≤ 9223372036854775807
  key : a.key.size ≤ maxLen
  val : a.val.size ≤ maxLen
  tt : a.tt.size ≤ maxLen
theorem readsC_tact {w : World} {es : List Value} (h : ReadsC w 85 es) : ∃ a : TAct, es = a.cells ∧ a.Fits := by
  obtain ⟨hl, hf⟩ := readsC_struct Tryz.underlying85 h
  have hl : es.length = 7 := hl.trans (by kernel_rfl)
  have c0 : Tryz.prog.cellsOf 3 = 1 := by kernel_rfl
  have c1 : Tryz.prog.cellsOf 9 = 1 := by kernel_rfl
  match es, hl with
  | [a, b, c, d, x, y, z], _ =>
    have f0 : ReadsC w 3 (([a, b, c, d, x, y, z].drop 0).take (Tryz.prog.cellsOf 3)) := hf 0 _ rfl
    have f1 : ReadsC w 3 (([a, b, c, d, x, y, z].drop 1).take (Tryz.prog.cellsOf 3)) := hf 1 _ rfl
    have f2 : ReadsC w 3 (([a, b, c, d, x, y, z].drop 2).take (Tryz.prog.cellsOf 3)) := hf 2 _ rfl
    have f3 : ReadsC w 3 (([a, b, c, d, x, y, z].drop 3).take (Tryz.prog.cellsOf 3)) := hf 3 _ rfl
    have f4 : ReadsC w 9 (([a, b, c, d, x, y, z].drop 4).take (Tryz.prog.cellsOf 9)) := hf 4 _ rfl
    have f5 : ReadsC w 9 (([a, b, c, d, x, y, z].drop 5).take (Tryz.prog.cellsOf 9)) := hf 5 _ rfl
    have f6 : ReadsC w 9 (([a, b, c, d, x, y, z].drop 6).take (Tryz.prog.cellsOf 9)) := hf 6 _ rfl
    rw [c0] at f0 f1 f2 f3
    rw [c1] at f4 f5 f6
    obtain ⟨n0, e0, h0⟩ := readsC_int Tryz.underlying3 f0
    obtain ⟨n1, e1, h1⟩ := readsC_int Tryz.underlying3 f1
    obtain ⟨n2, e2, h2⟩ := readsC_int Tryz.underlying3 f2
    obtain ⟨n3, e3, h3⟩ := readsC_int Tryz.underlying3 f3
    obtain ⟨s4, e4, h4⟩ := readsC_string Tryz.underlying9 f4
    obtain ⟨s5, e5, h5⟩ := readsC_string Tryz.underlying9 f5
    obtain ⟨s6, e6, h6⟩ := readsC_string Tryz.underlying9 f6
    simp at e0 e1 e2 e3 e4 e5 e6
    subst e0 e1 e2 e3 e4 e5 e6
    have b0 := bounds_i64 h0
    have b1 := bounds_i64 h1
    have b2 := bounds_i64 h2
    have b3 := bounds_i64 h3
    exact ⟨⟨n0, n1, n2, n3, s4, s5, s6⟩, rfl, by simp only; omega, by simp only; omega, by simp only; omega, by simp only; omega, h4, h5, h6⟩
/-- The acts' cells. -/
def TActsAt (w : World) (v : Value) (l : List TAct) : Prop := ∃ a cap, v = .slice a l.length cap ∧ ∀ k, (h : k < l.length) → ∃ b off, a = some ⟨b, off, none⟩ ∧ b < w.heap.size ∧ ∀ j, j < 7 → w.cell? ⟨b, off + k * 7 + j, none⟩ = (l[k].cells)[j]?
theorem reads_tacts {w : World} {v : Value} (h : Reads w 81 v) : ∃ l : List TAct, TActsAt w v l ∧ l.length ≤ maxLen ∧ ∀ a ∈ l, a.Fits := by
  have c2 : Tryz.prog.cellsOf 85 = 7 := by kernel_rfl
  obtain ⟨a, len, cap, rfl, hlc, hcm, hel⟩ := reads_slice Tryz.underlying81 (by rw [c2]; decide) h
  rw [c2] at hel
  obtain ⟨l, hl, hp⟩ := choose_list (n := len) (p := fun k (f : TAct) => (∃ b off, a = some ⟨b, off, none⟩ ∧ b < w.heap.size ∧ ∀ j, j < 7 → w.cell? ⟨b, off + k * 7 + j, none⟩ = (f.cells)[j]?) ∧ f.Fits) (fun k hk => by
    obtain ⟨b, off, es, rfl, hes, hb, hc, hr⟩ := hel k hk
    obtain ⟨f, rfl, hf⟩ := readsC_tact hr
    exact ⟨f, ⟨b, off, rfl, hb, fun j hj => hc j (by rw [hes]; exact hj)⟩, hf⟩)
  subst hl
  refine ⟨l, ⟨a, cap, rfl, fun k hk => (hp k hk).1⟩, Nat.le_trans hlc hcm, ?_⟩
  intro p hp'
  obtain ⟨k, hk, rfl⟩ := List.mem_iff_getElem.1 hp'
  exact (hp k hk).2
/-! ### long -/
def longN (n : Int) : Nat := min n.toNat 120
def longB (s : ByteArray) (n : Int) : ByteArray := s ++ ⟨(List.replicate (longN n) (0 : UInt8)).toArray⟩
theorem longB_size (s : ByteArray) (n : Int) : (longB s n).size = s.size + longN n := by
  unfold longB
  rw [ByteArray.size_append, show (⟨(List.replicate (longN n) (0 : UInt8)).toArray⟩ : ByteArray).size = longN n by rw [Lib.size_eq]; simp]
theorem make_zero (w : World) (n : Nat) (h : n ≤ 120) : ∃ (w' : World) (v : Value), (Instr.makeSlice 72 (.int .i64 (n : Int)) (.int .i64 (n : Int))).run Tryz.prog w = .ok v w' ∧ (convert 72 9 v).run Tryz.prog w' = .ok (.string ⟨(List.replicate n (0 : UInt8)).toArray⟩) w' ∧ Below w.heap.size w w' := by
  obtain ⟨j0, hj, hz0, hz1, hz2⟩ := info_parts infoB
  obtain ⟨w1, hr, ho, hg⟩ := run_makeSlice_full (P := Tryz.prog) w w.heap.size 72 5 j0 _ 1 Tryz.underlying72 hj hz0 hz1 .i64 .i64 n (by omega) (by rw [hz2]; omega) (by unfold maxLen; omega) (Nat.le_refl _)
  have e : (madeCells (Value.int .u8 0).cells (n * 1)).toList = bytesC (List.replicate n 0) := by
    rw [show (Value.int .u8 0).cells = #[Value.int .u8 0] from rfl, toList_madeCells_one]
    simp [bytesC]
  rw [e] at ho
  exact ⟨w1, _, hr, conv_rowC ho, (Below.refl _ _).grown hg (Nat.le_refl _) (fun _ e => by cases e)⟩
theorem long_c (s : ByteArray) (n : Int) (w : World) (hs : s.size ≤ 1000) (hn : -9223372036854775808 ≤ n ∧ n ≤ 9223372036854775807) :
    Calls Tryz.prog 37 #[.string s, .int .i64 n] w fun e w' => e = .returned (.string (longB s n)) ∧ Hid (Below w.heap.size w w') := by
  have hk : longN n ≤ 120 := Nat.min_le_right _ _
  obtain ⟨w1, v, hm, hc, hb⟩ := make_zero w (longN n) hk
  have HB := Lib.hid hb
  have ha : (s.size + (⟨(List.replicate (longN n) (0 : UInt8)).toArray⟩ : ByteArray).size > 9223372036854775807) = False := by
    have : (⟨(List.replicate (longN n) (0 : UInt8)).toArray⟩ : ByteArray).size = longN n := by rw [Lib.size_eq]; simp
    rw [this]; simp; omega
  have HE : Hid (longB s n = s ++ ⟨(List.replicate (longN n) (0 : UInt8)).toArray⟩) := Lib.hid rfl
  have hx : (n ≤ 0 ∧ ((longN n : Nat) : Int) = 0) ∨ (0 < n ∧ n ≤ 120 ∧ ((longN n : Nat) : Int) = n) ∨ (120 < n ∧ ((longN n : Nat) : Int) = 120) := by unfold longN; omega
  generalize longB s n = R at *
  generalize (⟨(List.replicate (longN n) (0 : UInt8)).toArray⟩ : ByteArray) = z at *
  have ha2 : (9223372036854775807 < s.size + z.size) = False := ha
  clear hb hk hs
  rcases hx with ⟨h1, h2⟩ | ⟨h1, h2, h3⟩ | ⟨h1, h2⟩
  · rw [h2] at hm
    have m1 : max n 0 = 0 := by omega
    have m2 : min (0 : Int) 120 = 0 := rfl
    clear h2
    go_enter Tryz.func37, Tryz.ntmps37
    go_wp2_with fail
    go_ret
    exact ⟨by rw [HE.out]; rfl, HB⟩
  · rw [h3] at hm
    have m1 : max n 0 = n := by omega
    have m2 : min n 120 = n := by omega
    clear h3
    go_enter Tryz.func37, Tryz.ntmps37
    go_wp2_with fail
    go_ret
    exact ⟨by rw [HE.out]; rfl, HB⟩
  · rw [h2] at hm
    have m1 : max n 0 = n := by omega
    have m2 : min n 120 = 120 := by omega
    clear h2
    go_enter Tryz.func37, Tryz.ntmps37
    go_wp2_with fail
    go_ret
    exact ⟨by rw [HE.out]; rfl, HB⟩
/-! ### Small -/
def TAct.sml (a : TAct) : Bool := decide (a.key.size ≤ 120) && (decide (a.val.size ≤ 120) && decide (a.tt.size ≤ 120))
def smallB (l : List TAct) : Bool := decide (l.length ≤ 150) && l.all TAct.sml
theorem smallB_no {l : List TAct} {i : Nat} (h : i < l.length) (hs : l[i].sml = false) : smallB l = false := by
  unfold smallB
  have : l.all TAct.sml = false := by
    rw [List.all_eq_false]
    exact ⟨l[i], List.getElem_mem h, by simp [hs]⟩
  rw [this, Bool.and_false]
section
variable (a : Option Addr) (cap : Nat) (w : World) (l : List TAct)
theorem Small_c (hcell : ∀ k, (h : k < l.length) → ∃ b off, a = some ⟨b, off, none⟩ ∧ b < w.heap.size ∧ ∀ j, j < 7 → w.cell? ⟨b, off + k * 7 + j, none⟩ = (l[k].cells)[j]?) :
    Calls Tryz.prog 36 #[.slice a l.length cap] w fun e w' => e = .returned (.bool (smallB l)) ∧ Hid (Below w.heap.size w w') := by
  by_cases hl : 150 < l.length
  · have q : (150 : Int) < (l.length : Int) := by omega
    have HE : Hid (smallB l = false) := Lib.hid (by unfold smallB; simp; omega)
    clear hl
    go_enter Tryz.func36, Tryz.ntmps36
    go_wp2_with fail
    go_ret
    exact ⟨by rw [HE.out]; rfl, Lib.hid (Below.refl _ _)⟩
  have q : ¬ (150 : Int) < (l.length : Int) := by omega
  have HL := Lib.hid hl
  have HC := Lib.hid hcell
  clear hl hcell
  go_enter Tryz.func36, Tryz.ntmps36
  go_wp2_with fail
  go_loopg [10] l.length (fun g s10 wr => ∃ i : Nat, g = l.length - i ∧ i ≤ l.length ∧ s10 = .int .i64 (i : Int) ∧ Hid (Below w.heap.size w wr) ∧ Hid (∀ x ∈ l.take i, x.sml = true))
  case atStart => exact ⟨0, rfl, Nat.zero_le _, rfl, Lib.hid (Below.refl _ _), Lib.hid (by simp)⟩
  case round =>
    obtain ⟨i, rfl, hi, rfl, HB, HS⟩ := hrel
    by_cases hlt : i < l.length
    · obtain ⟨bb, off, rfl, hbb, hc⟩ := HC.out i hlt
      obtain ⟨x, hx⟩ : ∃ x, l[i] = x := ⟨_, rfl⟩
      rw [hx] at hc
      have HLT := Lib.hid hlt
      have D : ∀ j v, j < 7 → x.cells[j]? = some v → wr.cell? ⟨bb, off + i * 7 + j, none⟩ = some v := fun j v hj hv => (HB.out.cell (p := ⟨bb, off + i * 7 + j, none⟩) hbb).trans ((hc j hj).trans hv)
      have HN : Hid (x.sml = true → ∀ y ∈ l.take (i + 1), y.sml = true) := Lib.hid fun h => by
        rw [List.take_succ_eq_append_getElem hlt]
        intro y hy
        rcases List.mem_append.1 hy with hy | hy
        · exact HS.out y hy
        · simp at hy; rw [hy, hx]; exact h
      have HNO : Hid (x.sml = false → smallB l = false) := Lib.hid fun h => smallB_no hlt (by rw [hx]; exact h)
      obtain ⟨what, mp, nn, lg, key, val, tt⟩ := x
      have d0 : wr.cell? ⟨bb, off + i * 7, none⟩ = some (.int .i64 what) := D 0 _ (by decide) rfl
      have d1 : wr.cell? ⟨bb, off + i * 7 + 1, none⟩ = some (.int .i64 mp) := D 1 _ (by decide) rfl
      have d2 : wr.cell? ⟨bb, off + i * 7 + 2, none⟩ = some (.int .i64 nn) := D 2 _ (by decide) rfl
      have d3 : wr.cell? ⟨bb, off + i * 7 + 3, none⟩ = some (.int .i64 lg) := D 3 _ (by decide) rfl
      have d4 : wr.cell? ⟨bb, off + i * 7 + 4, none⟩ = some (.string key) := D 4 _ (by decide) rfl
      have d5 : wr.cell? ⟨bb, off + i * 7 + 5, none⟩ = some (.string val) := D 5 _ (by decide) rfl
      have d6 : wr.cell? ⟨bb, off + i * 7 + 6, none⟩ = some (.string tt) := D 6 _ (by decide) rfl
      have hlb : bb < wr.heap.size := Nat.lt_of_lt_of_le hbb HB.out.size
      have hltI : (i : Int) < (l.length : Int) := by omega
      have hi1 : i ≤ 150 := by have := HL.out; omega
      have HB2 : Hid (Below w.heap.size w (wr.alloc (.cells #[.int .i64 what, .int .i64 mp, .int .i64 nn, .int .i64 lg, .string key, .string val, .string tt] 85))) := Lib.hid (HB.out.alloc HB.out.size _)
      have hS : TAct.sml ⟨what, mp, nn, lg, key, val, tt⟩ = (decide (key.size ≤ 120) && (decide (val.size ≤ 120) && decide (tt.size ≤ 120))) := rfl
      rw [hS] at HN HNO
      clear hS D hc hx hlt HB HS
      by_cases h1 : key.size ≤ 120
      · have h1' : ¬ (120 : Int) < (key.size : Int) := by omega
        have e1 : decide (key.size ≤ 120) = true := decide_eq_true h1
        rw [e1] at HN HNO
        clear h1 e1
        by_cases h2 : val.size ≤ 120
        · have h2' : ¬ (120 : Int) < (val.size : Int) := by omega
          have e2 : decide (val.size ≤ 120) = true := decide_eq_true h2
          rw [e2] at HN HNO
          clear h2 e2
          by_cases h3 : tt.size ≤ 120
          · have h3' : ¬ (120 : Int) < (tt.size : Int) := by omega
            have e3 : decide (tt.size ≤ 120) = true := decide_eq_true h3
            rw [e3] at HN HNO
            have HN2 := Lib.hid (HN.out rfl)
            clear h3 e3 HN HNO
            go_wp2_with fail
            go_roundg (l.length - (i + 1))
            case measure => have := HLT.out; omega
            case rel => exact ⟨i + 1, rfl, HLT.out, by congr 1, HB2, HN2⟩
          · have h3' : (120 : Int) < (tt.size : Int) := by omega
            have e3 : decide (tt.size ≤ 120) = false := decide_eq_false h3
            rw [e3] at HN HNO
            have HE := Lib.hid (HNO.out rfl)
            clear h3 e3 HN HNO
            go_wp2_with fail
            go_ret
            exact ⟨by rw [HE.out]; rfl, HB2⟩
        · have h2' : (120 : Int) < (val.size : Int) := by omega
          have e2 : decide (val.size ≤ 120) = false := decide_eq_false h2
          rw [e2] at HN HNO
          have HE := Lib.hid (HNO.out rfl)
          clear h2 e2 HN HNO
          go_wp2_with fail
          go_ret
          exact ⟨by rw [HE.out]; rfl, HB2⟩
      · have h1' : (120 : Int) < (key.size : Int) := by omega
        have e1 : decide (key.size ≤ 120) = false := decide_eq_false h1
        rw [e1] at HN HNO
        have HE := Lib.hid (HNO.out rfl)
        clear h1 e1 HN HNO
        go_wp2_with fail
        go_ret
        exact ⟨by rw [HE.out]; rfl, HB2⟩
    · obtain rfl : i = l.length := by omega
      have HE : Hid (smallB l = true) := Lib.hid (by
        have h1 := HS.out
        rw [List.take_length] at h1
        have h2 := HL.out
        unfold smallB
        rw [List.all_eq_true.2 h1]; simp; omega)
      clear hlt hi HS
      go_wp2_with fail
      go_ret
      exact ⟨by rw [HE.out]; rfl, HB⟩
end
end Go.Proofs.YtaibjcjphmhgmaaGreatDoor
namespace Go.Proofs.YtaibjcjphmhgmaaGreatDoor
set_option linter.unusedVariables false
set_option maxRecDepth 100000
set_option maxHeartbeats 2000000
open Go.RowKit
abbrev Pr := ByteArray × ByteArray
theorem prC_len (L : List Pr) : (pairC L).length = L.length * 2 := by
  induction L with
  | nil => rfl
  | cons e L ih => rw [show e :: L = [e] ++ L from rfl]; simp [pairC] at ih ⊢; omega
theorem prC_get (L : List Pr) (i : Nat) (h : i < L.length) : (pairC L)[i * 2]? = some (.string L[i].1) ∧ (pairC L)[i * 2 + 1]? = some (.string L[i].2) := by
  induction L generalizing i with
  | nil => simp at h
  | cons e L ih =>
    have e1 : pairC (e :: L) = .string e.1 :: .string e.2 :: pairC L := by simp [pairC]
    rw [e1]
    cases i with
    | zero => exact ⟨rfl, rfl⟩
    | succ i =>
      have := ih i (by simpa using h)
      rw [show (i + 1) * 2 = i * 2 + 1 + 1 by omega]
      simpa using this
/-- A row of pairs. -/
def RP (base : Nat) (w : World) (v : Value) (L : List Pr) : Prop := w.ownsRow base 105 2 v L.length (pairC L)
theorem RP.lit {base : Nat} {w : World} {v : Value} {L : List Pr} (h : RP base w v L) : ∃ va vc, v = .slice va L.length vc := by
  rcases h.2 with ⟨rfl, h0⟩ | ⟨g, cap, cur, rfl, -⟩
  · exact ⟨_, _, by rw [h0]⟩
  · exact ⟨_, _, rfl⟩
theorem RP.at {base : Nat} {w : World} {va : Option Addr} {n vc : Nat} {L : List Pr} (h : RP base w (.slice va n vc) L) (i : Nat) (hi : i < L.length) (e : Pr) (he : L[i] = e) : ∃ g, va = some ⟨g, 0, none⟩ ∧ g < w.heap.size ∧ w.cell? ⟨g, i * 2, none⟩ = some (.string e.1) ∧ w.cell? ⟨g, i * 2 + 1, none⟩ = some (.string e.2) := by
  subst he
  rcases h.2 with ⟨e, h0⟩ | ⟨g, cap, cur, e, h1, h2, -⟩
  · omega
  · cases e
    obtain ⟨x, y⟩ := prC_get L i hi
    exact ⟨g, rfl, lt_of_heap h2, by rw [World.ownsRow.cellAt h (i * 2) (by omega), x], by rw [World.ownsRow.cellAt h (i * 2 + 1) (by omega), y]⟩
theorem RP.below {base : Nat} {w w' : World} {v : Value} {L : List Pr} (h : RP base w v L) (hb : Below w.heap.size w w') : RP base w' v L := ownsRow_upd h (hb.upd' (Nat.le_refl _)) fun _ _ e => e
theorem RP.le {base b2 : Nat} {w : World} {v : Value} {L : List Pr} (h : RP base w v L) (hb : b2 ≤ base) : RP b2 w v L := Joins.ownsRow_le h hb
theorem RP.nil (base : Nat) (w : World) : RP base w (.slice none 0 0) [] := ⟨by simp [pairC], .inl ⟨rfl, rfl⟩⟩
theorem RP.push {base : Nat} {W5 : World} {v5 : Value} {O : List Pr} {e : Pr} {xs : List Value} (hx : xs = [.string e.1, .string e.2]) (ho : W5.ownsRow base 105 2 v5 (O.length + 1) (pairC O ++ xs)) : RP base W5 v5 (O ++ [e]) := by
  unfold RP
  rw [List.length_append, List.length_singleton, pairC_snoc, ← hx]
  exact ho
theorem ba_eq9 {a b : ByteArray} : (a.toList == b.toList) = decide (a = b) := by
  by_cases h : a = b
  · simp [h]
  · have : ¬ a.toList = b.toList := fun e => h (by
      rw [Lib.toList_data, Lib.toList_data] at e
      exact ByteArray.ext (Array.toList_inj.1 e))
    simp [h, this]
/-! ### plain -/
def gAt (L : List Pr) (k : ByteArray) : Option Pr := L.find? fun e => decide (e.1 = k)
def gVal (L : List Pr) (k : ByteArray) : ByteArray := ((gAt L k).map Prod.snd).getD ⟨#[]⟩
def gHas (L : List Pr) (k : ByteArray) : Bool := (gAt L k).isSome
theorem gAt_split {A C : List Pr} {e : Pr} {k : ByteArray} (hA : ∀ a ∈ A, a.1 ≠ k) (he : e.1 = k) : gAt (A ++ e :: C) k = some e := by
  unfold gAt
  rw [List.find?_eq_some_iff_append]
  exact ⟨by simp [he], A, C, rfl, fun a ha => by simp [hA a ha]⟩
theorem gAt_none {L : List Pr} {k : ByteArray} (h : ∀ e ∈ L, e.1 ≠ k) : gAt L k = none := by
  unfold gAt
  rw [List.find?_eq_none]
  intro e he; simp [h e he]
theorem pr_split (L : List Pr) (i : Nat) (h : i < L.length) : L.take i ++ L[i] :: L.drop (i + 1) = L := by
  induction L generalizing i with
  | nil => simp at h
  | cons b B ih =>
    cases i with
    | zero => simp
    | succ i => simp
def dPr (k : ByteArray) (L : List Pr) : List Pr := L.filter fun e => decide (e.1 ≠ k)
theorem dPr_on {L : List Pr} {k : ByteArray} {i : Nat} (hi : i < L.length) (h : L[i].1 ≠ k) : dPr k (L.take (i + 1)) = dPr k (L.take i) ++ [L[i]] := by
  rw [List.take_succ_eq_append_getElem hi]; unfold dPr; rw [List.filter_append]; simp [h]
theorem dPr_at {L : List Pr} {k : ByteArray} {i : Nat} (hi : i < L.length) (h : L[i].1 = k) : dPr k (L.take (i + 1)) = dPr k (L.take i) := by
  rw [List.take_succ_eq_append_getElem hi]; unfold dPr; rw [List.filter_append]; simp [h]
theorem dPr_len (k : ByteArray) (L : List Pr) (i : Nat) : (dPr k (L.take i)).length ≤ i := Nat.le_trans (List.length_filter_le _ _) (List.length_take_le _ _)
/-- One round of Put. -/
def pStep (k v : ByteArray) (s : Bool × List Pr) (e : Pr) : Bool × List Pr :=
  if s.1 = true then (if e.1 = k then s else (true, s.2 ++ [e]))
  else if kless k e.1 = true then (true, (s.2 ++ [(k, v)]) ++ [e])
  else if e.1 = k then (true, s.2 ++ [(k, v)])
  else (false, s.2 ++ [e])
def pRun (k v : ByteArray) (L : List Pr) : Bool × List Pr := L.foldl (pStep k v) (false, [])
def pPut (k v : ByteArray) (L : List Pr) : List Pr := if (pRun k v L).1 = true then (pRun k v L).2 else (pRun k v L).2 ++ [(k, v)]
theorem pRun_snoc (k v : ByteArray) {L : List Pr} {i : Nat} (hi : i < L.length) : pRun k v (L.take (i + 1)) = pStep k v (pRun k v (L.take i)) L[i] := by
  rw [List.take_succ_eq_append_getElem hi]; unfold pRun; rw [List.foldl_append]; rfl
theorem pStep_len (k v : ByteArray) (s : Bool × List Pr) (e : Pr) : (pStep k v s e).2.length + (if (pStep k v s e).1 = true then 0 else 1) ≤ s.2.length + (if s.1 = true then 0 else 1) + 1 := by
  obtain ⟨d, O⟩ := s
  unfold pStep
  cases d <;> simp only [Bool.false_eq_true, if_false, if_true]
  · split
    · simp
    · split <;> simp
  · split <;> simp
theorem pRun_len (k v : ByteArray) (L : List Pr) (i : Nat) : (pRun k v (L.take i)).2.length + (if (pRun k v (L.take i)).1 = true then 0 else 1) ≤ i + 1 := by
  induction i with
  | zero => simp [pRun]
  | succ i ih =>
    by_cases h : i < L.length
    · rw [pRun_snoc k v h]
      have := pStep_len k v (pRun k v (L.take i)) L[i]
      omega
    · rw [List.take_of_length_le (by omega)]
      rw [List.take_of_length_le (by omega)] at ih
      omega
/-! ### walks -/
theorem Get09_c (base : Nat) (v : Value) (L : List Pr) (k : ByteArray) (w : World) (h : RP base w v L) (hl : L.length ≤ 1000000) :
    Calls Tryz.prog 41 #[v, .string k] w fun e w' => e = .returned (.tuple #[.string (gVal L k), .bool (gHas L k)]) ∧ w = w' := by
  obtain ⟨va, vc, rfl⟩ := h.lit
  have HR := Lib.hid h
  have HL := Lib.hid hl
  clear h hl
  go_enter Tryz.func41, Tryz.ntmps41
  go_wp2_with fail
  go_loopg [6] L.length (fun g s6 wr => ∃ i : Nat, g = L.length - i ∧ i ≤ L.length ∧ s6 = .int .i64 (i : Int) ∧ wr = w ∧ Hid (∀ e ∈ L.take i, e.1 ≠ k))
  case atStart => exact ⟨0, rfl, Nat.zero_le _, rfl, rfl, Lib.hid (by simp)⟩
  case round =>
    obtain ⟨i, rfl, hi, rfl, rfl, HA⟩ := hrel
    by_cases hlt : i < L.length
    · have HLT := Lib.hid hlt
      obtain ⟨x, hx⟩ : ∃ x, L[i]'(HLT.out) = x := ⟨_, rfl⟩
      obtain ⟨g, rfl, hg, d0, d1⟩ := HR.out.at i HLT.out x hx
      have hltI : (i : Int) < (L.length : Int) := by omega
      have hi1 : i ≤ 1000000 := by have := HL.out; omega
      by_cases he : x.1 = k
      · have p : (x.1.toList == k.toList) = true := by rw [ba_eq9]; simp [he]
        have hgat : gAt L k = some x := by
          have := gAt_split (C := L.drop (i + 1)) HA.out (show (L[i]'(HLT.out)).1 = k by rw [hx]; exact he)
          exact ((congrArg (fun l => gAt l k) (pr_split L i HLT.out)).symm.trans this).trans (by rw [hx])
        have HR1 : Hid (gVal L k = x.2 ∧ gHas L k = true) := Lib.hid (by unfold gVal gHas; rw [hgat]; exact ⟨rfl, rfl⟩)
        clear hgat hx
        obtain ⟨x1, x2⟩ := x
        simp only at p d0 d1 he HR1
        clear he hlt
        go_wp2_with fail
        go_ret2
        rw [HR1.out.1, HR1.out.2]
        exact ⟨rfl, rfl⟩
      · have p : (x.1.toList == k.toList) = false := by rw [ba_eq9]; simp [he]
        have HN : Hid (∀ e ∈ L.take (i + 1), e.1 ≠ k) := Lib.hid (by
          rw [List.take_succ_eq_append_getElem HLT.out]
          intro b hb
          rcases List.mem_append.1 hb with hb | hb
          · exact HA.out b hb
          · simp at hb; rw [hb, hx]; exact he)
        obtain ⟨x1, x2⟩ := x
        simp only at p d0 d1
        clear he hlt hx
        go_wp2_with fail
        go_roundg (L.length - (i + 1))
        case measure => have := HLT.out; omega
        case rel => exact ⟨i + 1, rfl, HLT.out, by congr 1, rfl, HN⟩
    · obtain rfl : i = L.length := by omega
      have HR1 : Hid (gVal L k = ⟨#[]⟩ ∧ gHas L k = false) := Lib.hid (by
        have := HA.out
        rw [List.take_length] at this
        unfold gVal gHas; rw [gAt_none this]; exact ⟨rfl, rfl⟩)
      clear hlt hi
      go_wp2_with fail
      go_ret2
      rw [HR1.out.1, HR1.out.2]
      exact ⟨rfl, rfl⟩
/-- What the loops keep. -/
def PRel (w0 : World) (O : List Pr) (v : Value) (W : World) : Prop := RP w0.heap.size W v O ∧ Below w0.heap.size w0 W
theorem PRel.start (w0 : World) : PRel w0 [] (.slice none 0 0) w0 := ⟨RP.nil _ _, Below.refl _ _⟩
theorem Delete09_c (base : Nat) (v : Value) (L : List Pr) (k : ByteArray) (w : World) (h : RP base w v L) (hl : L.length ≤ 1000000) :
    Calls Tryz.prog 42 #[v, .string k] w fun e w' => ∃ v', e = .returned v' ∧ Hid (PRel w (dPr k L) v' w') := by
  obtain ⟨va, vc, rfl⟩ := h.lit
  have HR := Lib.hid h
  have HL := Lib.hid hl
  clear h hl
  obtain ⟨jP, hjP, hP0, hP1, hP2⟩ := info_parts infoP
  go_enter Tryz.func42, Tryz.ntmps42
  go_wp2_with fail
  go_loopg [5, 6] L.length (fun g s5 s6 wr => ∃ i : Nat, g = L.length - i ∧ i ≤ L.length ∧ s6 = .int .i64 (i : Int) ∧ Hid (PRel w (dPr k (L.take i)) s5 wr))
  case atStart => exact ⟨0, rfl, Nat.zero_le _, rfl, Lib.hid (PRel.start w)⟩
  case round =>
    obtain ⟨i, rfl, hi, rfl, HM⟩ := hrel
    by_cases hlt : i < L.length
    · have HLT := Lib.hid hlt
      obtain ⟨x, hx⟩ : ∃ x, L[i]'(HLT.out) = x := ⟨_, rfl⟩
      obtain ⟨g, rfl, hg, d0, d1⟩ := (HR.out.below HM.out.2).at i HLT.out x hx
      have hltI : (i : Int) < (L.length : Int) := by omega
      have hi1 : i ≤ 1000000 := by have := HL.out; omega
      by_cases he : x.1 = k
      · have p : (x.1.toList == k.toList) = true := by rw [ba_eq9]; simp [he]
        have HN : Hid (PRel w (dPr k (L.take (i + 1))) _ wr) := Lib.hid (by rw [dPr_at HLT.out (by rw [hx]; exact he)]; exact HM.out)
        obtain ⟨x1, x2⟩ := x
        simp only at p d0 d1
        clear he hlt hx
        go_wp2_with fail
        go_roundg (L.length - (i + 1))
        case measure => have := HLT.out; omega
        case rel => exact ⟨i + 1, rfl, HLT.out, by congr 1, HN⟩
      · have p : (x.1.toList == k.toList) = false := by rw [ba_eq9]; simp [he]
        have hdl := dPr_len k L i
        have HQ := Lib.hid (dPr_on HLT.out (show (L[i]'(HLT.out)).1 ≠ k by rw [hx]; exact he))
        have HX := Lib.hid hx
        obtain ⟨x1, x2⟩ := x
        simp only at p d0 d1
        obtain ⟨O, hO⟩ : ∃ O, dPr k (L.take i) = O := ⟨_, rfl⟩
        rw [hO] at hdl HM HQ
        have HLM : Hid (O.length + 1 ≤ maxLen ∧ (O.length + 1) * 32 ≤ 140737488355328) := Lib.hid (by unfold maxLen; omega)
        clear he hlt hx hO hdl
        have HO6 := Lib.hid ((show wr.ownsRow w.heap.size 105 2 _ O.length (pairC O) from HM.out.1).alloc (.cells #[.string x1, .string x2] 105))
        have HS6 : Hid (w.heap.size ≤ (wr.alloc (.cells #[.string x1, .string x2] 105)).heap.size) := Lib.hid (by have := HM.out.2.size; simp; omega)
        go_wp2_with (
          (refine chkA 83 83 ⟨_, _, by with_reducible rfl⟩ ?_
           (refine wpList_append_y (by rfl) _ _ _ rfl w.heap.size 105 jP _ 2 32 Tryz.underlying83 hjP hP0 hP1 hP2 rfl (by decide) _ _ _ (by rfl) HO6.out _ 1 _ (by rfl) (yields_boxL _ #[.string x1, .string x2] _ 1 1) rfl (one2 _ _ rfl rfl) HLM.out.1 HLM.out.2 HS6.out ?_
            intro v5 W5 ho5 hg5 ha5
            have HN5 : Hid (PRel w (O ++ [(x1, x2)]) v5 W5) := Lib.hid ⟨RP.push rfl ho5, (HM.out.2.alloc HM.out.2.size _).grown hg5 HS6.out (fun k e => (HO6.out.lt k e).1)⟩
            clear ho5 hg5 ha5)))
        go_roundg (L.length - (i + 1))
        case measure => have := HLT.out; omega
        case rel => exact ⟨i + 1, rfl, HLT.out, by congr 1, by rw [HQ.out, HX.out]; exact HN5⟩
    · obtain rfl : i = L.length := by omega
      have HE : Hid (PRel w (dPr k L) _ wr) := Lib.hid (by have := HM.out; rwa [List.take_length] at this)
      clear hlt hi
      go_wp2_with fail
      go_ret
      exact ⟨_, rfl, HE⟩
theorem Put09_c (base : Nat) (v : Value) (L : List Pr) (k val : ByteArray) (w : World) (h : RP base w v L) (hl : L.length ≤ 1000000) :
    Calls Tryz.prog 39 #[v, .string k, .string val] w fun e w' => ∃ v', e = .returned v' ∧ Hid (PRel w (pPut k val L) v' w') := by
  obtain ⟨va, vc, rfl⟩ := h.lit
  have HR := Lib.hid h
  have HL := Lib.hid hl
  clear h hl
  obtain ⟨jP, hjP, hP0, hP1, hP2⟩ := info_parts infoP
  go_enter Tryz.func39, Tryz.ntmps39
  go_wp2_with fail
  go_loopg [7, 8, 9] L.length (fun g s7 s8 s9 wr => ∃ (i : Nat) (pl : Bool) (O : List Pr), g = L.length - i ∧ i ≤ L.length ∧ s8 = .bool pl ∧ s9 = .int .i64 (i : Int) ∧ Hid (PRel w O s7 wr ∧ pRun k val (L.take i) = (pl, O)))
  case atStart => exact ⟨0, false, [], rfl, Nat.zero_le _, rfl, rfl, Lib.hid ⟨PRel.start w, rfl⟩⟩
  case round =>
    obtain ⟨i, pl, O, rfl, hi, rfl, rfl, HM⟩ := hrel
    have hdl := pRun_len k val L i
    rw [HM.out.2] at hdl
    simp only at hdl
    have HDL : Hid (O.length ≤ i + 1 ∧ (pl = false → O.length ≤ i)) := Lib.hid (by cases pl <;> simp at hdl ⊢ <;> omega)
    clear hdl
    by_cases hlt : i < L.length
    · have HLT := Lib.hid hlt
      obtain ⟨x, hx⟩ : ∃ x, L[i]'(HLT.out) = x := ⟨_, rfl⟩
      obtain ⟨g, rfl, hg, d0, d1⟩ := (HR.out.below HM.out.1.2).at i HLT.out x hx
      have hltI : (i : Int) < (L.length : Int) := by omega
      have hi1 : i ≤ 1000000 := by have := HL.out; omega
      have HI1 := Lib.hid hi1
      have HLM : Hid (O.length + 1 ≤ maxLen ∧ (O.length + 1) * 32 ≤ 140737488355328) := Lib.hid (by have := HDL.out.1; unfold maxLen; omega)
      have HS : Hid (pRun k val (L.take (i + 1)) = pStep k val (pl, O) x) := Lib.hid (by rw [pRun_snoc k val HLT.out, HM.out.2, hx])
      have HX := Lib.hid hx
      obtain ⟨x1, x2⟩ := x
      simp only at d0 d1
      clear hlt hx
      cases pl with
      | true =>
        by_cases he : x1 = k
        · have p : (x1.toList == k.toList) = true := by rw [ba_eq9]; simp [he]
          have HN : Hid (PRel w O _ wr ∧ pRun k val (L.take (i + 1)) = (true, O)) := Lib.hid ⟨HM.out.1, by rw [HS.out]; unfold pStep; simp [he]⟩
          clear he
          go_wp2_with fail
          go_roundg (L.length - (i + 1))
          case measure => have := HLT.out; omega
          case rel => exact ⟨i + 1, true, O, rfl, HLT.out, rfl, by congr 1, HN⟩
        · have p : (x1.toList == k.toList) = false := by rw [ba_eq9]; simp [he]
          have HQ : Hid (pRun k val (L.take (i + 1)) = (true, O ++ [(x1, x2)])) := Lib.hid (by rw [HS.out]; unfold pStep; simp [he])
          clear he
          have HO6 := Lib.hid ((show wr.ownsRow w.heap.size 105 2 _ O.length (pairC O) from HM.out.1.1).alloc (.cells #[.string x1, .string x2] 105))
          have HS6 : Hid (w.heap.size ≤ (wr.alloc (.cells #[.string x1, .string x2] 105)).heap.size) := Lib.hid (by have := HM.out.1.2.size; simp; omega)
          go_wp2_with (
            (refine chkA 83 83 ⟨_, _, by with_reducible rfl⟩ ?_
             (refine wpList_append_y (by rfl) _ _ _ rfl w.heap.size 105 jP _ 2 32 Tryz.underlying83 hjP hP0 hP1 hP2 rfl (by decide) _ _ _ (by rfl) HO6.out _ 1 _ (by rfl) (yields_boxL _ #[.string x1, .string x2] _ 1 1) rfl (one2 _ _ rfl rfl) HLM.out.1 HLM.out.2 HS6.out ?_
              intro v5 W5 ho5 hg5 ha5
              have HN5 : Hid (PRel w (O ++ [(x1, x2)]) v5 W5) := Lib.hid ⟨RP.push rfl ho5, (HM.out.1.2.alloc HM.out.1.2.size _).grown hg5 HS6.out (fun k e => (HO6.out.lt k e).1)⟩
              clear ho5 hg5 ha5)))
          go_roundg (L.length - (i + 1))
          case measure => have := HLT.out; omega
          case rel => exact ⟨i + 1, true, _, rfl, HLT.out, rfl, by congr 1, Lib.hid ⟨HN5.out, HQ.out⟩⟩
      | false =>
        cases hk : kless k x1 with
        | true =>
          have he : ¬ x1 = k := fun e => by rw [e, kless_irrefl] at hk; cases hk
          have p : (x1.toList == k.toList) = false := by rw [ba_eq9]; simp [he]
          have p2 : Op.bytesLess k.toList x1.toList = true := hk
          have HQ : Hid (pRun k val (L.take (i + 1)) = (true, (O ++ [(k, val)]) ++ [(x1, x2)])) := Lib.hid (by rw [HS.out]; unfold pStep; simp [hk])
          have HLM7 : Hid ((O ++ [(k, val)]).length + 1 ≤ maxLen ∧ ((O ++ [(k, val)]).length + 1) * 32 ≤ 140737488355328) := Lib.hid (by have := HDL.out.1; have := HI1.out; unfold maxLen; simp; omega)
          clear hk he
          have HO6 := Lib.hid ((show wr.ownsRow w.heap.size 105 2 _ O.length (pairC O) from HM.out.1.1).alloc (.cells #[.string k, .string val] 105))
          have HS6 : Hid (w.heap.size ≤ (wr.alloc (.cells #[.string k, .string val] 105)).heap.size) := Lib.hid (by have := HM.out.1.2.size; simp; omega)
          go_wp2_with (
            (refine chkA 83 83 ⟨_, _, by with_reducible rfl⟩ ?_
             first
               | (refine wpList_append_y (by rfl) _ _ _ rfl w.heap.size 105 jP _ 2 32 Tryz.underlying83 hjP hP0 hP1 hP2 rfl (by decide) _ _ _ (by rfl) HO6.out _ 1 _ (by rfl) (yields_boxL _ #[.string k, .string val] _ 1 1) rfl (one2 _ _ rfl rfl) HLM.out.1 HLM.out.2 HS6.out ?_
                  intro v5 W5 ho5 hg5 ha5
                  have HN5 : Hid (PRel w (O ++ [(k, val)]) v5 W5) := Lib.hid ⟨RP.push rfl ho5, (HM.out.1.2.alloc HM.out.1.2.size _).grown hg5 HS6.out (fun k e => (HO6.out.lt k e).1)⟩
                  clear d0 d1
                  obtain ⟨g5, hg5', hlg5, d0, d1⟩ := (HR.out.below HN5.out.2).at i HLT.out (x1, x2) HX.out
                  cases hg5'
                  simp only at d0 d1
                  have HO7 := Lib.hid ((show W5.ownsRow w.heap.size 105 2 v5 (O ++ [(k, val)]).length (pairC (O ++ [(k, val)])) from HN5.out.1).alloc (.cells #[.string x1, .string x2] 105))
                  have HS7 : Hid (w.heap.size ≤ (W5.alloc (.cells #[.string x1, .string x2] 105)).heap.size) := Lib.hid (by have := HN5.out.2.size; simp; omega)
                  clear ho5 hg5 ha5)
               | (refine wpList_append_y (by rfl) _ _ _ rfl w.heap.size 105 jP _ 2 32 Tryz.underlying83 hjP hP0 hP1 hP2 rfl (by decide) _ _ _ (by rfl) HO7.out _ 1 _ (by rfl) (yields_boxL _ #[.string x1, .string x2] _ 1 1) rfl (one2 _ _ rfl rfl) HLM7.out.1 HLM7.out.2 HS7.out ?_
                  intro v8 W8 ho5 hg5 ha5
                  have HN8 : Hid (PRel w ((O ++ [(k, val)]) ++ [(x1, x2)]) v8 W8) := Lib.hid ⟨RP.push rfl ho5, (HN5.out.2.alloc HN5.out.2.size _).grown hg5 HS7.out (fun k e => (HO7.out.lt k e).1)⟩
                  clear ho5 hg5 ha5)))
          go_roundg (L.length - (i + 1))
          case measure => have := HLT.out; omega
          case rel => exact ⟨i + 1, true, _, rfl, HLT.out, rfl, by congr 1, Lib.hid ⟨HN8.out, HQ.out⟩⟩
        | false =>
          have p2 : Op.bytesLess k.toList x1.toList = false := hk
          by_cases he : x1 = k
          · have p : (x1.toList == k.toList) = true := by rw [ba_eq9]; simp [he]
            have p3 : (k.toList == x1.toList) = true := by rw [ba_eq9]; simp [he]
            have HQ : Hid (pRun k val (L.take (i + 1)) = (true, O ++ [(k, val)])) := Lib.hid (by rw [HS.out]; unfold pStep; simp [he, kless_irrefl])
            clear he hk
            have HO6 := Lib.hid ((show wr.ownsRow w.heap.size 105 2 _ O.length (pairC O) from HM.out.1.1).alloc (.cells #[.string k, .string val] 105))
            have HS6 : Hid (w.heap.size ≤ (wr.alloc (.cells #[.string k, .string val] 105)).heap.size) := Lib.hid (by have := HM.out.1.2.size; simp; omega)
            go_wp2_with (
              (refine chkA 83 83 ⟨_, _, by with_reducible rfl⟩ ?_
               (refine wpList_append_y (by rfl) _ _ _ rfl w.heap.size 105 jP _ 2 32 Tryz.underlying83 hjP hP0 hP1 hP2 rfl (by decide) _ _ _ (by rfl) HO6.out _ 1 _ (by rfl) (yields_boxL _ #[.string k, .string val] _ 1 1) rfl (one2 _ _ rfl rfl) HLM.out.1 HLM.out.2 HS6.out ?_
                intro v5 W5 ho5 hg5 ha5
                have HN5 : Hid (PRel w (O ++ [(k, val)]) v5 W5) := Lib.hid ⟨RP.push rfl ho5, (HM.out.1.2.alloc HM.out.1.2.size _).grown hg5 HS6.out (fun k e => (HO6.out.lt k e).1)⟩
                clear d0 d1
                obtain ⟨g5, hg5', hlg5, d0, d1⟩ := (HR.out.below HN5.out.2).at i HLT.out (x1, x2) HX.out
                cases hg5'
                simp only at d0 d1
                clear ho5 hg5 ha5)))
            go_roundg (L.length - (i + 1))
            case measure => have := HLT.out; omega
            case rel => exact ⟨i + 1, true, _, rfl, HLT.out, rfl, by congr 1, Lib.hid ⟨HN5.out, HQ.out⟩⟩
          · have p : (x1.toList == k.toList) = false := by rw [ba_eq9]; simp [he]
            have p3 : (k.toList == x1.toList) = false := by rw [ba_eq9]; simp [Ne.symm he]
            have HQ : Hid (pRun k val (L.take (i + 1)) = (false, O ++ [(x1, x2)])) := Lib.hid (by rw [HS.out]; unfold pStep; simp [he, hk])
            clear he hk
            have HO6 := Lib.hid ((show wr.ownsRow w.heap.size 105 2 _ O.length (pairC O) from HM.out.1.1).alloc (.cells #[.string x1, .string x2] 105))
            have HS6 : Hid (w.heap.size ≤ (wr.alloc (.cells #[.string x1, .string x2] 105)).heap.size) := Lib.hid (by have := HM.out.1.2.size; simp; omega)
            go_wp2_with (
              (refine chkA 83 83 ⟨_, _, by with_reducible rfl⟩ ?_
               (refine wpList_append_y (by rfl) _ _ _ rfl w.heap.size 105 jP _ 2 32 Tryz.underlying83 hjP hP0 hP1 hP2 rfl (by decide) _ _ _ (by rfl) HO6.out _ 1 _ (by rfl) (yields_boxL _ #[.string x1, .string x2] _ 1 1) rfl (one2 _ _ rfl rfl) HLM.out.1 HLM.out.2 HS6.out ?_
                intro v5 W5 ho5 hg5 ha5
                have HN5 : Hid (PRel w (O ++ [(x1, x2)]) v5 W5) := Lib.hid ⟨RP.push rfl ho5, (HM.out.1.2.alloc HM.out.1.2.size _).grown hg5 HS6.out (fun k e => (HO6.out.lt k e).1)⟩
                clear ho5 hg5 ha5)))
            go_roundg (L.length - (i + 1))
            case measure => have := HLT.out; omega
            case rel => exact ⟨i + 1, false, _, rfl, HLT.out, rfl, by congr 1, Lib.hid ⟨HN5.out, HQ.out⟩⟩
    · obtain rfl : i = L.length := by omega
      clear hlt hi
      cases pl with
      | true =>
        have HE : Hid (PRel w (pPut k val L) _ wr) := Lib.hid (by have := HM.out.2; rw [List.take_length] at this; unfold pPut; rw [this]; exact HM.out.1)
        go_wp2_with fail
        go_ret
        exact ⟨_, rfl, HE⟩
      | false =>
        have HQ : Hid (pPut k val L = O ++ [(k, val)]) := Lib.hid (by have := HM.out.2; rw [List.take_length] at this; unfold pPut; rw [this]; rfl)
        have HLM : Hid (O.length + 1 ≤ maxLen ∧ (O.length + 1) * 32 ≤ 140737488355328) := Lib.hid (by have := HDL.out.1; have := HL.out; unfold maxLen; omega)
        have HO6 := Lib.hid ((show wr.ownsRow w.heap.size 105 2 _ O.length (pairC O) from HM.out.1.1).alloc (.cells #[.string k, .string val] 105))
        have HS6 : Hid (w.heap.size ≤ (wr.alloc (.cells #[.string k, .string val] 105)).heap.size) := Lib.hid (by have := HM.out.1.2.size; simp; omega)
        go_wp2_with (
          (refine chkA 83 83 ⟨_, _, by with_reducible rfl⟩ ?_
           (refine wpList_append_y (by rfl) _ _ _ rfl w.heap.size 105 jP _ 2 32 Tryz.underlying83 hjP hP0 hP1 hP2 rfl (by decide) _ _ _ (by rfl) HO6.out _ 1 _ (by rfl) (yields_boxL _ #[.string k, .string val] _ 1 1) rfl (one2 _ _ rfl rfl) HLM.out.1 HLM.out.2 HS6.out ?_
            intro v5 W5 ho5 hg5 ha5
            have HN5 : Hid (PRel w (O ++ [(k, val)]) v5 W5) := Lib.hid ⟨RP.push rfl ho5, (HM.out.1.2.alloc HM.out.1.2.size _).grown hg5 HS6.out (fun k e => (HO6.out.lt k e).1)⟩
            clear ho5 hg5 ha5)))
        go_ret
        exact ⟨_, rfl, by rw [HQ.out]; exact HN5⟩
/-- Same, of the same. -/
theorem Same09_eq (b1 b2 : Nat) (v1 v2 : Value) (L : List Pr) (w : World) (h1 : RP b1 w v1 L) (h2 : RP b2 w v2 L) (hl : L.length ≤ 1000000) :
    Calls Tryz.prog 45 #[v1, v2] w fun e w' => e = .returned (.bool true) ∧ Hid (Below w.heap.size w w') := by
  obtain ⟨va, vc, rfl⟩ := h1.lit
  obtain ⟨ua, uc, rfl⟩ := h2.lit
  have HR := Lib.hid h1
  have HU := Lib.hid h2
  have HL := Lib.hid hl
  clear h1 h2 hl
  go_enter Tryz.func45, Tryz.ntmps45
  go_wp2_with fail
  go_loopg [5] L.length (fun g s5 wr => ∃ i : Nat, g = L.length - i ∧ i ≤ L.length ∧ s5 = .int .i64 (i : Int) ∧ Hid (Below w.heap.size w wr))
  case atStart => exact ⟨0, rfl, Nat.zero_le _, rfl, Lib.hid (Below.refl _ _)⟩
  case round =>
    obtain ⟨i, rfl, hi, rfl, HM⟩ := hrel
    by_cases hlt : i < L.length
    · have HLT := Lib.hid hlt
      obtain ⟨x, hx⟩ : ∃ x, L[i]'(HLT.out) = x := ⟨_, rfl⟩
      obtain ⟨g, rfl, hg, d0, d1⟩ := (HR.out.below HM.out).at i HLT.out x hx
      obtain ⟨g', rfl, hg', d2, d3⟩ := (HU.out.below HM.out).at i HLT.out x hx
      have hltI : (i : Int) < (L.length : Int) := by omega
      have hi1 : i ≤ 1000000 := by have := HL.out; omega
      obtain ⟨x1, x2⟩ := x
      simp only at d0 d1 d2 d3
      clear hlt hx hg hg'
      go_wp2_with fail
      go_quiet (fail)
      have HN : Hid (Below w.heap.size w (wr.drewN nq)) := Lib.hid (Below.drewN HM.out nq)
      go_wp2_with fail
      go_roundg (L.length - (i + 1))
      case measure => have := HLT.out; omega
      case rel => exact ⟨i + 1, rfl, HLT.out, by congr 1, HN⟩
    · obtain rfl : i = L.length := by omega
      clear hlt hi
      go_wp2_with fail
      go_ret
      exact ⟨rfl, HM⟩
end Go.Proofs.YtaibjcjphmhgmaaGreatDoor
namespace Go.Proofs.YtaibjcjphmhgmaaGreatDoor
set_option linter.unusedVariables false
set_option maxRecDepth 100000
set_option maxHeartbeats 2000000
open Go.RowKit
/-- A row cut by its last element. -/
theorem row_short {w : World} {b : Nat} {e : TypeId} {size g k cap : Nat} {xs ys : List Value} (h : w.ownsRow b e size (.slice (some ⟨g, 0, none⟩) (k + 1) cap) (k + 1) (xs ++ ys)) (hl : xs.length = k * size) : w.ownsRow b e size (.slice (some ⟨g, 0, none⟩) k cap) k xs := by
  refine ⟨hl, .inr ?_⟩
  rcases h.2 with ⟨e, h0⟩ | ⟨g', cap', cur, e, h1, h2, h3, h4, h5, h6⟩
  · cases h0
  · cases e
    refine ⟨_, _, cur, rfl, h1, h2, by omega, h4, h5, ?_⟩
    have := congrArg (List.take (k * size)) h6
    rw [List.take_take, List.take_append_of_le_length (by omega), Nat.min_eq_left (by rw [Nat.add_mul]; omega)] at this
    rw [this, ← hl, List.take_length]
theorem wrs_snoc (l : List (Int × ByteArray)) (p : Int × ByteArray) : wrs (l ++ [p]) = wrs l ++ [.int .i64 p.1, .string p.2] := by simp [wrs]
theorem wrs_len (l : List (Int × ByteArray)) : (wrs l).length = l.length * 2 := by
  induction l with
  | nil => rfl
  | cons p l ih => rw [show p :: l = [p] ++ l from rfl]; simp [wrs] at ih ⊢; omega
/-- The map behind a put that is forgotten. -/
def backM (m : List (Int × Value)) (l : List (Int × ByteArray)) (i : Int) (v : Value) : List (Int × Value) := if idxs l 0 i = [] then del m i else put m i v
theorem back_step {w W : World} {F : Nat → Prop} {tb lb mw g cap : Nat} {l : List (Int × ByteArray)} {p : Int × ByteArray} {m : List (Int × Value)} {v : Value} (h : IsTxc w F tb lb (l ++ [p]) (.slice (some ⟨g, 0, none⟩) (l.length + 1) cap) mw m)
    (hv : idxs l 0 p.1 ≠ [] → v.ownBlock = (rowOf m p.1).ownBlock ∧ w.ownsRow 0 3 1 v (idxs l 0 p.1).length (ints (idxs l 0 p.1)))
    (hm : MapIs kInt id W mw (backM m l p.1 v)) (hu : Upd (· = mw) w W) :
    ∃ F', IsTxc (W.setCell ⟨tb, 1, none⟩ (.slice (some ⟨g, 0, none⟩) l.length cap)) F' tb lb l (.slice (some ⟨g, 0, none⟩) l.length cap) mw (backM m l p.1 v) ∧ Upd F w (W.setCell ⟨tb, 1, none⟩ (.slice (some ⟨g, 0, none⟩) l.length cap)) ∧ ∀ k, F' k → F k := by
  have nmt : mw ≠ tb := h.map.ne_cells h.cells
  have npm : g ≠ mw := fun e => by
    obtain ⟨cur, hc⟩ := ownsRow_cells h.row (k := g) rfl
    exact h.map.ne_cells (e ▸ hc) rfl
  have npt : g ≠ tb := fun e => by
    obtain ⟨cur, hc⟩ := ownsRow_cells h.row (k := g) rfl
    rw [e, h.cells] at hc; simp at hc
  have hc1 : W.heap[tb]? = some (.cells #[.pointer (some ⟨lb, 0, none⟩), .slice (some ⟨g, 0, none⟩) (l.length + 1) cap, .map (some mw)] 116 (0, 0)) := hu.at h.cells fun e => nmt e.symm
  have hU : Upd (fun k => k = mw ∨ k = tb) w (W.setCell ⟨tb, 1, none⟩ (.slice (some ⟨g, 0, none⟩) l.length cap)) := (hu.mono fun _ _ e => .inl e).trans ((upd_setCell _ _ _ _).mono fun _ _ e => .inr e)
  have hlk : ∀ j u, look (backM m l p.1 v) j = some u → (j ≠ p.1 ∧ look m j = some u) ∨ (j = p.1 ∧ idxs l 0 p.1 ≠ [] ∧ u = v) := by
    intro j u hj
    unfold backM at hj
    split at hj
    · rw [look_del] at hj
      by_cases e : p.1 = j
      · rw [if_pos e] at hj; cases hj
      · rw [if_neg e] at hj; exact .inl ⟨fun e' => e e'.symm, hj⟩
    · rename_i hne
      rw [look_put] at hj
      by_cases e : p.1 = j
      · rw [if_pos e] at hj; cases hj; exact .inr ⟨e.symm, hne, rfl⟩
      · rw [if_neg e] at hj; exact .inl ⟨fun e' => e e'.symm, hj⟩
  have hoth : ∀ j, j ≠ p.1 → look (backM m l p.1 v) j = look m j := by
    intro j hj
    unfold backM
    split
    · rw [look_del, if_neg fun e => hj e.symm]
    · rw [look_put, if_neg fun e => hj e.symm]
  have hrow : ∃ u, look m p.1 = some u ∧ (rowOf m p.1) = u := by
    rcases h.rows p.1 with ⟨a, b⟩ | ⟨u, a, -, -⟩
    · rw [idxs_snoc, if_pos rfl] at b; simp at b
    · exact ⟨u, a, by unfold rowOf; rw [a]; rfl⟩
  obtain ⟨u0, hu0, hr0⟩ := hrow
  have keep : ∀ {n : Nat} {xs : List Value} {x : Value} {sz : Nat} {e : TypeId}, w.ownsRow 0 e sz x n xs → (∀ k, x.ownBlock = some k → k ≠ tb) → (W.setCell ⟨tb, 1, none⟩ (.slice (some ⟨g, 0, none⟩) l.length cap)).ownsRow 0 e sz x n xs := fun hx hk => ownsRow_upd hx hU fun k e => by
    rintro (rfl | rfl)
    · obtain ⟨cur, hc⟩ := ownsRow_cells hx e
      exact h.map.ne_cells hc rfl
    · exact hk _ e rfl
  have rowt : ∀ i u, look m i = some u → ∀ k, u.ownBlock = some k → k ≠ tb := fun i u hi k hk e => by
    rcases h.rows i with ⟨a, -⟩ | ⟨u', a, -, c⟩
    · rw [a] at hi; cases hi
    · rw [a] at hi; cases hi
      obtain ⟨cur, hc⟩ := ownsRow_cells c hk
      rw [e, h.cells] at hc; simp at hc
  refine ⟨fun k => k = tb ∨ k = mw ∨ (Value.slice (some ⟨g, 0, none⟩) l.length cap).ownBlock = some k ∨ ∃ i u, look (backM m l p.1 v) i = some u ∧ u.ownBlock = some k, ⟨heap_set_lit hc1 _, ?_, hm.upd (upd_setCell _ _ _ _) nmt, fun j => ?_, fun i j a b hij hi hj => ?_, fun k => Iff.rfl⟩, hU.mono fun k _ e => ?_, fun k hk => ?_⟩
  · refine keep (row_short (ys := [.int .i64 p.1, .string p.2]) ?_ (wrs_len l)) (fun k e => by
      have : g = k := by simpa [Value.ownBlock] using e
      rw [← this]; exact npt)
    rw [← wrs_snoc]
    have := h.row
    rwa [List.length_append] at this
  · by_cases e : j = p.1
    · subst e
      by_cases hn : idxs l 0 p.1 = []
      · exact .inl ⟨by unfold backM; rw [if_pos hn, look_del, if_pos rfl], hn⟩
      · obtain ⟨h1, h2⟩ := hv hn
        exact .inr ⟨v, by unfold backM; rw [if_neg hn, look_put, if_pos rfl], hn, keep h2 fun k hk => rowt p.1 u0 hu0 k (by rw [← hr0, ← h1]; exact hk)⟩
    · rw [hoth j e]
      have e2 : idxs (l ++ [p]) 0 j = idxs l 0 j := by rw [idxs_snoc, if_neg fun e' => e e'.symm]
      rcases h.rows j with ⟨a, b⟩ | ⟨u, a, b, c⟩
      · rw [e2] at b; exact .inl ⟨a, b⟩
      · rw [e2] at b c; exact .inr ⟨u, a, b, keep c (rowt j u a)⟩
  · have big : ∀ i a, look (backM m l p.1 v) i = some a → ∃ a', look m i = some a' ∧ a.ownBlock = a'.ownBlock := fun i a hi => by
      rcases hlk i a hi with ⟨-, x⟩ | ⟨x, y, z⟩
      · exact ⟨a, x, rfl⟩
      · exact ⟨u0, by rw [x]; exact hu0, by rw [z, (hv y).1, hr0]⟩
    obtain ⟨a', x1, x2⟩ := big i a hi
    obtain ⟨b', y1, y2⟩ := big j b hj
    rw [x2, y2]
    exact h.apart i j a' b' hij x1 y1
  · rcases e with rfl | rfl
    · exact (h.own _).2 (.inr (.inl rfl))
    · exact (h.own _).2 (.inl rfl)
  · rcases hk with rfl | rfl | e | ⟨i, u, h1, h2⟩
    · exact (h.own _).2 (.inl rfl)
    · exact (h.own _).2 (.inr (.inl rfl))
    · exact (h.own _).2 (.inr (.inr (.inl e)))
    · rcases hlk i u h1 with ⟨-, x⟩ | ⟨x, y, z⟩
      · exact (h.own _).2 (.inr (.inr (.inr ⟨i, u, x, h2⟩)))
      · exact (h.own _).2 (.inr (.inr (.inr ⟨p.1, u0, hu0, by rw [← hr0, ← (hv y).1, ← z]; exact h2⟩)))
/-- Where Back is. -/
def BkRel (w : World) (F : Nat → Prop) (tb lb : Nat) (base : List (Int × ByteArray)) (g : Nat) (wr : World) : Prop := ∃ tl F2, g = tl.length ∧ IsTx wr F2 tb lb (base ++ tl) ∧ Upd F w wr ∧ ∀ k, F2 k → F k
theorem snoc_cases {α : Type} (l : List α) : l = [] ∨ ∃ l' a, l = l' ++ [a] := by
  rcases List.eq_nil_or_concat l with h | ⟨l', a, h⟩
  · exact .inl h
  · exact .inr ⟨l', a, by simpa using h⟩
theorem BkRel.step {w wr W : World} {F F2 : Nat → Prop} {tb lb mw g cap L : Nat} {base tl : List (Int × ByteArray)} {p : Int × ByteArray} {m : List (Int × Value)} {v : Value} (hL : (base ++ tl).length = L) (h : IsTxc wr F2 tb lb ((base ++ tl) ++ [p]) (.slice (some ⟨g, 0, none⟩) (L + 1) cap) mw m)
    (hu : Upd F w wr) (hs : ∀ k, F2 k → F k) (hv : idxs (base ++ tl) 0 p.1 ≠ [] → v.ownBlock = (rowOf m p.1).ownBlock ∧ wr.ownsRow 0 3 1 v (idxs (base ++ tl) 0 p.1).length (ints (idxs (base ++ tl) 0 p.1)))
    (hm : MapIs kInt id W mw (backM m (base ++ tl) p.1 v)) (hu2 : Upd (· = mw) wr W) : BkRel w F tb lb base tl.length (W.setCell ⟨tb, 1, none⟩ (.slice (some ⟨g, 0, none⟩) L cap)) := by
  subst hL
  obtain ⟨F', a, b, c⟩ := back_step h hv hm hu2
  exact ⟨tl, F', rfl, ⟨_, _, _, a⟩, hu.trans (b.mono fun k _ e => hs k e), fun k hk => hs k (c k hk)⟩
theorem TBack_c (tb lb n : Nat) (FL F : Nat → Prop) (base tail : List (Int × ByteArray)) (w : World) (h : Chg w FL F tb lb n (base ++ tail)) (hl : (base ++ tail).length ≤ 4000000) :
    Calls Tryz.prog 108 #[.pointer (some ⟨tb, 0, none⟩), .int .i64 (base.length : Int)] w fun e w' => e = .returned (.tuple #[]) ∧ Hid (∃ F', Chg w' FL F' tb lb n base ∧ Turn F F' w w') := by
  have H := Lib.hid h
  have R0 : Hid (BkRel w F tb lb base tail.length w) := Lib.hid ⟨tail, F, rfl, h.tx, Upd.refl _ _, fun _ e => e⟩
  have hmx : max (base.length : Int) 0 = (base.length : Int) := by omega
  obtain ⟨bl, hbl⟩ : ∃ bl, base.length = bl := ⟨_, rfl⟩
  rw [hbl] at hmx ⊢
  have HBL := Lib.hid hbl
  have HL := Lib.hid hl
  clear h hl hbl
  go_enter Tryz.func108, Tryz.ntmps108
  go_wp2_with fail
  go_loopg [4, 5, 6] tail.length (fun g s4 s5 s6 wr => g ≤ tail.length ∧ Hid (BkRel w F tb lb base g wr))
  case atStart => exact ⟨Nat.le_refl _, R0⟩
  case round =>
    obtain ⟨hg, HR⟩ := hrel
    obtain ⟨tl, F2, hgl, ht, hu, hs⟩ := HR.out
    clear R0 HR
    obtain ⟨pv, mw, m, ht⟩ := ht
    obtain ⟨-, c1, c2⟩ := ht.c
    have f1 := frozen_lit ht.cells 1
    rcases snoc_cases tl with rfl | ⟨tl, p, rfl⟩
    · obtain ⟨a, l, c, rfl⟩ := slice_form ht.row
      obtain rfl := rlen ht.row
      have HE : Hid (∃ F', Chg _ FL F' tb lb n base ∧ Turn F F' w _) := Lib.hid ⟨F2, ⟨H.out.log.frame hu fun k hk e => H.out.apart k hk e, (by have : IsTx _ F2 tb lb (base ++ []) := ⟨_, _, _, ht⟩; rwa [List.append_nil] at this), fun k hk e => H.out.apart k hk (hs k e)⟩, hu, fun k hk => .inl (hs k hk)⟩
      rw [List.append_nil, HBL.out] at c1
      clear ht hu hs
      go_wp2_with fail
      go_end0
      exact ⟨rfl, HE⟩
    · have hap : base ++ (tl ++ [p]) = (base ++ tl) ++ [p] := by simp
      rw [hap] at ht
      obtain ⟨L, hL⟩ : ∃ L, (base ++ tl).length = L := ⟨_, rfl⟩
      have hrow := ht.row
      rw [List.length_append, hL, List.length_singleton] at hrow
      obtain ⟨gp, cap, rfl, -, -⟩ := hrow.form (by simp)
      have hLb : bl ≤ L := by have := HBL.out; rw [← hL, List.length_append]; omega
      have hL4 : L ≤ 4000000 := by
        have := HL.out
        rw [List.length_append] at this
        rw [hgl, List.length_append] at hg
        rw [← hL, List.length_append]
        simp at hg; omega
      have q1 : (bl : Int) < (L : Int) + 1 := by omega
      have e0 : ((L + 1 : Nat) : Int) = (L : Int) + 1 := by omega
      have c3 : wr.cell? ⟨gp, L * 2, none⟩ = some (.int .i64 p.1) := by
        rw [hrow.cellAt (L * 2) (by omega), wrs_snoc, List.getElem?_append_right (by rw [wrs_len, hL]; exact Nat.le_refl _), wrs_len, hL, Nat.sub_self]; rfl
      have HCAP : Hid (L ≤ cap) := Lib.hid (by
        rcases hrow.2 with ⟨e, h0⟩ | ⟨g', cap', cur, e, h1, h2, h3, -⟩
        · cases h0
        · cases e; omega)
      have hr0 := ht.rowOf p.1
      rw [idxs_snoc, if_pos rfl, hL, List.length_append] at hr0
      obtain ⟨gr, capr, hrv, hk1, hk2⟩ := hr0.form (by simp)
      have lk := fun W (hW : W.heap[mw]? = wr.heap[mw]?) => run_lookup (w := W) (ht.map.of_heap hW) Tryz.underlying113 Tryz.underlying3 (zeroInts _) p.1
      simp only [kInt, Option.map_id] at lk
      change ∀ W, W.heap[mw]? = wr.heap[mw]? → (Instr.lookup 113 (.map (some mw)) (.int .i64 p.1) false).run Tryz.prog W = .ok (rowOf m p.1) W at lk
      rw [hrv] at lk hr0
      have lk1 := lk wr rfl
      have HT := Lib.hid ht
      have HU := Lib.hid hu
      have HS := Lib.hid hs
      have HLL := Lib.hid hL
      have HG : Hid (tl.length < gk ∧ tl.length ≤ tail.length) := Lib.hid (by rw [hgl] at hg ⊢; simp at hg ⊢; omega)
      have HR0 := Lib.hid hr0
      have HRV := Lib.hid hrv
      rw [e0] at *
      clear hap hrow hr0 hrv hk1 hk2 lk ht hu hs hL hgl hg
      cases hix : idxs (base ++ tl) 0 p.1 with
      | nil =>
        rw [hix] at lk1
        simp only [List.length_nil, List.length_singleton, Nat.zero_add] at lk1
        obtain ⟨W, hrun, hm2, hu2⟩ := run_delete (w := wr) (ty := 0) HT.out.map Tryz.underlying113 Tryz.underlying3 p.1
        simp only [kInt] at hrun
        have hcW := hu2.at HT.out.cells fun e => HT.out.map.ne_cells HT.out.cells e.symm
        have d1 : W.cell? ⟨tb, 1, none⟩ = some (.slice (some ⟨gp, 0, none⟩) (L + 1) cap) := cell_lit hcW rfl
        have d2 := frozen_lit hcW 1
        have HST := Lib.hid (BkRel.step (v := .slice none 0 0) HLL.out HT.out HU.out HS.out (fun e => absurd hix e) (by unfold backM; rw [if_pos hix]; exact hm2) hu2)
        clear hm2 hu2 hcW hix e0
        go_wp2_with fail
        all_goals first
          | (exact absurd HCAP.out (by assumption))
          | (go_roundg tl.length)
        case measure => exact HG.out.1
        case rel => exact ⟨HG.out.2, HST⟩
      | cons x r =>
        rw [hix] at lk1 HR0 HRV
        simp only [List.length_cons, List.length_singleton, List.length_nil, Nat.zero_add] at lk1 HR0 HRV
        obtain ⟨R, hR⟩ : ∃ R, r.length = R := ⟨_, rfl⟩
        rw [hR] at lk1 HR0 HRV
        have hrs := row_short (xs := ints (x :: r)) (ys := [.int .i64 (L : Int)]) (by have := HR0.out; simpa [ints] using this) (by simp [ints, hR])
        have hR4 : R ≤ 4000000 := by
          have := idxs_len (base ++ tl) 0 p.1
          rw [hix, List.length_cons, hR, HLL.out] at this; omega
        have lkd := fun W (hW : W.heap[mw]? = wr.heap[mw]?) => (run_lookup (w := W) (HT.out.map.of_heap hW) Tryz.underlying113 Tryz.underlying3 (zeroInts _) p.1)
        obtain ⟨W, hrun, hm2, hu2⟩ := run_mapUpdate (w := wr.drew) (HT.out.map.of_heap rfl) Tryz.underlying113 Tryz.underlying3 p.1 (Value.slice (some ⟨gr, 0, none⟩) (R + 1) capr)
        simp only [kInt, id] at hrun
        have hu3 : Upd (· = mw) wr W := hu2.drew_left
        have hcW := hu3.at HT.out.cells fun e => HT.out.map.ne_cells HT.out.cells e.symm
        have d1 : W.cell? ⟨tb, 1, none⟩ = some (.slice (some ⟨gp, 0, none⟩) (L + 1) cap) := cell_lit hcW rfl
        have d2 := frozen_lit hcW 1
        have d3 : W.cell? ⟨tb, 2, none⟩ = some (.map (some mw)) := cell_lit hcW rfl
        have hcR : R + 1 ≤ capr := by
          rcases HR0.out.2 with ⟨e, h0⟩ | ⟨g', cap', cur, e, h1, h2, h3, -⟩
          · cases h0
          · cases e; omega
        have HST := Lib.hid (BkRel.step (v := Value.slice (some ⟨gr, 0, none⟩) (R + 1) capr) HLL.out HT.out HU.out HS.out (fun _ => ⟨by rw [HRV.out]; rfl, by rw [hix, List.length_cons, hR]; exact hrs⟩) (by unfold backM; rw [if_neg (by rw [hix]; simp)]; exact hm2) hu3)
        clear hm2 hu2 hu3 hcW hix e0 lkd hrs hR HR0 HRV
        go_wp2_with fail
        have hcR' : (R + 1 ≤ capr) = True := eq_true hcR
        have hcR2 : (R < capr) = True := eq_true hcR
        have hcR3 : (capr = R) = False := eq_false (by omega)
        have hcR4 : IntKind.i64.wrap ((R : Int) + 1) = (R : Int) + 1 := wr64 (by omega) (by omega)
        go_region_held (fun w' => w'.cell? ⟨tb, 2, none⟩ = some (.map (some mw))) (go_keep) (fail)
        all_goals go_wp2_with fail
        all_goals first
          | (exact absurd HCAP.out (by assumption))
          | (exfalso; omega)
          | (go_roundg tl.length)
        case measure => exact HG.out.1
        case rel => exact ⟨HG.out.2, HST⟩
end Go.Proofs.YtaibjcjphmhgmaaGreatDoor
namespace Go.Proofs.YtaibjcjphmhgmaaGreatDoor
set_option linter.unusedVariables false
set_option maxRecDepth 100000
set_option maxHeartbeats 1000000
open Go.RowKit
theorem RBack_c (G : Nat → Prop) (rb n : Nat) (base tail : List (Int × ByteArray)) (w : World) (h : Rm w G rb n (base ++ tail)) (hl : (base ++ tail).length ≤ 4000000) :
    Calls Tryz.prog 68 #[.pointer (some ⟨rb, 0, none⟩), .int .i64 (base.length : Int)] w fun e w' => e = .returned (.tuple #[]) ∧ Hid (∃ G', Rm w' G' rb n base ∧ Turn G G' w w') := by
  obtain ⟨tb, lb, FL, F, h⟩ := h
  obtain ⟨c0, -, -⟩ := h.c
  have TM := TBack_c tb lb n FL F base tail w h.chg hl
  have H := Lib.hid h
  clear h hl
  generalize (base.length : Int) = bl at *
  go_enter Tryz.func68, Tryz.ntmps68
  go_wp2_with fail
  refine TM.mono ?_
  rintro e w1 ⟨rfl, HB⟩
  have HE : Hid (∃ G', Rm w1 G' rb n base ∧ Turn G G' w w1) := Lib.hid (by
    obtain ⟨F', a, b⟩ := HB.out
    obtain ⟨c, d⟩ := H.out.write a b
    exact ⟨_, ⟨tb, lb, FL, F', c⟩, d⟩)
  go_wp2_with fail
  go_end0
  exact ⟨rfl, HE⟩
theorem Alloc_full (G : Nat → Prop) (rb n : Nat) (puts : List (Int × ByteArray)) (S : RS) (w : World) (h : Rm w G rb n puts) (hr : Rep n puts S) (hl : puts.length ≤ 3999990) (hfull : ∀ q, q < pagesN n → S.used q = true) :
    Calls Tryz.prog 111 #[.pointer (some ⟨rb, 0, none⟩)] w fun e w' => e = .returned (.tuple #[.int .i64 0, .int .i64 4]) ∧ Hid (Below w.heap.size w w') := by
  have DD := dead_c G rb n puts w h (by omega)
  have FR : Hid (∀ W, Below w.heap.size w W → Calls Tryz.prog 145 #[.pointer (some ⟨rb, 0, none⟩)] W fun e w' => e = .returned (.tuple #[.int .i64 (-1), .int .i64 0]) ∧ Hid (Below w.heap.size w w')) := Lib.hid fun W hW => by
    refine (free_c G rb n puts S W (h.below hW) hr (by omega)).mono ?_
    rintro e w' ⟨r, rfl, hf, hb⟩
    rcases hf with ⟨p, rfl, a, b, -⟩ | ⟨rfl, b⟩
    · rw [hfull p a] at b; cases b
    · exact ⟨rfl, hW.trans (hb.mono hW.size)⟩
  clear h hr hfull hl
  go_enter Tryz.func111, Tryz.ntmps111
  go_wp2_with fail
  refine DD.mono ?_
  rintro e w1 ⟨rfl, hb⟩
  have HB := Lib.hid hb
  clear hb
  go_wp2_with fail
  refine (FR.out _ HB.out).mono ?_
  rintro e w2 ⟨rfl, HB2⟩
  clear FR DD
  go_wp2_with fail
  go_ret2
  exact ⟨rfl, HB2⟩
end Go.Proofs.YtaibjcjphmhgmaaGreatDoor
namespace Go.Proofs.YtaibjcjphmhgmaaGreatDoor
set_option linter.unusedVariables false
set_option maxRecDepth 100000
set_option maxHeartbeats 1000000
open Go.RowKit
theorem must_full (w : World) : Calls Tryz.prog 76 #[.int .i64 4] w fun e w' => e = .panicked [{ v := .iface 180 (.int .i64 4), recovered := false }] ∧ w' = w := by
  go_enter Tryz.func76, Tryz.ntmps76
  go_wp2_with fail
  exact ⟨rfl, rfl, rfl⟩
theorem fresh_full (G : Nat → Prop) (tb rb place n m : Nat) (S : RS) (q : Nat) (w : World) (h : RmS w G rb n m S) (ht : TB w tb rb place) (hm : m ≤ 3999980) (hfull : ∀ q, q < pagesN n → S.used q = true) :
    Calls Tryz.prog 72 #[.pointer (some ⟨tb, 0, none⟩), .pointer (some ⟨q, 0, none⟩)] w fun e w' => e = .panicked [{ v := .iface 180 (.int .i64 4), recovered := false }] ∧ Hid (Below w.heap.size w w') := by
  obtain ⟨c0, c1⟩ := ht.cells
  have AL : Hid (Calls Tryz.prog 111 #[.pointer (some ⟨rb, 0, none⟩)] w fun e w' => e = .returned (.tuple #[.int .i64 0, .int .i64 4]) ∧ Hid (Below w.heap.size w w')) := Lib.hid (by
    obtain ⟨puts, a, b, c⟩ := h
    exact Alloc_full G rb n puts S w b c (by omega) hfull)
  have MU := must_full
  clear h ht hfull
  go_enter Tryz.func72, Tryz.ntmps72
  go_wp2_with fail
  refine AL.out.mono ?_
  rintro e w1 ⟨rfl, HB⟩
  clear AL
  go_wp2_with (go_at_call 76; refine (MU _).mono ?_; rintro e w2 ⟨rfl, rfl⟩)
  exact ⟨rfl, rfl, HB⟩
end Go.Proofs.YtaibjcjphmhgmaaGreatDoor
namespace Go.Proofs.YtaibjcjphmhgmaaGreatDoor
set_option linter.unusedVariables false
set_option maxRecDepth 100000
set_option maxHeartbeats 1000000
open Go.RowKit
/-- What a put that is given up leaves. -/
def PutFail (w w' : World) (G : Nat → Prop) (rb n m : Nat) (S : RS) : Prop := ∃ S', StGo w w' G rb n m S' ∧ S'.base = S.base
theorem put_leafF (G : Nat → Prop) (tb rb place n m : Nat) (S : RS) (p : Nat) (t : PT 0) (key val : ByteArray) (deep : Nat) (w : World) (h : RmS w G rb n m S) (ht : TB w tb rb place) (hg : ¬ G tb) (hT : Tr S 0 p t) (hks : key.size ≤ 96) (hvs : val.size ≤ 56) (hdp : deep ≤ 20) (hm : m ≤ 3998000) :
    Calls Tryz.prog 73 #[.pointer (some ⟨tb, 0, none⟩), .int .i64 (p : Int), .string key, .string val, .int .i64 (deep : Int)] w fun e w' => (∃ (k : ByteArray) (q : Nat) (more : Bool), e = .returned (.tuple #[.string k, .int .i64 (q : Int), .bool more]) ∧ Hid (PutPost w w' G rb n (m + 4) S 0 p t key val k q more)) ∨ (e = .panicked [{ v := .iface 180 (.int .i64 4), recovered := false }] ∧ Hid (PutFail w w' G rb n (m + 4) S)) := by
  have RD := Lib.hid (read_c G tb rb place n m S p (nd 0 t) w h ht (by omega) hT.ok hT.fit hT.on.top.1 hT.on.top.2)
  have B0 := Lib.hid (TBase.start h ht hg)
  have HM1 : Hid (m ≤ 3999000) := Lib.hid (by omega)
  have HM3 : Hid (m + 1 ≤ 3999000) := Lib.hid (by omega)
  have HM2 : Hid (m + 1 ≤ m + 4) := Lib.hid (by omega)
  have HM4 : Hid (m + 1 + 3 ≤ m + 4) := Lib.hid (by omega)
  have HBASE : Hid (S.base = S.base) := Lib.hid rfl
  have HG := Lib.hid h.lt
  have hd1 : ¬ (20 : Int) < (deep : Int) := by omega
  have HT := Lib.hid hT
  obtain ⟨A, B, rfl, hA, hB, hor⟩ := lb_split t key hT.wf.srt
  have hlen : (Nd.leaf (A ++ B)).len ≤ 1000000 := Nat.le_of_lt (Nat.lt_trans hT.ok.few (by decide))
  have HL := Lib.hid hlen
  have HPOS := Lib.hid hT.pos
  have HA := Lib.hid hA
  have HB := Lib.hid hB
  have HKS := Lib.hid hks
  have HVS := Lib.hid hvs
  have HN4 : Hid ((A ++ B).length ≤ 90000) := Lib.hid (by have := hT.ok.few; rw [nd_len0] at this; exact Nat.le_of_lt (Nat.lt_trans this (by decide)))
  clear h ht hg hT hm hlen hA hB hks hvs hdp
  rcases hor with ⟨v, B', rfl, hB'⟩ | hB'
  · have OV := Lib.hid (Over.leaf (val := val) HT.out (.inr ⟨v, rfl⟩) HA.out hB' HKS.out HVS.out)
    clear hB'
    go_enter Tryz.func73, Tryz.ntmps73
    go_wp2_with fail
    refine RD.out.mono ?_
    rintro e w1 ⟨q, rfl, HQ⟩
    obtain ⟨F, x1, x2, x3⟩ := HQ.out
    have N1 := Lib.hid (Nod.start (w0 := w) (G := G) x1 x2 HG.out)
    have B1 := Lib.hid (B0.out.below x3)
    obtain ⟨vk, vv, vi, hv1⟩ := N1.out.rd.view
    have c0 : w1.cell? ⟨q, 0, none⟩ = some (.bool true) := cell_lit hv1.blk rfl
    have FD := Lib.hid (find_c true q (.leaf (A ++ (key, v) :: B')) vk vv vi (A.map Prod.fst) (key :: B'.map Prod.fst) key w1 hv1 (by simp [Nd.keys]) HPOS.out HL.out (fun a ha => by obtain ⟨e, he, rfl⟩ := List.mem_map.1 ha; exact HA.out e he) (fun b hb => by
      rcases List.mem_cons.1 hb with rfl | hb
      · exact kless_irrefl _
      · obtain ⟨e, he, rfl⟩ := List.mem_map.1 hb; exact HB.out e (by simp [he])) ⟨fun _ => ⟨_, rfl⟩, fun _ => rfl⟩)
    rw [List.length_map] at FD
    clear x1 x2 x3 HQ hv1 RD B0
    go_wp2_with fail
    refine FD.out.mono ?_
    rintro e w2 ⟨rfl, qn, rfl⟩
    have N2 := N1.out.below (drewN_below w1 qn)
    have B2 := B1.out.below (drewN_below w1 qn)
    generalize w1.drewN qn = w2 at *
    obtain ⟨F2, y1, y2⟩ := N2
    obtain ⟨g2, cap2, s1, s2, s3, s4⟩ := set_val y1 val
    have NT : Hid (Nod w (w2.setCell ⟨g2, A.length, none⟩ (.string val)) G q (nd 0 (A ++ (key, val) :: B'))) := Lib.hid (Nod.go y2 s4 B2.room.lt B2.up.size)
    have BT := Lib.hid (B2.node (by obtain ⟨F', a, b, c⟩ := s4; exact c) y2)
    have hlt : (A.length : Int) < ((A.length + 1 + B'.length : Nat) : Int) := by omega
    clear y1 y2 s4 B2 N1 B1 FD c0
    go_wp2_with fail
    have TS := Lib.hid (tail_size NT.out OV.out.ok)
    refine TS.out.mono ?_
    rintro e w4 ⟨rfl, rfl⟩
    clear TS
    by_cases hsz : (nd 0 (A ++ (key, val) :: B')).size ≤ 512
    · have TW := Lib.hid (tail_write BT.out p NT.out.rd OV.out.ok hsz OV.out.use HM1.out)
      have hI : (((nd 0 (A ++ (key, val) :: B')).size : Nat) : Int) ≤ 512 := by omega
      have HSZ := Lib.hid hsz
      clear hsz
      go_wp2_with fail
      refine TW.out.mono ?_
      rintro e w5 ⟨rfl, HW⟩
      clear hI TW
      go_wp2_with fail
      go_ret3
      obtain ⟨G5, b5, -⟩ := HW.out
      exact .inl ⟨ByteArray.empty, 0, false, rfl, _, (b5.more HM2.out).go, rfl, rfl, _, OV.out.one HSZ.out⟩
    · have TSp := Lib.hid (tail_split BT.out NT.out OV.out.ok (by omega) OV.out.siz)
      have hI : ¬ (((nd 0 (A ++ (key, val) :: B')).size : Nat) : Int) ≤ 512 := by omega
      have HSZ := Lib.hid (show 512 < (nd 0 (A ++ (key, val) :: B')).size by omega)
      clear hsz
      go_wp2_with fail
      refine TSp.out.mono ?_
      rintro e w5 ⟨q1, rfl, HS⟩
      clear TSp hI NT BT
      obtain ⟨i, hc, b5, r1, r2⟩ := HS.out
      obtain ⟨z0, z1, z2, z3, z4⟩ := OV.out.cut HSZ.out hc
      obtain ⟨l1, l2⟩ := len_take (nd 0 (A ++ (key, val) :: B')) i (Nat.le_of_lt z1)
      have ok1 : ((nd 0 (A ++ (key, val) :: B')).take i).Ok := by rw [← nd_tk]; exact ((OV.out.wf.cut i).1).ok (by rw [nd_tk, l1]; exact z0) (by rw [nd_tk]; omega)
      have ok2 : ((nd 0 (A ++ (key, val) :: B')).drop i).Ok := by rw [← nd_dr]; exact ((OV.out.wf.cut i).2).ok (by rw [nd_dr, l2]; omega) (by rw [nd_dr]; omega)
      have TW := Lib.hid (tail_write b5 p r1 ok1 z2 OV.out.use HM1.out)
      have R2 := Lib.hid r2
      have OK2 := Lib.hid ok2
      have HC := Lib.hid hc
      have HZ3 := Lib.hid z3
      clear hc b5 r1 r2 z0 z1 z2 z3 z4 l1 l2 ok1 ok2 HS
      go_wp2_with fail
      refine TW.out.mono ?_
      rintro e w6 ⟨rfl, HW⟩
      clear TW
      obtain ⟨G6, b6, tn6⟩ := HW.out
      have r6 := R2.out.turn tn6
      obtain ⟨g, off, nn, cap, hnn, k1, k2, ql, gl, hgq, hgg⟩ := r6.key0 OK2.out.pos
      by_cases hfr : ∃ r, r < pagesN n ∧ S.used r = false
      · have FR : Hid (Calls Tryz.prog 72 #[.pointer (some ⟨tb, 0, none⟩), .pointer (some ⟨q1, 0, none⟩)] w6.drew fun e w' => ∃ r : Nat, e = .returned (.int .i64 (r : Int)) ∧ (w'.cell? ⟨q1, 1, none⟩ = some (.slice (some ⟨g, off, none⟩) nn cap) ∧ w'.cell? ⟨g, off, none⟩ = some (.string (((nd 0 (A ++ (key, val) :: B')).drop i).keys.getD 0 ByteArray.empty))) ∧ Hid (PutPost w w' G rb n (m + 4) S (0) p (A ++ (key, v) :: B') key val (((nd 0 (A ++ (key, val) :: B')).drop i).keys.getD 0 ByteArray.empty) r true)) := Lib.hid (by
          have hd := (Below.refl w6.heap.size w6).drew
          refine (tail_fresh (b6.below hd) (r6.below hd) OK2.out HZ3.out HM3.out hfr).mono ?_
          rintro e w' ⟨r, rfl, hr1, hr2, G7, b7, tn7⟩
          have hu : Upd G6 w6 w' := tn7.upd.drew_left
          refine ⟨r, rfl, ⟨(World.cell?_of_block (hu.block q1 ql hgq)).trans k1, (World.cell?_of_block (hu.block g gl hgg)).trans k2⟩, ⟨_, (b7.more HM4.out).go, ?_⟩⟩
          have hrn : r < 65536 := by have := b7.room.bounds; unfold pagesN at hr1; omega
          have T := OV.out.two HSZ.out HC.out hr2 hrn
          rw [nd_tk, nd_dr] at T
          rw [if_pos rfl]
          exact ⟨_, _, T⟩)
        have hnn' : (0 : Int) < (nn : Int) := by omega
        clear HW b6 tn6 r6 ql gl hgq hgg R2 HC HZ3
        generalize ((nd 0 (A ++ (key, val) :: B')).drop i).keys.getD 0 ByteArray.empty = kk at *
        go_wp2_with fail
        go_region_held3 (fun w' => w'.cell? ⟨q1, 1, none⟩ = some (.slice (some ⟨g, off, none⟩) nn cap) ∧ w'.cell? ⟨g, off, none⟩ = some (.string kk)) (go_keep) ((go_at_call 72; refine Calls.at_args FR.out (by with_reducible rfl) ?_; rintro e w7 ⟨r, rfl, hk, HF⟩))
        all_goals go_wp2_with fail
        all_goals go_ret3
        all_goals exact .inl ⟨kk, r, true, rfl, HF⟩
      · have FP : Hid (Calls Tryz.prog 72 #[.pointer (some ⟨tb, 0, none⟩), .pointer (some ⟨q1, 0, none⟩)] w6.drew fun e w' => e = .panicked [{ v := .iface 180 (.int .i64 4), recovered := false }] ∧ Hid (PutFail w w' G rb n (m + 4) S)) := Lib.hid (by
          have hd := (Below.refl w6.heap.size w6).drew
          have b6' := b6.below hd
          refine (fresh_full G6 tb rb place n _ _ q1 w6.drew b6'.room b6'.blk (Nat.le_trans HM3.out (by decide)) fun r hr => ?_).mono ?_
          · cases hu : S.used r with
            | true => exact hu
            | false => exact absurd ⟨r, hr, hu⟩ hfr
          · rintro e w' ⟨rfl, hb⟩
            exact ⟨rfl, _, ((b6'.below hb.out).more (Nat.le_trans (Nat.le_add_right _ 3) HM4.out)).go, (by first | exact HBASE.out | rfl)⟩)
        have hnn' : (0 : Int) < (nn : Int) := by omega
        clear HW b6 tn6 r6 ql gl hgq hgg R2 HC HZ3
        generalize ((nd 0 (A ++ (key, val) :: B')).drop i).keys.getD 0 ByteArray.empty = kk at *
        go_wp2_with fail
        refine wp_region_held_drew (S := (fun w' => w'.cell? ⟨q1, 1, none⟩ = some (.slice (some ⟨g, off, none⟩) nn cap) ∧ w'.cell? ⟨g, off, none⟩ = some (.string kk))) (by kernel_rfl) ?_ (fun hHeld => ?_)
        · exact ⟨k1, k2⟩
        refine' wpAnyH_take (i := 0) (v := ?v0_0) rfl (by kernel_rfl) (by kernel_rfl) (by kernel_rfl) (fun _ _ _ h => h) (Or.inl ⟨by rfl, ?hy0_0⟩) (by assumption) ?_
        case hy0_0 => (intro w hSw; (try dsimp only at hSw); go_simp; try with_reducible rfl)
        try simp only [Act.put, List.setIfInBounds_toArray, List.set_cons_zero, List.set_cons_succ, List.getElem_toArray, List.getElem_cons_zero]
        refine' wpAnyH_take (i := 1) (v := ?v0_1) rfl (by kernel_rfl) (by kernel_rfl) (by kernel_rfl) (fun _ _ _ h => h) (Or.inl ⟨by rfl, ?hy0_1⟩) (by assumption) ?_
        case hy0_1 => (intro w hSw; (try dsimp only at hSw); go_simp; try with_reducible rfl)
        try simp only [Act.put, List.setIfInBounds_toArray, List.set_cons_zero, List.set_cons_succ, List.getElem_toArray, List.getElem_cons_succ, List.getElem_cons_zero]
        refine' wpAnyH_take (i := 2) (v := ?v0_2) rfl (by kernel_rfl) (by kernel_rfl) (by kernel_rfl) (fun _ _ _ h => h) (Or.inl ⟨by rfl, ?hy0_2⟩) (by assumption) ?_
        case hy0_2 => (intro w hSw; (try dsimp only at hSw); go_simp; try with_reducible rfl)
        try simp only [Act.put, List.setIfInBounds_toArray, List.set_cons_zero, List.set_cons_succ, List.getElem_toArray, List.getElem_cons_succ, List.getElem_cons_zero]
        refine' wpAnyH_take (i := 3) (v := ?v0_3) rfl (by kernel_rfl) (by kernel_rfl) (by kernel_rfl) (fun _ _ _ h => h) (Or.inl ⟨by rfl, ?hy0_3⟩) (by assumption) ?_
        case hy0_3 => (intro w hSw; (try dsimp only at hSw); go_simp; try with_reducible rfl)
        try simp only [Act.put, List.setIfInBounds_toArray, List.set_cons_zero, List.set_cons_succ, List.getElem_toArray, List.getElem_cons_succ, List.getElem_cons_zero]
        refine' wpAnyH_take (i := 4) (v := ?v0_4) rfl (by kernel_rfl) (by kernel_rfl) (by kernel_rfl) (fun _ _ _ h => h) (Or.inl ⟨by rfl, ?hy0_4⟩) (by assumption) ?_
        case hy0_4 => (intro w hSw; (try dsimp only at hSw); go_simp; try with_reducible rfl)
        try simp only [Act.put, List.setIfInBounds_toArray, List.set_cons_zero, List.set_cons_succ, List.getElem_toArray, List.getElem_cons_succ, List.getElem_cons_zero]
        refine' wpAnyH_take (i := 5) (v := ?v0_5) rfl (by kernel_rfl) (by kernel_rfl) (by kernel_rfl) (fun _ _ _ h => h) (Or.inl ⟨by rfl, ?hy0_5⟩) (by assumption) ?_
        case hy0_5 => (intro w hSw; (try dsimp only at hSw); go_simp; try with_reducible rfl)
        try simp only [Act.put, List.setIfInBounds_toArray, List.set_cons_zero, List.set_cons_succ, List.getElem_toArray, List.getElem_cons_succ, List.getElem_cons_zero]
        refine' wpAnyH_take (i := 6) (v := ?v0_6) rfl (by kernel_rfl) (by kernel_rfl) (by kernel_rfl) (fun _ _ _ h => h) (Or.inl ⟨by rfl, ?hy0_6⟩) (by assumption) ?_
        case hy0_6 => (intro w hSw; (try dsimp only at hSw); go_simp; try with_reducible rfl)
        try simp only [Act.put, List.setIfInBounds_toArray, List.set_cons_zero, List.set_cons_succ, List.getElem_toArray, List.getElem_cons_succ, List.getElem_cons_zero]
        refine' wpAnyH_take (i := 7) (v := ?v0_7) rfl (by kernel_rfl) (by kernel_rfl) (by kernel_rfl) (fun _ _ _ h => h) (Or.inl ⟨by rfl, ?hy0_7⟩) (by assumption) ?_
        case hy0_7 => (intro w hSw; (try dsimp only at hSw); go_simp; try with_reducible rfl)
        try simp only [Act.put, List.setIfInBounds_toArray, List.set_cons_zero, List.set_cons_succ, List.getElem_toArray, List.getElem_cons_succ, List.getElem_cons_zero]
        refine wpAnyH_ready (rs := [8]) (by kernel_rfl) (by simp) ?_
        refine AllReadyH.cons rfl (fun K hK => ?_) AllReadyH.nil
        go_simp
        go_at_call 72
        refine Calls.at_args FP.out (by with_reducible rfl) ?_
        rintro e w7 ⟨rfl, HF⟩
        exact ⟨rfl, .inr ⟨rfl, HF⟩⟩
  · have OV := Lib.hid (Over.leaf (val := val) HT.out (.inl rfl) HA.out hB' HKS.out HVS.out)
    have HB2 := Lib.hid hB'
    clear hB'
    go_enter Tryz.func73, Tryz.ntmps73
    go_wp2_with fail
    refine RD.out.mono ?_
    rintro e w1 ⟨q, rfl, HQ⟩
    obtain ⟨F, x1, x2, x3⟩ := HQ.out
    have N1 := Lib.hid (Nod.start (w0 := w) (G := G) x1 x2 HG.out)
    have B1 := Lib.hid (B0.out.below x3)
    obtain ⟨vk, vv, vi, hv1⟩ := N1.out.rd.view
    have c0 : w1.cell? ⟨q, 0, none⟩ = some (.bool true) := cell_lit hv1.blk rfl
    have FD := Lib.hid (find_c false q (.leaf (A ++ B)) vk vv vi (A.map Prod.fst) (B.map Prod.fst) key w1 hv1 (by simp [Nd.keys]) HPOS.out HL.out (fun a ha => by obtain ⟨e, he, rfl⟩ := List.mem_map.1 ha; exact HA.out e he) (fun b hb => by obtain ⟨e, he, rfl⟩ := List.mem_map.1 hb; exact HB.out e he) ⟨(fun e => by cases e), (fun ⟨B', e⟩ => by
      have hm : key ∈ B.map Prod.fst := by rw [e]; simp
      obtain ⟨e', he, he2⟩ := List.mem_map.1 hm
      have := HB2.out e' he
      rw [he2, kless_irrefl] at this; cases this)⟩)
    rw [List.length_map] at FD
    clear x1 x2 x3 HQ hv1 RD B0
    go_wp2_with fail
    refine FD.out.mono ?_
    rintro e w2 ⟨rfl, qn, rfl⟩
    have N2 := N1.out.below (drewN_below w1 qn)
    have B2 := B1.out.below (drewN_below w1 qn)
    generalize w1.drewN qn = w2 at *
    obtain ⟨F2, y1, y2⟩ := N2
    have IN := Lib.hid (insert_leaf F2 q A B key val 0 w2 y1 HN4.out)
    have Y2 := Lib.hid y2
    have B2' := Lib.hid B2
    clear y1 y2 B2 N1 B1 FD c0
    go_wp2_with fail
    refine IN.out.mono ?_
    rintro e w3 ⟨rfl, HI⟩
    have NT : Hid (Nod w w3 G q (nd 0 (A ++ (key, val) :: B))) := Lib.hid (Nod.go Y2.out HI.out B2'.out.room.lt B2'.out.up.size)
    have BT := Lib.hid (B2'.out.node (by obtain ⟨F', a, b, c⟩ := HI.out; exact c) Y2.out)
    clear IN Y2 B2' HI
    go_wp2_with fail
    have TS := Lib.hid (tail_size NT.out OV.out.ok)
    refine TS.out.mono ?_
    rintro e w4 ⟨rfl, rfl⟩
    clear TS
    by_cases hsz : (nd 0 (A ++ (key, val) :: B)).size ≤ 512
    · have TW := Lib.hid (tail_write BT.out p NT.out.rd OV.out.ok hsz OV.out.use HM1.out)
      have hI : (((nd 0 (A ++ (key, val) :: B)).size : Nat) : Int) ≤ 512 := by omega
      have HSZ := Lib.hid hsz
      clear hsz
      go_wp2_with fail
      refine TW.out.mono ?_
      rintro e w5 ⟨rfl, HW⟩
      clear hI TW
      go_wp2_with fail
      go_ret3
      obtain ⟨G5, b5, -⟩ := HW.out
      exact .inl ⟨ByteArray.empty, 0, false, rfl, _, (b5.more HM2.out).go, rfl, rfl, _, OV.out.one HSZ.out⟩
    · have TSp := Lib.hid (tail_split BT.out NT.out OV.out.ok (by omega) OV.out.siz)
      have hI : ¬ (((nd 0 (A ++ (key, val) :: B)).size : Nat) : Int) ≤ 512 := by omega
      have HSZ := Lib.hid (show 512 < (nd 0 (A ++ (key, val) :: B)).size by omega)
      clear hsz
      go_wp2_with fail
      refine TSp.out.mono ?_
      rintro e w5 ⟨q1, rfl, HS⟩
      clear TSp hI NT BT
      obtain ⟨i, hc, b5, r1, r2⟩ := HS.out
      obtain ⟨z0, z1, z2, z3, z4⟩ := OV.out.cut HSZ.out hc
      obtain ⟨l1, l2⟩ := len_take (nd 0 (A ++ (key, val) :: B)) i (Nat.le_of_lt z1)
      have ok1 : ((nd 0 (A ++ (key, val) :: B)).take i).Ok := by rw [← nd_tk]; exact ((OV.out.wf.cut i).1).ok (by rw [nd_tk, l1]; exact z0) (by rw [nd_tk]; omega)
      have ok2 : ((nd 0 (A ++ (key, val) :: B)).drop i).Ok := by rw [← nd_dr]; exact ((OV.out.wf.cut i).2).ok (by rw [nd_dr, l2]; omega) (by rw [nd_dr]; omega)
      have TW := Lib.hid (tail_write b5 p r1 ok1 z2 OV.out.use HM1.out)
      have R2 := Lib.hid r2
      have OK2 := Lib.hid ok2
      have HC := Lib.hid hc
      have HZ3 := Lib.hid z3
      clear hc b5 r1 r2 z0 z1 z2 z3 z4 l1 l2 ok1 ok2 HS
      go_wp2_with fail
      refine TW.out.mono ?_
      rintro e w6 ⟨rfl, HW⟩
      clear TW
      obtain ⟨G6, b6, tn6⟩ := HW.out
      have r6 := R2.out.turn tn6
      obtain ⟨g, off, nn, cap, hnn, k1, k2, ql, gl, hgq, hgg⟩ := r6.key0 OK2.out.pos
      by_cases hfr : ∃ r, r < pagesN n ∧ S.used r = false
      · have FR : Hid (Calls Tryz.prog 72 #[.pointer (some ⟨tb, 0, none⟩), .pointer (some ⟨q1, 0, none⟩)] w6.drew fun e w' => ∃ r : Nat, e = .returned (.int .i64 (r : Int)) ∧ (w'.cell? ⟨q1, 1, none⟩ = some (.slice (some ⟨g, off, none⟩) nn cap) ∧ w'.cell? ⟨g, off, none⟩ = some (.string (((nd 0 (A ++ (key, val) :: B)).drop i).keys.getD 0 ByteArray.empty))) ∧ Hid (PutPost w w' G rb n (m + 4) S (0) p (A ++ B) key val (((nd 0 (A ++ (key, val) :: B)).drop i).keys.getD 0 ByteArray.empty) r true)) := Lib.hid (by
          have hd := (Below.refl w6.heap.size w6).drew
          refine (tail_fresh (b6.below hd) (r6.below hd) OK2.out HZ3.out HM3.out hfr).mono ?_
          rintro e w' ⟨r, rfl, hr1, hr2, G7, b7, tn7⟩
          have hu : Upd G6 w6 w' := tn7.upd.drew_left
          refine ⟨r, rfl, ⟨(World.cell?_of_block (hu.block q1 ql hgq)).trans k1, (World.cell?_of_block (hu.block g gl hgg)).trans k2⟩, ⟨_, (b7.more HM4.out).go, ?_⟩⟩
          have hrn : r < 65536 := by have := b7.room.bounds; unfold pagesN at hr1; omega
          have T := OV.out.two HSZ.out HC.out hr2 hrn
          rw [nd_tk, nd_dr] at T
          rw [if_pos rfl]
          exact ⟨_, _, T⟩)
        have hnn' : (0 : Int) < (nn : Int) := by omega
        clear HW b6 tn6 r6 ql gl hgq hgg R2 HC HZ3
        generalize ((nd 0 (A ++ (key, val) :: B)).drop i).keys.getD 0 ByteArray.empty = kk at *
        go_wp2_with fail
        go_region_held3 (fun w' => w'.cell? ⟨q1, 1, none⟩ = some (.slice (some ⟨g, off, none⟩) nn cap) ∧ w'.cell? ⟨g, off, none⟩ = some (.string kk)) (go_keep) ((go_at_call 72; refine Calls.at_args FR.out (by with_reducible rfl) ?_; rintro e w7 ⟨r, rfl, hk, HF⟩))
        all_goals go_wp2_with fail
        all_goals go_ret3
        all_goals exact .inl ⟨kk, r, true, rfl, HF⟩
      · have FP : Hid (Calls Tryz.prog 72 #[.pointer (some ⟨tb, 0, none⟩), .pointer (some ⟨q1, 0, none⟩)] w6.drew fun e w' => e = .panicked [{ v := .iface 180 (.int .i64 4), recovered := false }] ∧ Hid (PutFail w w' G rb n (m + 4) S)) := Lib.hid (by
          have hd := (Below.refl w6.heap.size w6).drew
          have b6' := b6.below hd
          refine (fresh_full G6 tb rb place n _ _ q1 w6.drew b6'.room b6'.blk (Nat.le_trans HM3.out (by decide)) fun r hr => ?_).mono ?_
          · cases hu : S.used r with
            | true => exact hu
            | false => exact absurd ⟨r, hr, hu⟩ hfr
          · rintro e w' ⟨rfl, hb⟩
            exact ⟨rfl, _, ((b6'.below hb.out).more (Nat.le_trans (Nat.le_add_right _ 3) HM4.out)).go, (by first | exact HBASE.out | rfl)⟩)
        have hnn' : (0 : Int) < (nn : Int) := by omega
        clear HW b6 tn6 r6 ql gl hgq hgg R2 HC HZ3
        generalize ((nd 0 (A ++ (key, val) :: B)).drop i).keys.getD 0 ByteArray.empty = kk at *
        go_wp2_with fail
        refine wp_region_held_drew (S := (fun w' => w'.cell? ⟨q1, 1, none⟩ = some (.slice (some ⟨g, off, none⟩) nn cap) ∧ w'.cell? ⟨g, off, none⟩ = some (.string kk))) (by kernel_rfl) ?_ (fun hHeld => ?_)
        · exact ⟨k1, k2⟩
        refine' wpAnyH_take (i := 0) (v := ?v1_0) rfl (by kernel_rfl) (by kernel_rfl) (by kernel_rfl) (fun _ _ _ h => h) (Or.inl ⟨by rfl, ?hy1_0⟩) (by assumption) ?_
        case hy1_0 => (intro w hSw; (try dsimp only at hSw); go_simp; try with_reducible rfl)
        try simp only [Act.put, List.setIfInBounds_toArray, List.set_cons_zero, List.set_cons_succ, List.getElem_toArray, List.getElem_cons_zero]
        refine' wpAnyH_take (i := 1) (v := ?v1_1) rfl (by kernel_rfl) (by kernel_rfl) (by kernel_rfl) (fun _ _ _ h => h) (Or.inl ⟨by rfl, ?hy1_1⟩) (by assumption) ?_
        case hy1_1 => (intro w hSw; (try dsimp only at hSw); go_simp; try with_reducible rfl)
        try simp only [Act.put, List.setIfInBounds_toArray, List.set_cons_zero, List.set_cons_succ, List.getElem_toArray, List.getElem_cons_succ, List.getElem_cons_zero]
        refine' wpAnyH_take (i := 2) (v := ?v1_2) rfl (by kernel_rfl) (by kernel_rfl) (by kernel_rfl) (fun _ _ _ h => h) (Or.inl ⟨by rfl, ?hy1_2⟩) (by assumption) ?_
        case hy1_2 => (intro w hSw; (try dsimp only at hSw); go_simp; try with_reducible rfl)
        try simp only [Act.put, List.setIfInBounds_toArray, List.set_cons_zero, List.set_cons_succ, List.getElem_toArray, List.getElem_cons_succ, List.getElem_cons_zero]
        refine' wpAnyH_take (i := 3) (v := ?v1_3) rfl (by kernel_rfl) (by kernel_rfl) (by kernel_rfl) (fun _ _ _ h => h) (Or.inl ⟨by rfl, ?hy1_3⟩) (by assumption) ?_
        case hy1_3 => (intro w hSw; (try dsimp only at hSw); go_simp; try with_reducible rfl)
        try simp only [Act.put, List.setIfInBounds_toArray, List.set_cons_zero, List.set_cons_succ, List.getElem_toArray, List.getElem_cons_succ, List.getElem_cons_zero]
        refine' wpAnyH_take (i := 4) (v := ?v1_4) rfl (by kernel_rfl) (by kernel_rfl) (by kernel_rfl) (fun _ _ _ h => h) (Or.inl ⟨by rfl, ?hy1_4⟩) (by assumption) ?_
        case hy1_4 => (intro w hSw; (try dsimp only at hSw); go_simp; try with_reducible rfl)
        try simp only [Act.put, List.setIfInBounds_toArray, List.set_cons_zero, List.set_cons_succ, List.getElem_toArray, List.getElem_cons_succ, List.getElem_cons_zero]
        refine' wpAnyH_take (i := 5) (v := ?v1_5) rfl (by kernel_rfl) (by kernel_rfl) (by kernel_rfl) (fun _ _ _ h => h) (Or.inl ⟨by rfl, ?hy1_5⟩) (by assumption) ?_
        case hy1_5 => (intro w hSw; (try dsimp only at hSw); go_simp; try with_reducible rfl)
        try simp only [Act.put, List.setIfInBounds_toArray, List.set_cons_zero, List.set_cons_succ, List.getElem_toArray, List.getElem_cons_succ, List.getElem_cons_zero]
        refine' wpAnyH_take (i := 6) (v := ?v1_6) rfl (by kernel_rfl) (by kernel_rfl) (by kernel_rfl) (fun _ _ _ h => h) (Or.inl ⟨by rfl, ?hy1_6⟩) (by assumption) ?_
        case hy1_6 => (intro w hSw; (try dsimp only at hSw); go_simp; try with_reducible rfl)
        try simp only [Act.put, List.setIfInBounds_toArray, List.set_cons_zero, List.set_cons_succ, List.getElem_toArray, List.getElem_cons_succ, List.getElem_cons_zero]
        refine' wpAnyH_take (i := 7) (v := ?v1_7) rfl (by kernel_rfl) (by kernel_rfl) (by kernel_rfl) (fun _ _ _ h => h) (Or.inl ⟨by rfl, ?hy1_7⟩) (by assumption) ?_
        case hy1_7 => (intro w hSw; (try dsimp only at hSw); go_simp; try with_reducible rfl)
        try simp only [Act.put, List.setIfInBounds_toArray, List.set_cons_zero, List.set_cons_succ, List.getElem_toArray, List.getElem_cons_succ, List.getElem_cons_zero]
        refine wpAnyH_ready (rs := [8]) (by kernel_rfl) (by simp) ?_
        refine AllReadyH.cons rfl (fun K hK => ?_) AllReadyH.nil
        go_simp
        go_at_call 72
        refine Calls.at_args FP.out (by with_reducible rfl) ?_
        rintro e w7 ⟨rfl, HF⟩
        exact ⟨rfl, .inr ⟨rfl, HF⟩⟩
end Go.Proofs.YtaibjcjphmhgmaaGreatDoor
