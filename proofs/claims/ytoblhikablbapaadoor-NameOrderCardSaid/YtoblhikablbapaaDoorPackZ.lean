/- Same of equal fields; awake; what is read lies as fields. -/
import Derived.Test.YtoblhikablbapaaDoorPackQ
namespace Go.Proofs.YtoblhikablbapaaDoor
set_option linter.unusedVariables false
open Go.RowKit
theorem fcells_get {l : List Fld} {k : Nat} (h : k < l.length) : (fcells l)[k * 2]? = some (.int .u64 l[k].1) ∧ (fcells l)[k * 2 + 1]? = some (.string l[k].2) := by
  induction l generalizing k with
  | nil => simp at h
  | cons p r ih =>
    cases k with
    | zero => exact ⟨rfl, rfl⟩
    | succ k =>
      have := ih (k := k) (by simpa using h)
      have e1 : (k + 1) * 2 = (k * 2) + 2 := by omega
      rw [e1]
      exact this
theorem addr_add2 (g j : Nat) : (⟨g, 0, none⟩ : Addr).add j = ⟨g, 0 + j, none⟩ := by unfold Addr.add; split <;> simp_all
theorem flds_of_own {w : World} {base : Nat} {v : Value} {l : List Fld} (h : w.ownsRow base 60 2 v l.length (fcells l)) (hn : ∀ p ∈ l, p.1 < 18446744073709551616) : FldsAt w v l := by
  refine ⟨?_, hn⟩
  rcases h.2 with ⟨rfl, h0⟩ | ⟨g, cap, cur, rfl, -⟩
  · exact ⟨none, 0, by rw [h0], fun k hk => by omega⟩
  · refine ⟨some ⟨g, 0, none⟩, cap, rfl, fun k hk => ⟨g, 0, rfl, ?_, ?_, (h.lt g rfl).2⟩⟩
    · have := h.cells rfl (k * 2) _ (fcells_get hk).1
      rwa [addr_add2] at this
    · have := h.cells rfl (k * 2 + 1) _ (fcells_get hk).2
      rw [addr_add2] at this
      rw [show 0 + k * 2 + 1 = 0 + (k * 2 + 1) by omega]
      exact this
def SameRel (w : World) (l : List Fld) (g : Nat) (s5 : Value) (wr : World) : Prop := ∃ k, g = l.length - k ∧ k ≤ l.length ∧ s5 = .int .i64 k ∧ Below w.heap.size w wr
theorem Same_t (a b : Value) (l : List Fld) (w : World) (ha : FldsAt w a l) (hb : FldsAt w b l) (hl : l.length ≤ 1000000) :
    Calls Tryd.prog 20 #[a, b] w fun e w' => e = .returned (.bool true) ∧ Below w.heap.size w w' := by
  have HA := Lib.hid ha
  have HB := Lib.hid hb
  obtain ⟨x, cx, rfl⟩ := ha.form
  obtain ⟨y, cy, rfl⟩ := hb.form
  clear ha hb
  go_enter Tryd.func20, Tryd.ntmps20
  go_wp2_with fail
  go_loopg [5] l.length (fun g s5 wr => SameRel w l g s5 wr)
  case atStart => exact ⟨0, by omega, Nat.zero_le _, rfl, Below.refl _ _⟩
  case round =>
    obtain ⟨k, rfl, hk, rfl, hw⟩ := hrel
    have HW := Lib.hid hw
    by_cases hlt : k < l.length
    · obtain ⟨b1, o1, rfl, c1, c2, -⟩ := ((HA.out).below hw).get k hlt
      obtain ⟨b2, o2, rfl, d1, d2, -⟩ := ((HB.out).below hw).get k hlt
      generalize l[k] = f at *
      obtain ⟨n, S⟩ := f
      simp only at c1 c2 d1 d2
      clear hw
      go_wp2_with fail
      go_region
      go_wp2_with fail
      go_roundg (l.length - (k + 1))
      case measure => omega
      case rel => exact ⟨k + 1, rfl, by omega, by simp, (HW.out).drew⟩
    · obtain rfl : k = l.length := by omega
      go_wp2_with fail
      go_ret
      exact ⟨rfl, HW.out⟩
theorem flds_two {w : World} {g : Nat} {n1 n2 : Nat} {S1 S2 : ByteArray} {fr : Nat × Nat} {ty : TypeId} (h : w.heap[g]? = some (.cells #[.int .u64 n1, .string S1, .int .u64 n2, .string S2] ty fr)) (h1 : n1 < 18446744073709551616) (h2 : n2 < 18446744073709551616) : FldsAt w (.slice (some ⟨g, 0, none⟩) 2 2) [(n1, S1), (n2, S2)] := by
  refine ⟨⟨_, _, rfl, fun k hk => ⟨g, 0, rfl, ?_⟩⟩, by simp [h1, h2]⟩
  match k, hk with
  | 0, _ => exact ⟨cell_lit h rfl, cell_lit h rfl, lt_of_heap h⟩
  | 1, _ => exact ⟨cell_lit h rfl, cell_lit h rfl, lt_of_heap h⟩
theorem flds_one {w : World} {g : Nat} {n1 : Nat} {S1 : ByteArray} {fr : Nat × Nat} {ty : TypeId} (h : w.heap[g]? = some (.cells #[.int .u64 n1, .string S1] ty fr)) (h1 : n1 < 18446744073709551616) : FldsAt w (.slice (some ⟨g, 0, none⟩) 1 1) [(n1, S1)] := by
  refine ⟨⟨_, _, rfl, fun k hk => ⟨g, 0, rfl, ?_⟩⟩, by simp [h1]⟩
  match k, hk with
  | 0, _ => exact ⟨cell_lit h rfl, cell_lit h rfl, lt_of_heap h⟩
set_option maxRecDepth 100000 in
theorem awake_c (w : World) : Calls Tryd.prog 13 #[] w fun e w' => e = .returned (.bool true) ∧ Below w.heap.size w w' := by
  have W1 := Write_c ⟨#[98, 116]⟩ (.slice (some ⟨w.heap.size, 0, none⟩) 2 2) [(7, ⟨#[]⟩), (0, ⟨#[97, 98]⟩)] (w.alloc (.cells #[.int .u64 (7 : Nat), .string ⟨#[]⟩, .int .u64 (0 : Nat), .string ⟨#[97, 98]⟩] 60)) (by decide) (flds_two (heap_alloc_new _ _) (by decide) (by decide)) (by intro p hp; simp at hp; rcases hp with rfl | rfl <;> decide)
  have e1 : WrOut (writeL (⟨#[98, 116]⟩ : ByteArray).data.toList [(7, ⟨#[]⟩), (0, ⟨#[97, 98]⟩)]) = .tuple #[.string ⟨#[7, 0, 2, 97, 98]⟩, .bool true] := by kernel_rfl
  rw [e1] at W1
  have R1 : ∀ w, Calls Tryd.prog 19 #[.string ⟨#[98, 116]⟩, .string ⟨#[7, 0, 2, 97, 98]⟩] w (RdPost w (some [(7, ⟨#[]⟩), (0, ⟨#[97, 98]⟩)])) := by
    intro w
    have := Read_c ⟨#[98, 116]⟩ ⟨#[7, 0, 2, 97, 98]⟩ w (by decide) (by decide)
    rwa [show readF (⟨#[98, 116]⟩ : ByteArray).data.toList ⟨#[7, 0, 2, 97, 98]⟩ = some [(7, ⟨#[]⟩), (0, ⟨#[97, 98]⟩)] by kernel_rfl] at this
  go_enter Tryd.func13, Tryd.ntmps13
  go_wp2_with fail
  refine W1.mono ?_
  rintro e w1 ⟨rfl, h1⟩
  have H1 := Lib.hid (((Below.refl w.heap.size w).alloc (Nat.le_refl _) (.cells #[.int .u64 (7 : Nat), .string ⟨#[]⟩, .int .u64 (0 : Nat), .string ⟨#[97, 98]⟩] 60)).trans (h1.mono (by simp)))
  clear h1 W1
  go_wp2_with fail
  refine (R1 _).mono ?_
  rintro e w2 ⟨v, rfl, h2, h3⟩
  have F2 := flds_of_own h2 (by intro p hp; simp at hp; rcases hp with rfl | rfl <;> decide)
  obtain ⟨a, cap, rfl⟩ := F2.form
  obtain ⟨g, o, rfl, c1, c2, lg⟩ := F2.get 1 (by decide)
  have H2 := Lib.hid ((H1.out).trans (h3.mono (H1.out).size))
  clear h2 h3 H1 F2
  have W2 := Write_c ⟨#[98]⟩ (.slice (some ⟨w2.heap.size, 0, none⟩) 1 1) [(256, ⟨#[]⟩)] (w2.alloc (.cells #[.int .u64 (256 : Nat), .string ⟨#[]⟩] 60)) (by decide) (flds_one (heap_alloc_new _ _) (by decide)) (by intro p hp; simp at hp; rcases hp with rfl; decide)
  have e2 : WrOut (writeL (⟨#[98]⟩ : ByteArray).data.toList [(256, ⟨#[]⟩)]) = .tuple #[.string ⟨#[]⟩, .bool false] := by kernel_rfl
  rw [e2] at W2
  go_wp2_with fail
  refine W2.mono ?_
  rintro e w3 ⟨rfl, h5⟩
  have c3a := (((Below.refl w2.heap.size w2).alloc (Nat.le_refl _) (.cells #[.int .u64 (256 : Nat), .string ⟨#[]⟩] 60)).trans (h5.mono (by simp))).cell (p := ⟨g, o + 1 * 2 + 1, none⟩) lg
  have c3 : w3.cell? ⟨g, o + 2 + 1, none⟩ = some (.string ⟨#[97, 98]⟩) := c3a.trans c2
  have H3 := Lib.hid ((H2.out).trans ((((Below.refl w2.heap.size w2).alloc (Nat.le_refl _) (.cells #[.int .u64 (256 : Nat), .string ⟨#[]⟩] 60)).trans (h5.mono (by simp))).mono (H2.out).size))
  clear h5 W2 H2 c1 c2 c3a
  go_wp2_with fail
  go_ret
  exact ⟨rfl, H3.out⟩
end Go.Proofs.YtoblhikablbapaaDoor
