/- NameParts: the walk of the law. (Printed by wip/gennamep.py.) -/
import Derived.Test.YtoblhikablbapaaDoorNameKeys
namespace Go.Proofs.YtoblhikablbapaaDoor
set_option linter.unusedVariables false
set_option maxRecDepth 100000
set_option maxHeartbeats 4000000
open Go.RowKit
/-- A box of the call's own stands, and what was there before. -/
def Boxed (w : World) (o : Obj) (wr : World) : Prop := Below (w.heap.size + 1) (w.alloc o) wr
theorem Boxed.lit {w wr : World} {o : Obj} (h : Boxed w o wr) : wr.heap[w.heap.size]? = some o := (h.block _ (by omega)).trans (heap_alloc_new _ _)
theorem Boxed.below {w wr : World} {o : Obj} (h : Boxed w o wr) : Below w.heap.size w wr := ((Below.refl w.heap.size w).alloc (Nat.le_refl _) _).trans (Below.mono h (by omega))
theorem Boxed.size {w wr : World} {o : Obj} (h : Boxed w o wr) : w.heap.size + 1 ≤ wr.heap.size := by have := Below.size h; rwa [World.size_alloc] at this
theorem Boxed.step {w wr w' : World} {o : Obj} (h : Boxed w o wr) (hb : Below wr.heap.size wr w') : Boxed w o w' := Below.trans h (hb.mono h.size)
theorem Boxed.drew {w wr : World} {o : Obj} (h : Boxed w o wr) : Boxed w o wr.drew := h.step (Below.refl _ _).drew
theorem Boxed.start {w wr : World} {o : Obj} (h : Below (w.alloc o).heap.size (w.alloc o) wr) : Boxed w o wr := by unfold Boxed; rw [World.size_alloc] at h; exact h
theorem reads_twoI {w : World} {v : Value} (h : Reads w 52 v) : ∃ s t : Int, v = .agg #[.int .i64 s, .int .i64 t] ∧ (Lit.int .i64 s).wf = true ∧ (Lit.int .i64 t).wf = true := by
  obtain ⟨cs, rfl, hs, hc⟩ := reads_array Tryd.underlying52 h
  have hs : cs.size = 2 := hs.trans (by kernel_rfl)
  have c1 : Tryd.prog.cellsOf 3 = 1 := by kernel_rfl
  obtain ⟨_, hf⟩ := readsC_array Tryd.underlying52 hc
  rw [c1] at hf
  obtain ⟨l, rfl⟩ : ∃ l : List Value, cs = l.toArray := ⟨cs.toList, by simp⟩
  match l, hs with
  | [a, b], _ =>
    obtain ⟨s, e1, h1⟩ := readsC_int Tryd.underlying3 (hf 0 (by decide))
    obtain ⟨t, e2, h2⟩ := readsC_int Tryd.underlying3 (hf 1 (by decide))
    simp at e1 e2
    subst e1 e2
    exact ⟨s, t, rfl, h1, h2⟩
theorem strs_of_slice {w : World} {v : Value} {l : List ByteArray} (h : SliceAt w v (l.map Value.string)) : StrsAt w v l := by
  obtain ⟨a, cap, rfl, _, _, hc⟩ := h
  refine ⟨a, cap, by simp, fun k hk => ?_⟩
  obtain ⟨b, off, e, g1, g2⟩ := hc k (by simpa using hk)
  exact ⟨b, off, e, by simpa using g1, g2⟩
theorem less_app : ∀ (p : List UInt8) (c : UInt8) (q : List UInt8), c ≠ 255 → Op.bytesLess (p ++ [c + 1]) (p ++ c :: q) = false ∧ (p ++ [c + 1] == p ++ c :: q) = false := by
  intro p c q hc
  have hcn : c.toNat < 255 := by
    have := c.toNat_lt
    have : c.toNat ≠ 255 := fun h => hc (UInt8.toNat_inj.1 h)
    omega
  have hd : (c + 1).toNat = c.toNat + 1 := by rw [UInt8.toNat_add]; show (c.toNat + 1) % 256 = _; omega
  have h1 : ¬ (c + 1 < c) := by rw [UInt8.lt_iff_toNat_lt, hd]; omega
  have h2 : (c + 1 == c) = false := by
    simp only [beq_eq_false_iff_ne]; intro e
    have := congrArg UInt8.toNat e; omega
  induction p with
  | nil =>
    constructor
    · show (decide (c + 1 < c) || (c + 1 == c && _)) = false
      simp only [h1, h2, decide_false, Bool.false_and, Bool.or_self]
    · show (c + 1 == c && _) = false
      rw [h2]; rfl
  | cons a p ih =>
    constructor
    · show (decide (a < a) || (a == a && Op.bytesLess (p ++ [c + 1]) (p ++ c :: q))) = false
      have : ¬ a < a := by rw [UInt8.lt_iff_toNat_lt]; omega
      simp only [this, decide_false, ih.1, Bool.and_false, Bool.or_self]
    · show (a == a && (p ++ [c + 1] == p ++ c :: q)) = false
      rw [ih.2]; simp
theorem behindR_form : ∀ r : List UInt8, behindR r = [] ∨ ∃ p c q, r.reverse = p ++ c :: q ∧ c ≠ 255 ∧ behindR r = p ++ [c + 1] := by
  intro r
  induction r with
  | nil => exact .inl rfl
  | cons c r ih =>
    by_cases h : c = 255
    · have e : behindR (c :: r) = behindR r := by show (if c = 255 then _ else _) = _; rw [if_pos h]
      rw [e]
      rcases ih with ih | ⟨p, d, q, h1, h2, h3⟩
      · exact .inl ih
      · exact .inr ⟨p, d, q ++ [c], by rw [List.reverse_cons, h1]; simp, h2, h3⟩
    · exact .inr ⟨r.reverse, c, [], by simp, h, by show (if c = 255 then _ else _) = _; rw [if_neg h]⟩
theorem behind_gt (l : List UInt8) : behindL l = [] ∨ (Op.bytesLess (behindL l) l = false ∧ (behindL l == l) = false) := by
  rcases behindR_form l.reverse with h | ⟨p, c, q, h1, h2, h3⟩
  · exact .inl h
  · right
    rw [List.reverse_reverse] at h1
    unfold behindL
    rw [h3, h1]
    exact less_app p c q h2
def allL (ps : List ByteArray) : List UInt8 := (dat ps).flatten
theorem all_snoc {ps : List ByteArray} {k : Nat} (h : k < ps.length) : allL (ps.take (k + 1)) = allL (ps.take k) ++ ps[k].data.toList := by
  unfold allL; rw [dat_snoc h]; simp
def APRel (w W : World) (o : Obj) (ps : List ByteArray) (g : Nat) (s7 s18 : Value) (wr : World) : Prop :=
  ∃ k, g = ps.length - k ∧ k ≤ ps.length ∧ s18 = .int .i64 k ∧ s7 = .string ⟨(allL (ps.take k)).toArray⟩ ∧ W = wr ∧ (allL (ps.take k)).length ≤ k * 100 ∧ ∀ p ∈ ps.take k, p.size ≤ 100
theorem ap_next {w W : World} {o : Obj} {ps : List ByteArray} {k : Nat} (hlt : k < ps.length) {z : ByteArray} (hz : z = ⟨(allL (ps.take k)).toArray⟩) (h1 : (allL (ps.take k)).length ≤ k * 100) (h2 : ∀ p ∈ ps.take k, p.size ≤ 100) (h3 : ps[k].size ≤ 100) :
    APRel w W o ps (ps.length - (k + 1)) (.string (z ++ ps[k])) (.int .i64 (k + 1)) W := by
  refine ⟨k + 1, rfl, by omega, by simp, ?_, rfl, ?_, ?_⟩
  · rw [all_snoc hlt, hz]; exact congrArg Value.string (by apply ByteArray.ext; simp)
  · rw [all_snoc hlt, List.length_append, ← Lib.size_eq]; omega
  · intro p hp
    rw [List.take_succ_eq_append_getElem hlt] at hp
    rcases List.mem_append.1 hp with hp | hp
    · exact h2 p hp
    · rw [List.mem_singleton.1 hp]; exact h3
theorem NameParts_c (kind : UInt8) (v : Value) (ps : List ByteArray) (n0 n1 : Int) (w : World) (hv : StrsAt w v ps) :
    Calls Tryd.prog 9 #[.int .u8 kind.toNat, v, .agg #[.int .i64 n0, .int .i64 n1]] w fun e w' => e = .returned (.bool true) ∧ Below w.heap.size w w' := by
  have AW := Lib.hid (fun w => awake13_c w)
  have HV := Lib.hid hv
  obtain ⟨a, cap, rfl⟩ := hv.form
  clear hv
  by_cases q1 : 5 < ps.length
  · go_enter Tryd.func9, Tryd.ntmps9
    go_wp2_with fail
    refine (AW.out _).mono ?_
    rintro e w1 ⟨rfl, hb⟩
    have J1 := Lib.hid (Boxed.start hb)
    clear hb
    go_wp2_with fail
    go_ret
    exact ⟨rfl, J1.out.below⟩
  · go_enter Tryd.func9, Tryd.ntmps9
    go_wp2_with fail
    refine (AW.out _).mono ?_
    rintro e w1 ⟨rfl, hb⟩
    have J1 := Lib.hid (Boxed.start hb)
    clear hb
    go_wp2_with fail
    go_loopg [7, 18] ps.length (fun g s7 s18 wr => APRel w w1 (.cells #[.int .i64 n0, .int .i64 n1] 52) ps g s7 s18 wr)
    case atStart => exact ⟨0, by omega, Nat.zero_le _, rfl, rfl, rfl, Nat.zero_le _, by simp⟩
    case round =>
      obtain ⟨k, rfl, hk, rfl, rfl, rfl, hlen, hall⟩ := hrel
      obtain ⟨z, hz⟩ : ∃ z : ByteArray, z = ⟨(allL (ps.take k)).toArray⟩ := ⟨_, rfl⟩
      have hzs : z.size ≤ 500 := by rw [hz, size_mk]; omega
      rw [← hz]
      have HZ := Lib.hid hz
      have HLEN := Lib.hid hlen
      have HALL := Lib.hid hall
      clear hz hlen hall
      by_cases hlt : k < ps.length
      · obtain ⟨b, off, rfl, c1, lb⟩ := ((HV.out).below J1.out.below).get k hlt
        have HNX := Lib.hid (fun h3 => ap_next (w := w) (W := w1) (o := .cells #[.int .i64 n0, .int .i64 n1] 52) hlt HZ.out HLEN.out HALL.out h3)
        generalize ps[k] = p at *
        by_cases h100 : 100 < p.size
        · go_wp2_with fail
          go_ret
          exact ⟨rfl, J1.out.below⟩
        · have HR := Lib.hid (HNX.out (by omega))
          go_wp2_with fail
          go_roundg (ps.length - (k + 1))
          case measure => omega
          case rel => exact HR.out
      · obtain rfl : k = ps.length := by omega
        have hz2 := HZ.out
        have hall2 := HALL.out
        rw [List.take_length] at hz2 hall2
        have hzd : z.data.toList = allL ps := by rw [hz2]
        obtain ⟨m, hm⟩ : ∃ m : Nat, IntKind.u64.wrap n0 = (m : Int) ∧ m < 18446744073709551616 := ⟨(n0 % 18446744073709551616).toNat, by simp only [IntKind.wrap, IntKind.bits, IntKind.signed]; simp; omega, by omega⟩
        have hm2 : n0 % 18446744073709551616 = (m : Int) := by have := hm.1; simp only [IntKind.wrap, IntKind.bits, IntKind.signed] at this; simpa using this
        have BH := Lib.hid (fun w => Behind_c z w (by omega))
        have RBH := Lib.hid (fun w => RBehind_c z w (by omega))
        have U1 := Lib.hid (fun W (h : Boxed w (.cells #[.int .i64 n0, .int .i64 n1] 52) W) => Under_c kind _ ps W ((HV.out).below h.below) (by omega) (fun p hp => Nat.le_trans (hall2 p hp) (by decide)))
        have U2 := Lib.hid (fun W (h : Boxed w (.cells #[.int .i64 n0, .int .i64 n1] 52) W) => RUnder_c kind _ ps W ((HV.out).below h.below) (by omega) (fun p hp => Nat.le_trans (hall2 p hp) (by decide)))
        have P1 := Lib.hid (fun w => PartKey_c m n1 w hm.2)
        have P2 := Lib.hid (fun w => RPartKey_c m n1 w hm.2)
        have k1 := hm.1
        have hbg := behind_gt z.data.toList
        generalize (⟨(underL kind (dat ps)).toArray⟩ : ByteArray) = u at *
        generalize (⟨(partKeyL m n1).toArray⟩ : ByteArray) = pk at *
        have hbg2 : (⟨(behindL z.data.toList).toArray⟩ : ByteArray).toList = [] ∨ (Op.bytesLess (⟨(behindL z.data.toList).toArray⟩ : ByteArray).toList z.toList = false ∧ ((⟨(behindL z.data.toList).toArray⟩ : ByteArray).toList == z.toList) = false) := by
          rw [Lib.toList_data, Lib.toList_data]; exact hbg
        generalize (⟨(behindL z.data.toList).toArray⟩ : ByteArray) = bh at *
        clear hz2 hall2 hzd hm hbg HZ HLEN HALL
        by_cases hbe : bh.toList = []
        · obtain rfl : bh = ⟨#[]⟩ := empty_of_size ((toList_nil bh).1 hbe)
          clear hbg2 hbe
          go_wp2_with fail
          refine (BH.out _).mono ?_
          rintro e w2 ⟨rfl, hb⟩
          have J2 := Lib.hid (J1.out.step hb)
          have HJ0 := Lib.hid (J2.out.drew)
          have c0 : w2.cell? ⟨w.heap.size, 0, none⟩ = some (.int .i64 n0) := cell_lit J2.out.lit rfl
          have c1 : w2.cell? ⟨w.heap.size, 1, none⟩ = some (.int .i64 n1) := cell_lit J2.out.lit rfl
          clear hb
          go_wp2_with fail
          (first
            | (go_region_held (fun w' => w'.cell? ⟨w.heap.size, 0, none⟩ = some (.int .i64 n0) ∧ w'.cell? ⟨w.heap.size, 1, none⟩ = some (.int .i64 n1)) (go_keep) ((first
            | (go_at_call 29; refine (U1.out _ HJ0.out).mono ?_; rintro e W1 ⟨rfl, hb⟩; have HJ1 := Lib.hid (HJ0.out.step hb); have d0 : W1.cell? ⟨w.heap.size, 0, none⟩ = some (.int .i64 n0) := cell_lit HJ1.out.lit rfl; have d1 : W1.cell? ⟨w.heap.size, 1, none⟩ = some (.int .i64 n1) := cell_lit HJ1.out.lit rfl; clear hb)
            | (go_at_call 32; refine (U2.out _ HJ1.out).mono ?_; rintro e W2 ⟨rfl, hb⟩; have HJ2 := Lib.hid (HJ1.out.step hb); have d2 : W2.cell? ⟨w.heap.size, 0, none⟩ = some (.int .i64 n0) := cell_lit HJ2.out.lit rfl; have d3 : W2.cell? ⟨w.heap.size, 1, none⟩ = some (.int .i64 n1) := cell_lit HJ2.out.lit rfl; clear hb)
            | (go_at_call 33; refine (P1.out _).mono ?_; rintro e W3 ⟨rfl, hb⟩; have HJ3 := Lib.hid (HJ2.out.step hb); have d4 : W3.cell? ⟨w.heap.size, 0, none⟩ = some (.int .i64 n0) := cell_lit HJ3.out.lit rfl; have d5 : W3.cell? ⟨w.heap.size, 1, none⟩ = some (.int .i64 n1) := cell_lit HJ3.out.lit rfl; clear hb)
            | (go_at_call 34; refine (P2.out _).mono ?_; rintro e W4 ⟨rfl, hb⟩; have HJ4 := Lib.hid (HJ3.out.step hb); have d6 : W4.cell? ⟨w.heap.size, 0, none⟩ = some (.int .i64 n0) := cell_lit HJ4.out.lit rfl; have d7 : W4.cell? ⟨w.heap.size, 1, none⟩ = some (.int .i64 n1) := cell_lit HJ4.out.lit rfl; clear hb)
            | (go_at_call 35; refine (RBH.out _).mono ?_; rintro e W5 ⟨rfl, hb⟩; have HJ5 := Lib.hid (HJ4.out.step hb); have d8 : W5.cell? ⟨w.heap.size, 0, none⟩ = some (.int .i64 n0) := cell_lit HJ5.out.lit rfl; have d9 : W5.cell? ⟨w.heap.size, 1, none⟩ = some (.int .i64 n1) := cell_lit HJ5.out.lit rfl; clear hb)
            )))
            | fail)
          all_goals go_wp2_with fail
          all_goals go_ret
          all_goals exact ⟨rfl, HJ5.out.below⟩
        · obtain ⟨g1, g2⟩ := hbg2.resolve_left hbe
          have g3 : bh.toList.isEmpty = false := by cases h : bh.toList.isEmpty; rfl; exact absurd (List.isEmpty_iff.1 h) hbe
          clear hbe
          go_wp2_with fail
          refine (BH.out _).mono ?_
          rintro e w2 ⟨rfl, hb⟩
          have J2 := Lib.hid (J1.out.step hb)
          have HJ0 := Lib.hid (J2.out.drew)
          have c0 : w2.cell? ⟨w.heap.size, 0, none⟩ = some (.int .i64 n0) := cell_lit J2.out.lit rfl
          have c1 : w2.cell? ⟨w.heap.size, 1, none⟩ = some (.int .i64 n1) := cell_lit J2.out.lit rfl
          clear hb
          go_wp2_with fail
          go_region_held3 (fun w' => w'.cell? ⟨w.heap.size, 0, none⟩ = some (.int .i64 n0) ∧ w'.cell? ⟨w.heap.size, 1, none⟩ = some (.int .i64 n1)) (go_keep) ((first
            | (go_at_call 29; refine (U1.out _ HJ0.out).mono ?_; rintro e W1 ⟨rfl, hb⟩; have HJ1 := Lib.hid (HJ0.out.step hb); have d0 : W1.cell? ⟨w.heap.size, 0, none⟩ = some (.int .i64 n0) := cell_lit HJ1.out.lit rfl; have d1 : W1.cell? ⟨w.heap.size, 1, none⟩ = some (.int .i64 n1) := cell_lit HJ1.out.lit rfl; clear hb)
            | (go_at_call 32; refine (U2.out _ HJ1.out).mono ?_; rintro e W2 ⟨rfl, hb⟩; have HJ2 := Lib.hid (HJ1.out.step hb); have d2 : W2.cell? ⟨w.heap.size, 0, none⟩ = some (.int .i64 n0) := cell_lit HJ2.out.lit rfl; have d3 : W2.cell? ⟨w.heap.size, 1, none⟩ = some (.int .i64 n1) := cell_lit HJ2.out.lit rfl; clear hb)
            | (go_at_call 33; refine (P1.out _).mono ?_; rintro e W3 ⟨rfl, hb⟩; have HJ3 := Lib.hid (HJ2.out.step hb); have d4 : W3.cell? ⟨w.heap.size, 0, none⟩ = some (.int .i64 n0) := cell_lit HJ3.out.lit rfl; have d5 : W3.cell? ⟨w.heap.size, 1, none⟩ = some (.int .i64 n1) := cell_lit HJ3.out.lit rfl; clear hb)
            | (go_at_call 34; refine (P2.out _).mono ?_; rintro e W4 ⟨rfl, hb⟩; have HJ4 := Lib.hid (HJ3.out.step hb); have d6 : W4.cell? ⟨w.heap.size, 0, none⟩ = some (.int .i64 n0) := cell_lit HJ4.out.lit rfl; have d7 : W4.cell? ⟨w.heap.size, 1, none⟩ = some (.int .i64 n1) := cell_lit HJ4.out.lit rfl; clear hb)
            | (go_at_call 35; refine (RBH.out _).mono ?_; rintro e W5 ⟨rfl, hb⟩; have HJ5 := Lib.hid (HJ4.out.step hb); have d8 : W5.cell? ⟨w.heap.size, 0, none⟩ = some (.int .i64 n0) := cell_lit HJ5.out.lit rfl; have d9 : W5.cell? ⟨w.heap.size, 1, none⟩ = some (.int .i64 n1) := cell_lit HJ5.out.lit rfl; clear hb)
            ))
          go_wp2_with fail
          go_ret
          exact ⟨rfl, HJ5.out.below⟩
theorem NameParts_w (v0 v1 v2 : Value) (w : World) (g0 : Reads w 5 v0) (g1 : Reads w 51 v1) (g2 : Reads w 52 v2) : Calls Tryd.prog 9 #[v0, v1, v2] w fun e w' => e = .returned (.bool true) ∧ Below w.heap.size w w' := by
  obtain ⟨c, rfl, hc⟩ := reads_int Tryd.underlying5 g0
  have hc := bounds_u8 hc
  obtain ⟨ps, hp, -⟩ := reads_strings Tryd.underlying51 (by kernel_rfl) Tryd.underlying9 g1
  obtain ⟨n0, n1, rfl, -, -⟩ := reads_twoI g2
  have e : c = ((UInt8.ofNat c.toNat).toNat : Int) := by rw [UInt8.toNat_ofNat']; omega
  rw [e]
  exact NameParts_c _ v1 ps n0 n1 w (strs_of_slice hp)
end Go.Proofs.YtoblhikablbapaaDoor
