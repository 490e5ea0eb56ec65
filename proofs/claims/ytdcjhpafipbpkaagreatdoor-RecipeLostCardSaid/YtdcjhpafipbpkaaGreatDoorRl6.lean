/- Parts of the proof of RecipeLost, joined: RfsI, RcpS, RcpT, RcpU, RcpX, RcpY, RcpN, RcpO, RcpP, RcpZ, BldA, BldP, BldB. No condition. -/
import Derived.Test.YtdcjhpafipbpkaaGreatDoorRl5
import Derived.Deep.RegionHeld3
set_option linter.unusedSimpArgs false
set_option linter.unusedVariables false
set_option linter.unusedSectionVars false
namespace Go.Proofs.YtdcjhpafipbpkaaGreatDoor
set_option maxRecDepth 100000
set_option maxHeartbeats 4000000
open Go.RowKit
section
variable (w1 w w0 : World) (K : Nat → Prop) (sb rb ti tl n N a nx : Nat) (C : List Ck) (L : List Lg) (X : List (Nat × ByteArray))
end
theorem RefEnds_c (size frm n : Int) (w : World) (h : 0 ≤ size ∧ size ≤ 1000000) (h1 : -9223372036854775808 ≤ frm ∧ frm < 9223372036854775808) (h2 : -9223372036854775808 ≤ n ∧ n < 9223372036854775808) :
    Calls Tryz.prog 34 #[.int .i64 size, .int .i64 frm, .int .i64 n] w fun e w' => e = .returned (.tuple #[.int .i64 (endsL size frm n).1, .int .i64 (endsL size frm n).2]) ∧ Below w.heap.size w w' := by
  by_cases c1 : n < 1
  · have d1 : decide (n < 1) = true := decide_eq_true c1
    have HE := Lib.hid (show endsL size frm n = (0, 0) by unfold endsL; rw [if_pos (.inl c1)])
    clear c1 h h1 h2
    go_enter Tryz.func34, Tryz.ntmps34
    go_wp2_with fail
    go_ret2
    exact ⟨by rw [HE.out]; rfl, Below.refl _ _⟩
  have d1 : decide (n < 1) = false := decide_eq_false c1
  by_cases c2 : size ≤ frm
  · have d2 : decide (frm ≥ size) = true := decide_eq_true c2
    have HE := Lib.hid (show endsL size frm n = (0, 0) by unfold endsL; rw [if_pos (.inr c2)])
    clear c1 c2 h h1 h2
    go_enter Tryz.func34, Tryz.ntmps34
    go_wp2_with fail
    go_ret2
    exact ⟨by rw [HE.out]; rfl, Below.refl _ _⟩
  have d2 : decide (frm ≥ size) = false := decide_eq_false c2
  have hE0 : endsL size frm n = (max frm 0, max (if frm < 0 ∨ n < size - frm then min (frm + n) size else size) (max frm 0)) := by unfold endsL; rw [if_neg (fun h => h.elim c1 c2)]
  by_cases c3 : frm < 0
  · have d3 : decide (frm < 0) = true := decide_eq_true c3
    have HE := Lib.hid (show endsL size frm n = (max frm 0, max (min (frm + n) size) (max frm 0)) by rw [hE0, if_pos (.inl c3)])
    have e1 : wrap64 (frm + n) = frm + n := by unfold wrap64; omega
    clear c1 c2 c3 hE0 h h1 h2
    go_enter Tryz.func34, Tryz.ntmps34
    go_wp2_with fail
    go_ret2
    exact ⟨by rw [HE.out]; rfl, Below.refl _ _⟩
  have d3 : decide (frm < 0) = false := decide_eq_false c3
  have e0 : wrap64 (size - frm) = size - frm := by unfold wrap64; omega
  by_cases c4 : n < size - frm
  · have d4 : decide (n < size - frm) = true := decide_eq_true c4
    have HE := Lib.hid (show endsL size frm n = (max frm 0, max (min (frm + n) size) (max frm 0)) by rw [hE0, if_pos (.inr c4)])
    have e1 : wrap64 (frm + n) = frm + n := by unfold wrap64; omega
    clear c1 c2 c3 c4 hE0 h h1 h2
    go_enter Tryz.func34, Tryz.ntmps34
    go_wp2_with fail
    go_ret2
    exact ⟨by rw [HE.out]; rfl, Below.refl _ _⟩
  · have d4 : decide (n < size - frm) = false := decide_eq_false c4
    have HE := Lib.hid (show endsL size frm n = (max frm 0, max size (max frm 0)) by rw [hE0, if_neg (fun h => h.elim c3 c4)])
    clear c1 c2 c3 c4 hE0 h h1 h2
    go_enter Tryz.func34, Tryz.ntmps34
    go_wp2_with fail
    go_ret2
    exact ⟨by rw [HE.out]; rfl, Below.refl _ _⟩
set_option maxHeartbeats 1000000
set_option maxHeartbeats 4000000
theorem SameR_t (a b : Value) (l : List Rf) (w : World) (ha : RefsAt w a l) (hb : RefsAt w b l) :
    Calls Tryz.prog 26 #[a, b] w fun e w' => e = .returned (.bool true) ∧ Below w.heap.size w w' := by
  have HA := Lib.hid ha
  have HB := Lib.hid hb
  have HLN := Lib.hid ha.len
  obtain ⟨x, cx, rfl⟩ := ha.form
  obtain ⟨y, cy, rfl⟩ := hb.form
  clear ha hb
  go_enter Tryz.func26, Tryz.ntmps26
  go_wp2_with fail
  go_loopg [14] l.length (fun g s5 wr => ∃ k : Nat, g = l.length - k ∧ k ≤ l.length ∧ s5 = .int .i64 (k : Int) ∧ Hid (Below w.heap.size w wr))
  case atStart => exact ⟨0, by omega, Nat.zero_le _, rfl, Lib.hid (Below.refl _ _)⟩
  case round =>
    obtain ⟨k, rfl, hk, rfl, HW⟩ := hrel
    by_cases hlt : k < l.length
    · obtain ⟨b1, o1, rfl, c1, c2, hb1⟩ := ((HA.out).below HW.out).get k hlt
      obtain ⟨b2, o2, rfl, d1, d2, hb2⟩ := ((HB.out).below HW.out).get k hlt
      have HWR := Lib.hid (wrap_up hlt HLN.out)
      generalize l[k] = f at *
      obtain ⟨n, S⟩ := f
      simp only at c1 c2 d1 d2
      have HW2 : Hid (∀ o, Below w.heap.size w (wr.alloc o).drew) := Lib.hid fun o => (HW.out.alloc HW.out.size o).drew
      clear HW
      go_wp2_with fail
      go_region
      go_wp2_with fail
      go_roundg (l.length - (k + 1))
      case measure => omega
      case rel => exact ⟨k + 1, rfl, by omega, congrArg (Value.int .i64) HWR.out, Lib.hid (HW2.out _)⟩
    · obtain rfl : k = l.length := by omega
      go_wp2_with fail
      go_ret
      exact ⟨rfl, HW.out⟩
theorem cutS_big (r : List UInt8) : ∀ p ∈ (cutS r).1, 16 ≤ p.length := by
  refine snoc_cut (P := fun r => ∀ p ∈ (cutS r).1, 16 ≤ p.length) (fun p hp => by simp [cutS] at hp) (fun r c ih => ?_) r
  by_cases h : endL ((cutS r).2 ++ [c]) = true
  · rw [cutS_yes h]
    intro p hp
    simp only [List.mem_append, List.mem_singleton] at hp
    rcases hp with hp | rfl
    · exact ih p hp
    · unfold endL at h
      simp only [Bool.or_eq_true, Bool.and_eq_true, decide_eq_true_eq] at h
      omega
  · rw [cutS_no h]; exact ih
theorem parts16_len : ∀ {L : List (List UInt8)}, (∀ p ∈ L, 16 ≤ p.length) → 16 * L.length ≤ L.flatten.length
  | [], _ => by simp
  | p :: L, h => by
    have h1 := parts16_len (L := L) fun q hq => h q (by simp [hq])
    have h2 := h p (by simp)
    rw [List.flatten_cons, List.length_append, List.length_cons]; omega
theorem cutT_len (s : List UInt8) : 16 * (cutT s).length ≤ s.length + 16 := by
  have h1 := parts16_len (cutS_big s)
  have h2 := (cutS_parts s).2
  have h3 : (cutS s).1.flatten.length + (cutS s).2.length = s.length := by rw [← List.length_append, h2]
  have h4 : (cutT s).length ≤ (cutS s).1.length + 1 := by
    unfold cutT
    rw [List.length_append]
    split <;> simp
  omega
theorem RcX.to_reset {w1 w0 w : World} {K : Nat → Prop} {sb rb ti tl n N m : Nat} {C : List Ck} {L : List Lg} {X : List (Nat × ByteArray)} (h : RcX w1 w0 w K sb rb ti tl n N m C L X) : RcX w1 w w K sb rb ti tl n N m C L X := h.map fun a g => g.reset
theorem StR.keepW {w w' : World} {K : Nat → Prop} {v : Value} {C : List RCk} {L : List REn} (h : StR w v C L) (hl : StLoc K v) (hk : Kept K w w') (hs : ∀ k, K k → k < w'.heap.size) : StR w' v C L := by
  obtain ⟨va, vl, rfl, h1, h2⟩ := h
  obtain ⟨va', vl', e, g1, g2⟩ := hl
  cases e
  have : ∀ {v : Value} {n sz : Nat} {xs : List Value}, RdRow w v n sz xs → (∀ g, v.ownBlock = some g → K g) → RdRow w' v n sz xs := fun h hg => by
    obtain ⟨a, c, rfl, h1, h2, h3, h4⟩ := h
    refine ⟨_, _, rfl, h1, h2, h3, fun ad e => ?_⟩
    obtain ⟨b, off, e1, h5, h6⟩ := h4 ad e
    subst e e1
    have hb := hg b rfl
    refine ⟨b, off, rfl, hs b hb, fun j u hu => ?_⟩
    rw [← h6 j u hu]
    simp only [World.cell?, hk b hb]
  exact ⟨va, vl, rfl, this h1 g1, this h2 g2⟩
theorem putR_len (C : List RCk) (t : ByteArray) : (putR C t).1.length ≤ C.length + 1 := by
  unfold putR
  split
  · exact Nat.le_succ _
  · split
    · exact Nat.le_succ _
    · split
      · show (insR C _).length ≤ C.length + 1
        rw [ins_len]; exact Nat.le_refl _
      · exact Nat.le_succ _
theorem bldR_clen (C : List RCk) (L : List REn) (ps : List ByteArray) : (bldR C L ps).1.length ≤ C.length + ps.length := by
  have : ∀ (ps : List ByteArray) (s : List RCk × List REn × List Rf), (ps.foldl stepR s).1.length ≤ s.1.length + ps.length := by
    intro ps
    induction ps with
    | nil => intro s; simp
    | cons p ps ih =>
      intro s
      rw [List.foldl_cons]
      have h1 := ih (stepR s p)
      have h2 : (stepR s p).1.length ≤ s.1.length + 1 := putR_len s.1 p
      rw [List.length_cons]; omega
  exact this ps (C, L, [])
theorem pages3 : 24 * 1000 ≤ pagesN 30000 := by decide
end Go.Proofs.YtdcjhpafipbpkaaGreatDoor
