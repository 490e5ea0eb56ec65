/- NameOrder: plain laws, and the key of a version for names of any size. -/
import Derived.Test.YtoblhikablbapaaDoorNameKeys
import Derived.Test.YtoblhikablbapaaDoorPackP3
namespace Go.Proofs.YtoblhikablbapaaDoor
set_option linter.unusedVariables false
set_option maxRecDepth 100000
open Go.RowKit
theorem less_nil (a : List UInt8) : Op.bytesLess a [] = false := by cases a <;> rfl
theorem less_cat (p a b : List UInt8) : Op.bytesLess (p ++ a) (p ++ b) = Op.bytesLess a b := by
  induction p with
  | nil => rfl
  | cons c p ih =>
    show (decide (c < c) || (c == c && Op.bytesLess (p ++ a) (p ++ b))) = _
    rw [ih]; simp
theorem less_self (a : List UInt8) : Op.bytesLess a a = false := by
  have := less_cat a [] []
  rw [List.append_nil] at this; rw [this]; rfl
theorem lt_one : ∀ (a b r : List UInt8), cutL a = none → a ≠ b → Op.bytesLess a b = false → Op.bytesLess (a ++ 0 :: r) (b ++ [1]) = false := by
  intro a
  induction a with
  | nil =>
    intro b r _ hne hl
    cases b with
    | nil => exact absurd rfl hne
    | cons d b => cases hl
  | cons c a ih =>
    intro b r ha hne hl
    obtain ⟨hc, ha'⟩ := cutL_none_cons ha
    cases b with
    | nil =>
      have h1 : ¬ c < (1 : UInt8) := by
        rw [UInt8.lt_iff_toNat_lt]; intro h
        exact hc (UInt8.toNat_inj.1 (by show c.toNat = 0; have : (1 : UInt8).toNat = 1 := rfl; omega))
      show (decide (c < 1) || (c == 1 && Op.bytesLess (a ++ 0 :: r) [])) = false
      rw [less_nil]; simp [h1]
    | cons d b =>
      have hl' : (decide (c < d) || (c == d && Op.bytesLess a b)) = false := hl
      show (decide (c < d) || (c == d && Op.bytesLess (a ++ 0 :: r) (b ++ [1]))) = false
      by_cases e : c = d
      · subst e
        have h2 : Op.bytesLess a b = false := by simpa using hl'
        rw [ih b r ha' (fun h => hne (by rw [h])) h2]; simp
      · rw [show (c == d) = false by simpa using e] at hl' ⊢
        simpa using hl'
theorem within_part (a b r : List UInt8) (ha : cutL a = none) (hb : cutL b = none) : (!Op.bytesLess (a ++ 0 :: r) (b ++ [0]) && Op.bytesLess (a ++ 0 :: r) (b ++ [1])) = decide (a = b) := by
  by_cases e : a = b
  · subst e
    rw [less_cat, less_cat]
    have h1 : Op.bytesLess (0 :: r) [0] = false := by show (decide ((0 : UInt8) < 0) || ((0 : UInt8) == 0 && Op.bytesLess r [])) = false; rw [less_nil]; rfl
    have h2 : Op.bytesLess (0 :: r) [1] = true := rfl
    rw [h1, h2]; simp
  · have h0 := less_part a b r [] ha hb e
    rw [h0]
    rw [show decide (a = b) = false by simpa using e]
    cases h : Op.bytesLess a b
    · rw [lt_one a b r ha e h]; rfl
    · rfl
theorem behind_zero (l : List UInt8) : behindL (l ++ [0]) = l ++ [1] := by
  unfold behindL
  rw [List.reverse_append]
  show behindR (0 :: l.reverse) = _
  unfold behindR
  rw [if_neg (by decide), List.reverse_reverse]
  rfl
def keyL (b i : List UInt8) (n : Nat) : List UInt8 := (118 : UInt8) :: (b ++ 0 :: (i ++ 0 :: fallsL n))
theorem version_key {b i : List UInt8} (n : Nat) (h : bktB b = true ∧ itemB i = true) : versionKeyL b i n = keyL b i n := by
  unfold versionKeyL keyL
  rw [if_pos h, under_two h.1 h.2]
  simp
theorem item_cut {l : List UInt8} (h : itemB l = true) : cutL l = none := by
  simp only [itemB, Bool.and_eq_true] at h
  exact Option.isNone_iff_eq_none.1 h.2
theorem under_one {k : UInt8} {b : List UInt8} (hb : bktB b = true) : underL k [b] = k :: (b ++ [0]) := by
  unfold underL noZero
  rw [if_pos (by simp [bkt_noZero hb])]
  simp [partsL]
def lessK (b i : List UInt8) (n : Nat) (c j : List UInt8) (m : Nat) : Bool := if b = c then (if i = j then decide (m < n) else Op.bytesLess i j) else Op.bytesLess b c
theorem less_cons (k : UInt8) (a b : List UInt8) : Op.bytesLess (k :: a) (k :: b) = Op.bytesLess a b := less_cat [k] a b
theorem key_less {b i c j : List UInt8} {n m : Nat} (hb : bktB b = true) (hi : itemB i = true) (hc : bktB c = true) (hj : itemB j = true) (hn : n < 18446744073709551616) (hm : m < 18446744073709551616) :
    Op.bytesLess (keyL b i n) (keyL c j m) = lessK b i n c j m := by
  unfold keyL lessK
  rw [less_cons]
  by_cases e : b = c
  · subst e
    rw [if_pos rfl, less_cat, less_cons]
    by_cases e2 : i = j
    · subst e2
      rw [if_pos rfl, less_cat, less_cons, falls_less hn hm]
    · rw [if_neg e2, less_part _ _ _ _ (item_cut hi) (item_cut hj) e2]
  · rw [if_neg e, less_part _ _ _ _ (bkt_noZero hb) (bkt_noZero hc) e]
theorem part_inj : ∀ (a b r q : List UInt8), cutL a = none → cutL b = none → a ++ 0 :: r = b ++ 0 :: q → a = b ∧ r = q := by
  intro a b r q ha hb h
  have h1 := cutL_part ha r
  have h2 := cutL_part hb q
  rw [h, h2] at h1
  simp only [Option.some.injEq, Prod.mk.injEq] at h1
  exact ⟨h1.1.symm, h1.2.symm⟩
theorem falls_inj {n m : Nat} (hn : n < 18446744073709551616) (hm : m < 18446744073709551616) (h : fallsL n = fallsL m) : n = m := by
  rw [← fell_falls hn, h, fell_falls hm]
theorem key_eq {b i c j : List UInt8} {n m : Nat} (hb : bktB b = true) (hi : itemB i = true) (hc : bktB c = true) (hj : itemB j = true) (hn : n < 18446744073709551616) (hm : m < 18446744073709551616) :
    (keyL b i n == keyL c j m) = decide (b = c ∧ i = j ∧ n = m) := by
  rw [Bool.eq_iff_iff]
  simp only [beq_iff_eq, decide_eq_true_eq]
  constructor
  · intro h
    unfold keyL at h
    obtain ⟨-, h⟩ := List.cons.inj h
    obtain ⟨e1, h⟩ := part_inj _ _ _ _ (bkt_noZero hb) (bkt_noZero hc) h
    obtain ⟨e2, h⟩ := part_inj _ _ _ _ (item_cut hi) (item_cut hj) h
    exact ⟨e1, e2, falls_inj hn hm h⟩
  · rintro ⟨rfl, rfl, rfl⟩; rfl
theorem within_u {b i c j : List UInt8} {m : Nat} (hb : bktB b = true) (hc : bktB c = true) :
    (!Op.bytesLess (keyL c j m) (underL 118 [b]) && Op.bytesLess (keyL c j m) (behindL (underL 118 [b]))) = decide (c = b) := by
  rw [under_one hb, show (118 : UInt8) :: (b ++ [0]) = (118 :: b) ++ [0] from rfl, behind_zero]
  show (!Op.bytesLess (118 :: (c ++ 0 :: _)) (118 :: (b ++ [0])) && Op.bytesLess (118 :: (c ++ 0 :: _)) (118 :: (b ++ [1]))) = _
  rw [less_cons, less_cons, within_part _ _ _ (bkt_noZero hc) (bkt_noZero hb)]
theorem within_v {b i c j : List UInt8} {m : Nat} (hb : bktB b = true) (hi : itemB i = true) (hc : bktB c = true) (hj : itemB j = true) :
    (!Op.bytesLess (keyL c j m) (underL 118 [b, i]) && Op.bytesLess (keyL c j m) (behindL (underL 118 [b, i]))) = (decide (c = b) && decide (j = i)) := by
  have e1 : underL 118 [b, i] = (118 :: (b ++ 0 :: i)) ++ [0] := by rw [under_two hb hi]; simp
  rw [e1, behind_zero]
  have e2 : ∀ x : UInt8, (118 :: (b ++ 0 :: i)) ++ [x] = 118 :: (b ++ 0 :: (i ++ [x])) := by intro x; simp
  rw [e2, e2]
  show (!Op.bytesLess (118 :: (c ++ 0 :: _)) (118 :: (b ++ 0 :: _)) && Op.bytesLess (118 :: (c ++ 0 :: _)) (118 :: (b ++ 0 :: _))) = _
  rw [less_cons, less_cons]
  by_cases e : c = b
  · subst e
    rw [less_cat, less_cat, less_cons, less_cons, within_part _ _ _ (item_cut hj) (item_cut hi)]; simp
  · rw [less_part _ _ _ _ (bkt_noZero hc) (bkt_noZero hb) e, less_part _ _ _ _ (bkt_noZero hc) (bkt_noZero hb) e]
    simp [e]
theorem Bucket_any (s : ByteArray) (w : World) :
    Calls Tryd.prog 36 #[.string s] w fun e w' => e = .returned (.bool (bktB s.data.toList)) ∧ Below w.heap.size w w' := by
  by_cases h : s.size ≤ 1000000000
  · exact Bucket_c s w h
  · have hl := Lib.size_eq s
    have h1 : ¬ s.size < 3 := by omega
    have h2 : 16 < s.size := by omega
    have HE := Lib.hid (show bktB s.data.toList = false by unfold bktB; rw [← hl]; simp; omega)
    clear hl h
    go_enter Tryd.func36, Tryd.ntmps36
    go_wp2_with fail
    go_ret
    exact ⟨ret_bool HE.out.symm, Below.refl _ _⟩
theorem VersionKey_any (s t : ByteArray) (n : Nat) (w : World) (hn : n < 18446744073709551616) :
    Calls Tryd.prog 28 #[.string s, .string t, .int .u64 n] w fun e w' => e = .returned (.string ⟨(versionKeyL s.data.toList t.data.toList n).toArray⟩) ∧ Below w.heap.size w w' := by
  by_cases hg : bktB s.data.toList = true ∧ itemB t.data.toList = true
  · have l1 := bkt_len hg.1
    have l2 := item_len hg.2
    rw [← Lib.size_eq] at l1 l2
    exact VersionKey_c s t n w (by omega) (by omega) hn
  have B1 := Bucket_any s w
  have HE := Lib.hid (show versionKeyL s.data.toList t.data.toList n = [] by unfold versionKeyL; rw [if_neg hg])
  cases hb : bktB s.data.toList
  · rw [hb] at B1
    clear hb hg
    go_enter Tryd.func28, Tryd.ntmps28
    go_wp2_with fail
    refine B1.mono ?_
    rintro e w1 ⟨rfl, hb⟩
    have Hb := Lib.hid hb
    clear hb B1
    go_wp2_with fail
    go_ret
    exact ⟨by rw [HE.out]; rfl, Hb.out⟩
  · rw [hb] at B1
    cases hi : itemB t.data.toList
    · have HI := Lib.hid hi
      clear hb hi hg
      go_enter Tryd.func28, Tryd.ntmps28
      go_wp2_with fail
      refine B1.mono ?_
      rintro e w1 ⟨rfl, hb⟩
      have Hb := Lib.hid hb
      have I1 := Item_c t w1
      rw [HI.out] at I1
      clear hb B1
      go_wp2_with fail
      refine I1.mono ?_
      rintro e w2 ⟨rfl, rfl⟩
      go_wp2_with fail
      go_ret
      exact ⟨by rw [HE.out]; rfl, Hb.out⟩
    · exact absurd ⟨hb, hi⟩ hg
end Go.Proofs.YtoblhikablbapaaDoor
