/- pack, in plain Lean: kinds. -/
import Derived.Lib.SlTrimSet
import Derived.Lib.Strings
namespace Go.Proofs.YtoblhikablbapaaDoor
set_option linter.unusedVariables false
def kindB (c : UInt8) : Bool := c == 110 || c == 104 || c == 98 || c == 116
/-- Are letters kinds? -/
def rightL : List UInt8 → Bool
  | [] => true
  | [c] => kindB c || c == 114
  | c :: d :: r => kindB c && rightL (d :: r)
theorem rightL_cons {c : UInt8} {r : List UInt8} (h : r ≠ []) : rightL (c :: r) = (kindB c && rightL r) := by
  cases r with
  | nil => exact absurd rfl h
  | cons d r => rfl
theorem rightL_snoc (m : List UInt8) (c : UInt8) : rightL (m ++ [c]) = (m.all kindB && (kindB c || c == 114)) := by
  induction m with
  | nil => simp [rightL]
  | cons a m ih =>
    rw [List.cons_append, rightL_cons (by simp), ih, List.all_cons, Bool.and_assoc]
theorem dropWhile_nil {α : Type} (p : α → Bool) (l : List α) : l.dropWhile p = [] ↔ ∀ x ∈ l, p x = true := by
  induction l with
  | nil => simp
  | cons a l ih =>
    by_cases h : p a = true
    · simp [h, ih]
    · simp [h]
theorem trimS_nil (l cs : List UInt8) : Lib.trimS l cs = [] ↔ ∀ x ∈ l, cs.contains x = true := by
  unfold Lib.trimS Lib.trimLeftS Lib.trimRightS
  rw [dropWhile_nil]
  constructor
  · intro h x hx
    have h1 : x ∈ l.reverse := by simpa using hx
    rw [← List.takeWhile_append_dropWhile (p := (cs.contains ·)) (l := l.reverse)] at h1
    rcases List.mem_append.1 h1 with h2 | h2
    · have h4 : ∀ (q : UInt8 → Bool) (m : List UInt8), ∀ y ∈ m.takeWhile q, q y = true := by
        intro q m
        induction m with
        | nil => simp
        | cons a m ih =>
          intro y hy
          rw [List.takeWhile_cons] at hy
          split at hy
          · rcases List.mem_cons.1 hy with rfl | hy
            · assumption
            · exact ih y hy
          · simp at hy
      exact h4 _ _ x h2
    · exact h x (by simpa using h2)
  · intro h x hx
    exact h x (by have := List.dropWhile_sublist (cs.contains ·) (l := l.reverse); exact List.mem_reverse.1 (this.subset (by simpa using hx)))
theorem contains_kind (x : UInt8) : [(110 : UInt8), 104, 98, 116].contains x = kindB x := by
  simp only [List.contains_cons, List.contains_nil, Bool.or_false, kindB, Bool.or_assoc]
theorem right_trim (l : List UInt8) : (Lib.trimS (Lib.trimSuffix l [114]) [110, 104, 98, 116] = []) ↔ rightL l = true := by
  rw [trimS_nil]
  simp only [contains_kind]
  have hall : ∀ m : List UInt8, (∀ x ∈ m, kindB x = true) ↔ m.all kindB = true := fun m => by simp [List.all_eq_true]
  rw [hall]
  rcases List.eq_nil_or_concat l with rfl | ⟨m, c, rfl⟩
  · simp [Lib.trimSuffix, Lib.hasSuffix, rightL]
  · simp only [List.concat_eq_append]
    rw [rightL_snoc]
    by_cases hc : c = 114
    · subst hc
      have h1 : Lib.trimSuffix (m ++ [114]) [114] = m := by
        simp [Lib.trimSuffix, Lib.hasSuffix, List.isSuffixOf]
      rw [h1]; simp
    · have h1 : Lib.trimSuffix (m ++ [c]) [114] = m ++ [c] := by
        simp [Lib.trimSuffix, Lib.hasSuffix, List.isSuffixOf, Ne.symm hc]
      rw [h1, List.all_append]
      simp [hc]
theorem right_trim' (l : List UInt8) : (Lib.trimS (Lib.trimSuffix l [114]) [110, 104, 98, 116]).isEmpty = rightL l := by
  rw [Bool.eq_iff_iff, List.isEmpty_iff]; exact right_trim l
end Go.Proofs.YtoblhikablbapaaDoor
