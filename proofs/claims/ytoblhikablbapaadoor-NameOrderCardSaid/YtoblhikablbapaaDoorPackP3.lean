/- Plain laws of the pack: falls and parts in order. -/
import Derived.Test.YtoblhikablbapaaDoorPackP2
namespace Go.Proofs.YtoblhikablbapaaDoor
set_option linter.unusedVariables false
theorem be_mod (n k : Nat) : ∀ w, w ≤ k → be (n % 256 ^ k) w = be n w := by
  intro w
  induction w with
  | zero => intro _; rfl
  | succ w ih =>
    intro hw
    show UInt8.ofNat ((n % 256 ^ k) / 256 ^ w % 256) :: be (n % 256 ^ k) w = UInt8.ofNat (n / 256 ^ w % 256) :: be n w
    rw [ih (by omega)]
    have e : (256 : Nat) ^ k = 256 ^ w * 256 ^ (k - w) := by rw [← Nat.pow_add]; congr 1; omega
    have d : (256 : Nat) ∣ 256 ^ (k - w) := ⟨256 ^ (k - w - 1), by rw [← Nat.pow_succ']; congr 1; omega⟩
    rw [e, Nat.mod_mul_right_div_self, Nat.mod_mod_of_dvd _ d]
theorem less_byte {a b : Nat} (ha : a < 256) (hb : b < 256) : (decide (UInt8.ofNat a < UInt8.ofNat b)) = decide (a < b) ∧ (UInt8.ofNat a == UInt8.ofNat b) = decide (a = b) := by
  have e1 : (UInt8.ofNat a).toNat = a := by rw [UInt8.toNat_ofNat']; omega
  have e2 : (UInt8.ofNat b).toNat = b := by rw [UInt8.toNat_ofNat']; omega
  constructor
  · rw [decide_eq_decide, UInt8.lt_iff_toNat_lt, e1, e2]
  · rw [Bool.eq_iff_iff]
    simp only [beq_iff_eq, decide_eq_true_eq]
    constructor
    · intro h; rw [← e1, h, e2]
    · intro h; rw [h]
theorem bytesLess_be : ∀ w n m, n < 256 ^ w → m < 256 ^ w → Op.bytesLess (be n w) (be m w) = decide (n < m) := by
  intro w
  induction w with
  | zero => intro n m hn hm; simp at hn hm; subst hn hm; rfl
  | succ w ih =>
    intro n m hn hm
    have hp : 0 < 256 ^ w := Nat.pow_pos (by decide)
    rw [Nat.pow_succ] at hn hm
    have hn' : n / 256 ^ w < 256 := Nat.div_lt_of_lt_mul hn
    have hm' : m / 256 ^ w < 256 := Nat.div_lt_of_lt_mul hm
    show (decide (UInt8.ofNat (n / 256 ^ w % 256) < UInt8.ofNat (m / 256 ^ w % 256)) || (UInt8.ofNat (n / 256 ^ w % 256) == UInt8.ofNat (m / 256 ^ w % 256) && Op.bytesLess (be n w) (be m w))) = _
    rw [Nat.mod_eq_of_lt hn', Nat.mod_eq_of_lt hm', (less_byte hn' hm').1, (less_byte hn' hm').2]
    have i := ih (n % 256 ^ w) (m % 256 ^ w) (Nat.mod_lt _ hp) (Nat.mod_lt _ hp)
    rw [be_mod _ _ _ (Nat.le_refl _), be_mod _ _ _ (Nat.le_refl _)] at i
    rw [i]
    have dn := Nat.div_add_mod n (256 ^ w)
    have dm := Nat.div_add_mod m (256 ^ w)
    have mn := Nat.mod_lt n hp
    have mm := Nat.mod_lt m hp
    generalize 256 ^ w = p at *
    generalize n / p = x at *
    generalize m / p = y at *
    generalize n % p = u at *
    generalize m % p = v at *
    rcases Nat.lt_trichotomy x y with h | h | h
    · have : p * (x + 1) ≤ p * y := Nat.mul_le_mul_left p h
      rw [Nat.mul_add] at this
      simp [h]; omega
    · subst h
      simp; omega
    · have : p * (y + 1) ≤ p * x := Nat.mul_le_mul_left p h
      rw [Nat.mul_add] at this
      have h1 : ¬ x < y := by omega
      have h2 : ¬ x = y := by omega
      simp [h1, h2]; omega
theorem p256 : (256 : Nat) ^ 8 = 18446744073709551616 := by decide
theorem falls_less {a b : Nat} (ha : a < 18446744073709551616) (hb : b < 18446744073709551616) : Op.bytesLess (fallsL a) (fallsL b) = decide (b < a) := by
  unfold fallsL
  rw [bytesLess_be 8 _ _ (by rw [p256]; omega) (by rw [p256]; omega), decide_eq_decide]
  omega
theorem falls_length (a : Nat) : (fallsL a).length = 8 := by unfold fallsL; rw [be_length]
theorem fell_falls {a : Nat} (ha : a < 18446744073709551616) : fellN ⟨(fallsL a).toArray⟩ = a := by
  show 18446744073709551615 - toldN 0 (be (18446744073709551615 - a) 8) = a
  rw [told_of_be 8 _ (by decide) (by rw [p256]; omega)]
  omega
theorem falls_fell {s : ByteArray} (h : s.size = 8) : fallsL (fellN s) = s.data.toList ∧ fellN s < 18446744073709551616 := by
  obtain ⟨t1, t2⟩ := told_be 8 s.data.toList (by rw [← Lib.size_eq]; exact h) (by decide)
  rw [p256] at t2
  constructor
  · show be (18446744073709551615 - (18446744073709551615 - toldN 0 s.data.toList)) 8 = _
    rw [show 18446744073709551615 - (18446744073709551615 - toldN 0 s.data.toList) = toldN 0 s.data.toList by omega, t1]
  · unfold fellN; omega
/-! Parts. -/
theorem cutL_part {a : List UInt8} (h : cutL a = none) (r : List UInt8) : cutL (a ++ 0 :: r) = some (a, r) := by
  induction a with
  | nil => simp [cutL]
  | cons c a ih =>
    unfold cutL at h
    split at h
    · cases h
    · rename_i hc
      have h : cutL a = none := by simpa using h
      show (if c = 0 then some ([], a ++ 0 :: r) else (cutL (a ++ 0 :: r)).map fun p => (c :: p.1, p.2)) = _
      rw [if_neg hc, ih h]; rfl
theorem cutL_none_cons {c : UInt8} {a : List UInt8} (h : cutL (c :: a) = none) : c ≠ 0 ∧ cutL a = none := by
  unfold cutL at h
  split at h
  · cases h
  · rename_i hc
    exact ⟨hc, by simpa using h⟩
theorem less_part : ∀ (a b r q : List UInt8), cutL a = none → cutL b = none → a ≠ b → Op.bytesLess (a ++ 0 :: r) (b ++ 0 :: q) = Op.bytesLess a b := by
  intro a
  induction a with
  | nil =>
    intro b r q _ hb hne
    cases b with
    | nil => exact absurd rfl hne
    | cons d b =>
      obtain ⟨hd, _⟩ := cutL_none_cons hb
      have : (0 : UInt8) < d := by rw [UInt8.lt_iff_toNat_lt]; have : d.toNat ≠ 0 := fun h => hd (UInt8.toNat_inj.1 h); show 0 < d.toNat; omega
      show (decide ((0 : UInt8) < d) || _) = _
      simp [this, Op.bytesLess]
  | cons c a ih =>
    intro b r q ha hb hne
    obtain ⟨hc, ha'⟩ := cutL_none_cons ha
    cases b with
    | nil =>
      have h1 : ¬ c < (0 : UInt8) := by rw [UInt8.lt_iff_toNat_lt]; show ¬ c.toNat < 0; omega
      show (decide (c < 0) || (c == 0 && _)) = false
      simp [h1, hc]
    | cons d b =>
      obtain ⟨hd, hb'⟩ := cutL_none_cons hb
      show (decide (c < d) || (c == d && Op.bytesLess (a ++ 0 :: r) (b ++ 0 :: q))) = (decide (c < d) || (c == d && Op.bytesLess a b))
      by_cases e : c = d
      · subst e
        rw [ih b r q ha' hb' (fun h => hne (by rw [h]))]
      · rw [show (c == d) = false by simpa using e]; simp only [Bool.false_and]
theorem cutVal_form (l : List UInt8) : ∃ a b : ByteArray, ∃ z : Bool, cutVal l = .tuple #[.string a, .string b, .bool z] ∧ (z = (cutL l).isSome) := by
  unfold cutVal
  cases cutL l with
  | none => exact ⟨_, _, _, rfl, rfl⟩
  | some p => exact ⟨_, _, _, rfl, rfl⟩
end Go.Proofs.YtoblhikablbapaaDoor
