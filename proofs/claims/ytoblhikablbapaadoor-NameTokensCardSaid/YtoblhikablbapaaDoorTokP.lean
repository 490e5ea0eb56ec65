/- Tokens: plain laws. -/
import Derived.Test.YtoblhikablbapaaDoorTokA
namespace Go.Proofs.YtoblhikablbapaaDoor
set_option linter.unusedVariables false
set_option maxRecDepth 100000
def hexC (n : Nat) : UInt8 := if n ≤ 9 then UInt8.ofNat (48 + n) else UInt8.ofNat (87 + n)
def hex2 (c : UInt8) : List UInt8 := [hexC (c.toNat / 16), hexC (c.toNat % 16)]
def hexL (l : List UInt8) : List UInt8 := l.flatMap hex2
def valC (c : UInt8) : Option Nat := if 48 ≤ c.toNat ∧ c.toNat ≤ 57 then some (c.toNat - 48) else if 97 ≤ c.toNat ∧ c.toNat ≤ 102 then some (c.toNat - 87) else none
def raw2 (a b : UInt8) : Option UInt8 := match valC a, valC b with
  | some x, some y => some (UInt8.ofNat (16 * x + y))
  | _, _ => none
def rawL : List UInt8 → Option (List UInt8)
  | [] => some []
  | [_] => none
  | a :: b :: r => match raw2 a b with
    | some c => (rawL r).map (c :: ·)
    | none => none
theorem raw_split : ∀ (a r p : List UInt8), rawL a = some p → rawL (a ++ r) = (rawL r).map (p ++ ·)
  | [], r, p, h => by
    simp only [rawL, Option.some.injEq] at h
    subst h
    simp
  | [x], r, p, h => by simp [rawL] at h
  | x :: y :: t, r, p, h => by
    simp only [rawL] at h
    cases hc : raw2 x y with
    | none => rw [hc] at h; cases h
    | some c =>
      rw [hc] at h
      obtain ⟨q, hq, rfl⟩ := Option.map_eq_some_iff.1 h
      show rawL (x :: y :: (t ++ r)) = _
      simp only [rawL, hc, raw_split t r q hq, Option.map_map]
      rfl
theorem raw_even : ∀ (l p : List UInt8), rawL l = some p → l.length = 2 * p.length
  | [], p, h => by simp only [rawL, Option.some.injEq] at h; subst h; rfl
  | [x], p, h => by simp [rawL] at h
  | x :: y :: t, p, h => by
    simp only [rawL] at h
    cases hc : raw2 x y with
    | none => rw [hc] at h; cases h
    | some c =>
      rw [hc] at h
      obtain ⟨q, hq, rfl⟩ := Option.map_eq_some_iff.1 h
      have := raw_even t q hq
      simp only [List.length_cons]; omega
theorem val_hex : ∀ n : Nat, n < 16 → valC (hexC n) = some n := by decide +kernel
theorem val_all : ∀ n : Fin 256, ∀ x : Fin 16, valC (UInt8.ofNat n.val) = some x.val → hexC x.val = UInt8.ofNat n.val := by decide +kernel
theorem val_lt {c : UInt8} {x : Nat} (h : valC c = some x) : x < 16 := by
  unfold valC at h
  split at h
  · cases h; omega
  · split at h
    · cases h; omega
    · cases h
theorem hex_val {c : UInt8} {x : Nat} (h : valC c = some x) : hexC x = c := by
  have h1 := val_lt h
  have e : UInt8.ofNat c.toNat = c := by simp
  have := val_all ⟨c.toNat, c.toNat_lt⟩ ⟨x, h1⟩ (by rw [e]; exact h)
  rw [e] at this; exact this
theorem raw_hex2 (c : UInt8) : raw2 (hexC (c.toNat / 16)) (hexC (c.toNat % 16)) = some c := by
  have hc := c.toNat_lt
  unfold raw2
  rw [val_hex _ (by omega), val_hex _ (by omega)]
  show some (UInt8.ofNat (16 * (c.toNat / 16) + c.toNat % 16)) = some c
  rw [show 16 * (c.toNat / 16) + c.toNat % 16 = c.toNat by omega]; simp
theorem raw_hex : ∀ l : List UInt8, rawL (hexL l) = some l
  | [] => rfl
  | c :: l => by
    show rawL (hexC (c.toNat / 16) :: hexC (c.toNat % 16) :: hexL l) = _
    simp only [rawL, raw_hex2, raw_hex l, Option.map_some]
theorem hex2_raw {a b c : UInt8} (h : raw2 a b = some c) : hex2 c = [a, b] := by
  unfold raw2 at h
  split at h
  · rename_i x y hx hy
    cases h
    have lx := val_lt hx
    have ly := val_lt hy
    have e : (UInt8.ofNat (16 * x + y)).toNat = 16 * x + y := by rw [UInt8.toNat_ofNat']; omega
    unfold hex2
    rw [e, show (16 * x + y) / 16 = x by omega, show (16 * x + y) % 16 = y by omega, hex_val hx, hex_val hy]
  · cases h
theorem hex_raw : ∀ (t p : List UInt8), rawL t = some p → hexL p = t
  | [], p, h => by simp only [rawL, Option.some.injEq] at h; subst h; rfl
  | [x], p, h => by simp [rawL] at h
  | x :: y :: t, p, h => by
    simp only [rawL] at h
    cases hc : raw2 x y with
    | none => rw [hc] at h; cases h
    | some c =>
      rw [hc] at h
      obtain ⟨q, hq, rfl⟩ := Option.map_eq_some_iff.1 h
      show hex2 c ++ hexL q = _
      rw [hex2_raw hc, hex_raw t q hq]; rfl
theorem hex_length : ∀ l : List UInt8, (hexL l).length = 2 * l.length
  | [] => rfl
  | c :: l => by
    show (hex2 c ++ hexL l).length = _
    rw [List.length_append, hex_length l]
    show 2 + 2 * l.length = 2 * (l.length + 1); omega
theorem hex_append (a b : List UInt8) : hexL (a ++ b) = hexL a ++ hexL b := by simp [hexL]
def tokenL (l : List UInt8) : List UInt8 := hexL (be (4294967295 - crcL l) 4 ++ l)
def toldL (t : List UInt8) : Option (List UInt8) := match rawL t with
  | none => none
  | some s => if s.length < 4 ∨ tokenL (s.drop 4) ≠ t then none else some (s.drop 4)
theorem token_length (l : List UInt8) : (tokenL l).length = 8 + 2 * l.length := by
  unfold tokenL; rw [hex_length, List.length_append, be_length]; omega
theorem told_token (l : List UInt8) : toldL (tokenL l) = some l := by
  unfold toldL
  have e : rawL (tokenL l) = some (be (4294967295 - crcL l) 4 ++ l) := raw_hex _
  have d : (be (4294967295 - crcL l) 4 ++ l).drop 4 = l := List.drop_left' (be_length ..)
  rw [e]
  simp only [d]
  rw [if_neg]
  simp [be_length]
theorem token_told {t v : List UInt8} (h : toldL t = some v) : tokenL v = t ∧ 2 * v.length + 8 = t.length := by
  unfold toldL at h
  cases hr : rawL t with
  | none => rw [hr] at h; cases h
  | some s =>
    rw [hr] at h
    simp only at h
    split at h
    · cases h
    · rename_i hn
      cases h
      have he := raw_even _ _ hr
      have h1 : tokenL (s.drop 4) = t := Classical.not_not.1 (fun e => hn (.inr e))
      exact ⟨h1, by rw [← h1, token_length]; omega⟩
end Go.Proofs.YtoblhikablbapaaDoor
