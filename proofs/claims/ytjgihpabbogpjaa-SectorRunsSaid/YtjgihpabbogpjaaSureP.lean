/- SectorSure in plain Lean: what a disk holds against two arrays of eight. -/
import Derived.Test.YtjgihpabbogpjaaApart
namespace Go.Proofs.Ytjgihpabbogpjaa
set_option linter.unusedVariables false
open Go.RowKit
def one (c : UInt8) : ByteArray := ⟨#[c]⟩
def pad0 : ByteArray := pad ByteArray.empty
theorem pad_zero : pad (one 0) = pad0 := by
  unfold pad0 pad one
  apply ByteArray.ext
  rfl
structure SureInv (i : Nat) (D : Dk) (F : Nat → UInt8) (S : Nat → List UInt8) : Prop where
  size : D.size = 8
  bound : D.bound = false
  down : D.down = false
  len : D.loose.length ≤ i
  l512 : ∀ p ∈ D.loose, p.2.size = 512
  loose : ∀ p ∈ D.loose, ∃ (k : Nat) (c : UInt8), k < 8 ∧ p.1 = (k : Int) ∧ p.2 = pad (one c) ∧ c ∈ S k
  now : ∀ k : Nat, k < 8 → look D.now (k : Int) = ((S k).getLast?).map (fun c => pad (one c))
  firm : ∀ k : Nat, k < 8 → (look D.firm (k : Int)).getD pad0 = pad (one (F k))
  sl : ∀ k : Nat, (S k).length ≤ i
def addS (S : Nat → List UInt8) (k : Nat) (c : UInt8) : Nat → List UInt8 := fun j => if j = k then S j ++ [c] else S j
def flF (F : Nat → UInt8) (S : Nat → List UInt8) : Nat → UInt8 := fun j => ((S j).getLast?).getD (F j)
theorem sure_start : SureInv 0 (dkNew 8) (fun _ => 0) (fun _ => []) :=
  ⟨rfl, rfl, rfl, Nat.le_refl _, by simp [dkNew], by simp [dkNew], fun k _ => rfl, fun k _ => by rw [pad_zero]; rfl, fun _ => Nat.le_refl _⟩
theorem SureInv.write {i : Nat} {D : Dk} {F : Nat → UInt8} {S : Nat → List UInt8} (h : SureInv i D F S) {k : Nat} (hk : k < 8) (c : UInt8) : SureInv (i + 1) (wD D (k : Int) (one c)) F (addS S k c) := by
  refine ⟨h.size, h.bound, h.down, by have := h.len; simp [wD]; omega, ?_, ?_, ?_, h.firm, ?_⟩
  · intro p hp
    rcases List.mem_append.1 hp with hp | hp
    · exact h.l512 p hp
    · rw [List.mem_singleton.1 hp]; exact pad_size (by show 1 ≤ 512; decide)
  · intro p hp
    rcases List.mem_append.1 hp with hp | hp
    · obtain ⟨j, d, h1, h2, h3, h4⟩ := h.loose p hp
      refine ⟨j, d, h1, h2, h3, ?_⟩
      unfold addS
      split
      · exact List.mem_append_left _ h4
      · exact h4
    · rw [List.mem_singleton.1 hp]
      exact ⟨k, c, hk, rfl, rfl, by simp [addS]⟩
  · intro j hj
    simp only [wD, look_put]
    by_cases e : j = k
    · subst e
      simp [addS]
    · have e' : ¬ ((k : Int) = (j : Int)) := by omega
      simp only [e', if_false, addS, e]
      exact h.now j hj
  · intro j
    have := h.sl j
    unfold addS
    split
    · simp; omega
    · omega
theorem SureInv.flush {i : Nat} {D : Dk} {F : Nat → UInt8} {S : Nat → List UInt8} (h : SureInv i D F S) : SureInv i (fD D) (flF F S) (fun _ => []) := by
  refine ⟨h.size, h.bound, h.down, by simp [fD], by simp [fD], by simp [fD], fun k _ => rfl, ?_, fun _ => Nat.zero_le _⟩
  intro k hk
  simp only [fD, look_mrg, h.now k hk]
  have hf := h.firm k hk
  unfold flF
  cases (S k).getLast? with
  | none => simpa using hf
  | some c => rfl
theorem SureInv.mono {i j : Nat} {D : Dk} {F : Nat → UInt8} {S : Nat → List UInt8} (h : SureInv i D F S) (hij : i ≤ j) : SureInv j D F S :=
  ⟨h.size, h.bound, h.down, Nat.le_trans h.len hij, h.l512, h.loose, h.now, h.firm, fun k => Nat.le_trans (h.sl k) hij⟩
theorem fall_sure (F : Nat → UInt8) (S : Nat → List UInt8) : ∀ (l firm : List (Int × ByteArray)) (keep : List Bool),
    (∀ k : Nat, k < 8 → ∃ c, (c = F k ∨ c ∈ S k) ∧ (look firm (k : Int)).getD pad0 = pad (one c)) →
    (∀ p ∈ l, ∃ (k : Nat) (c : UInt8), k < 8 ∧ p.1 = (k : Int) ∧ p.2 = pad (one c) ∧ c ∈ S k) →
    ∀ k : Nat, k < 8 → ∃ c, (c = F k ∨ c ∈ S k) ∧ (look (fallFirm firm l keep) (k : Int)).getD pad0 = pad (one c) := by
  intro l
  induction l with
  | nil => intro firm keep h _; exact h
  | cons p r ih =>
    intro firm keep h hl
    cases keep with
    | nil => exact h
    | cons b ks =>
      simp only [fallFirm]
      refine ih _ ks ?_ (fun q hq => hl q (List.mem_cons_of_mem _ hq))
      intro k hk
      cases b
      · exact h k hk
      · obtain ⟨j, d, h1, h2, h3, h4⟩ := hl p (List.mem_cons_self ..)
        simp only [if_true, look_put, h2]
        by_cases e : k = j
        · subst e; exact ⟨d, .inr h4, by simp [h3]⟩
        · have e' : ¬ ((j : Int) = (k : Int)) := by omega
          simp only [e', if_false]
          exact h k hk
theorem SureInv.fall {i : Nat} {D : Dk} {F : Nat → UInt8} {S : Nat → List UInt8} (h : SureInv i D F S) (keep : List Bool) {k : Nat} (hk : k < 8) :
    ∃ c, (c = F k ∨ c ∈ S k) ∧ dkRead (dkFall D keep) (k : Int) = (pad (one c), 0) := by
  obtain ⟨c, h1, h2⟩ := fall_sure F S D.loose D.firm keep (fun k hk => ⟨F k, .inl rfl, h.firm k hk⟩) h.loose k hk
  refine ⟨c, h1, ?_⟩
  rw [← h2]
  unfold dkRead
  rw [if_neg (by simp [dkFall]), if_neg (by simp [dkFall, h.size]; omega)]
  simp only [dkFall, look]
  cases look (fallFirm D.firm D.loose keep) (k : Int) <;> rfl
theorem pad_head (c : UInt8) : 0 < (pad (one c)).size ∧ (pad (one c)).size = 512 ∧ ∀ h : 0 < (pad (one c)).size, (pad (one c))[0] = c := by
  have e : (pad (one c)).size = 512 := pad_size (by show 1 ≤ 512; decide)
  exact ⟨by omega, e, fun h => rfl⟩
end Go.Proofs.Ytjgihpabbogpjaa
