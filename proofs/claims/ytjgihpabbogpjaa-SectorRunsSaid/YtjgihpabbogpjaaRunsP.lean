/- SectorRuns in plain Lean: the reference's disk out of the code's. -/
import Derived.Test.YtjgihpabbogpjaaRefF
namespace Go.Proofs.Ytjgihpabbogpjaa
set_option linter.unusedVariables false
open Go.RowKit
def refFirm (D : Dk) : List ByteArray := (List.range D.size.toNat).map fun (i : Nat) => (look D.firm (i : Int)).getD pad0
def refOf (D : Dk) : Rk := ⟨refFirm D, D.loose, if D.bound = true then D.fuel else -1, D.down⟩
def lastO : List (Int × ByteArray) → Int → Option ByteArray
  | [], _ => none
  | p :: r, i => (lastO r i).or (if p.1 = i then some p.2 else none)
theorem lastL_lastO (l : List (Int × ByteArray)) (f : ByteArray) (i : Int) : lastL f l i = (lastO l i).getD f := by
  induction l generalizing f with
  | nil => rfl
  | cons p r ih =>
    show lastL (if p.1 = i then p.2 else f) r i = _
    rw [ih]
    show _ = ((lastO r i).or (if p.1 = i then some p.2 else none)).getD f
    cases lastO r i with
    | some z => rfl
    | none => by_cases h : p.1 = i <;> simp [h]
theorem lastO_snoc (l : List (Int × ByteArray)) (p : Int × ByteArray) (i : Int) : lastO (l ++ [p]) i = if p.1 = i then some p.2 else lastO l i := by
  induction l with
  | nil => simp [lastO]
  | cons q r ih =>
    simp only [List.cons_append, lastO, ih]
    by_cases h : p.1 = i
    · simp [h]
    · simp [h]
structure Good (n m : Nat) (D : Dk) : Prop where
  size : D.size = n
  fuel0 : D.bound = true → 0 ≤ D.fuel
  len : D.loose.length ≤ m
  inR : ∀ p ∈ D.loose, 0 ≤ p.1 ∧ p.1 < (n : Int)
  l512 : ∀ p ∈ D.loose, p.2.size = 512
  now : ∀ i : Nat, i < n → look D.now (i : Int) = lastO D.loose (i : Int)
theorem refFirm_length {n m : Nat} {D : Dk} (h : Good n m D) : (refFirm D).length = n := by simp [refFirm, h.size]
theorem refFirm_get {n m : Nat} {D : Dk} (h : Good n m D) {i : Nat} (hi : i < n) : (refFirm D)[i]? = some ((look D.firm (i : Int)).getD pad0) := by
  simp [refFirm, h.size, hi]
theorem step_ref {n m : Nat} {D : Dk} (h : Good n m D) : rkStep (refOf D) = ((if (dkStep D).1 = true then 0 else 3), refOf (dkStep D).2) ∧ Good n m (dkStep D).2 := by
  have h0 := h.fuel0
  obtain ⟨sz, firm, loose, now, fuel, bound, down⟩ := D
  cases bound
  · exact ⟨by simp [rkStep, refOf, dkStep], by simpa [dkStep] using h⟩
  · have hf : 0 ≤ fuel := h0 rfl
    by_cases hz : fuel = 0
    · subst hz
      refine ⟨by simp [rkStep, refOf, dkStep, refFirm], ?_⟩
      simp only [dkStep]
      exact ⟨h.size, h.fuel0, h.len, h.inR, h.l512, h.now⟩
    · have hp : 0 < fuel := by omega
      refine ⟨by simp [rkStep, refOf, dkStep, hz, hp, refFirm], ?_⟩
      have e : dkStep ⟨sz, firm, loose, now, fuel, true, down⟩ = (true, ⟨sz, firm, loose, now, fuel - 1, true, down⟩) := by simp [dkStep, hz]
      rw [e]
      exact ⟨h.size, fun _ => by simp; omega, h.len, h.inR, h.l512, h.now⟩
theorem write_ref {n m : Nat} {D : Dk} (h : Good n m D) (i : Int) (s : ByteArray) : rkWrite (refOf D) i s = ((dkWrite D i s).1, refOf (dkWrite D i s).2) ∧ Good n (m + 1) (dkWrite D i s).2 := by
  have hm : Good n (m + 1) D := ⟨h.size, h.fuel0, Nat.le_succ_of_le h.len, h.inR, h.l512, h.now⟩
  obtain ⟨s1, s2⟩ := step_ref h
  have hfl : ((refOf D).firm.length : Int) = D.size := by rw [show (refOf D).firm = refFirm D from rfl, refFirm_length h, h.size]
  unfold rkWrite dkWrite
  rw [hfl, s1, show (refOf D).off = D.down from rfl]
  by_cases h1 : D.down = true
  · rw [if_pos h1, if_pos h1]; exact ⟨rfl, hm⟩
  · rw [if_neg h1, if_neg h1]
    by_cases h2 : i < 0 ∨ D.size ≤ i
    · rw [if_pos h2, if_pos h2]; exact ⟨rfl, hm⟩
    · rw [if_neg h2, if_neg h2]
      by_cases h3 : 512 < s.size
      · rw [if_pos h3, if_pos h3]; exact ⟨rfl, hm⟩
      · rw [if_neg h3, if_neg h3]
        cases hs : (dkStep D).1
        · rw [if_pos (show ((if (false : Bool) = true then (0 : Int) else 3), refOf (dkStep D).2).1 = 3 from rfl), if_pos rfl]
          exact ⟨rfl, ⟨s2.size, s2.fuel0, Nat.le_succ_of_le s2.len, s2.inR, s2.l512, s2.now⟩⟩
        · rw [if_neg (show ¬ ((if (true : Bool) = true then (0 : Int) else 3), refOf (dkStep D).2).1 = 3 from (by decide : ¬ ((0 : Int) = 3))), if_neg (show ¬ (true = false) by decide)]
          refine ⟨rfl, s2.size, s2.fuel0, ?_, ?_, ?_, ?_⟩
          · have := s2.len; simp; omega
          · intro p hp
            rcases List.mem_append.1 hp with hp | hp
            · exact s2.inR p hp
            · rw [List.mem_singleton.1 hp]; have := h.size; exact ⟨by simp; omega, by simp; omega⟩
          · intro p hp
            rcases List.mem_append.1 hp with hp | hp
            · exact s2.l512 p hp
            · rw [List.mem_singleton.1 hp]; exact pad_size (by omega)
          · intro j hj
            show look (put (dkStep D).2.now i (pad s)) (j : Int) = lastO ((dkStep D).2.loose ++ [(i, pad s)]) (j : Int)
            rw [look_put, lastO_snoc]
            by_cases e : i = (j : Int)
            · rw [if_pos e, if_pos e]
            · rw [if_neg e, if_neg e]; exact s2.now j hj
theorem setFirm_get : ∀ (l : List (Int × ByteArray)) (f : List ByteArray) (i : Nat), (∀ p ∈ l, 0 ≤ p.1 ∧ p.1 < (f.length : Int)) → i < f.length → (setFirm f l)[i]? = some ((lastO l (i : Int)).getD (f.getD i ⟨#[]⟩)) := by
  intro l
  induction l with
  | nil => intro f i _ hi; simp [setFirm, lastO, hi]
  | cons p r ih =>
    intro f i hl hi
    have hp := hl p (List.mem_cons_self ..)
    show (setFirm (f.set p.1.toNat p.2) r)[i]? = _
    rw [ih _ i (fun q hq => by have := hl q (List.mem_cons_of_mem _ hq); simpa using this) (by simpa using hi)]
    show _ = some (((lastO r (i : Int)).or (if p.1 = (i : Int) then some p.2 else none)).getD (f.getD i ⟨#[]⟩))
    cases lastO r (i : Int) with
    | some z => rfl
    | none =>
      by_cases e : p.1 = (i : Int)
      · have e2 : p.1.toNat = i := by omega
        simp [e, hi]
      · have e2 : ¬ p.1.toNat = i := by omega
        simp [e, List.getD, e2]
theorem refFirm_eq {n m : Nat} {D D' : Dk} {L : List (Int × ByteArray)} (h : Good n m D) (hs : D'.size = D.size) (hl : ∀ p ∈ L, 0 ≤ p.1 ∧ p.1 < (n : Int)) (hf : ∀ i : Nat, i < n → look D'.firm (i : Int) = (lastO L (i : Int)).or (look D.firm (i : Int))) :
    setFirm (refFirm D) L = refFirm D' := by
  apply List.ext_getElem?
  intro i
  by_cases hi : i < n
  · rw [setFirm_get L _ i (by rw [refFirm_length h]; exact hl) (by rw [refFirm_length h]; exact hi)]
    have e : (refFirm D).getD i ⟨#[]⟩ = (look D.firm (i : Int)).getD pad0 := by rw [List.getD, refFirm_get h hi]; rfl
    have e2 : (refFirm D')[i]? = some ((look D'.firm (i : Int)).getD pad0) := by simp [refFirm, hs, h.size, hi]
    rw [e, e2, hf i hi]
    cases lastO L (i : Int) <;> rfl
  · rw [List.getElem?_eq_none (by rw [setFirm_length, refFirm_length h]; omega), List.getElem?_eq_none (by simp [refFirm, hs, h.size]; omega)]
theorem flush_ref {n m : Nat} {D : Dk} (h : Good n m D) : rkFlush (refOf D) = ((dkFlush D).1, refOf (dkFlush D).2) ∧ Good n m (dkFlush D).2 := by
  obtain ⟨s1, s2⟩ := step_ref h
  unfold rkFlush dkFlush
  rw [s1, show (refOf D).off = D.down from rfl]
  by_cases h1 : D.down = true
  · rw [if_pos h1, if_pos h1]; exact ⟨rfl, h⟩
  · rw [if_neg h1, if_neg h1]
    cases hs : (dkStep D).1
    · rw [if_pos (show ((if (false : Bool) = true then (0 : Int) else 3), refOf (dkStep D).2).1 = 3 from rfl), if_pos rfl]
      exact ⟨rfl, s2⟩
    · rw [if_neg (show ¬ ((if (true : Bool) = true then (0 : Int) else 3), refOf (dkStep D).2).1 = 3 from (by decide : ¬ ((0 : Int) = 3))), if_neg (show ¬ (true = false) by decide)]
      generalize (dkStep D).2 = E at *
      refine ⟨?_, s2.size, s2.fuel0, Nat.zero_le _, by simp, by simp, fun i _ => rfl⟩
      have e : setFirm (refFirm E) E.loose = refFirm { E with firm := mrg E.now E.firm, loose := [], now := [] } :=
        refFirm_eq s2 rfl s2.inR (fun i hi => by show look (mrg E.now E.firm) (i : Int) = _; rw [look_mrg, s2.now i hi])
      show ((0 : Int), (⟨setFirm (refFirm E) E.loose, [], _, _⟩ : Rk)) = (0, _)
      rw [e]; rfl
theorem fall_look : ∀ (l firm : List (Int × ByteArray)) (keep : List Bool) (i : Int), look (fallFirm firm l keep) i = (lastO (kept l keep) i).or (look firm i) := by
  intro l
  induction l with
  | nil => intro firm keep i; simp [fallFirm, kept, lastO]
  | cons p r ih =>
    intro firm keep i
    cases keep with
    | nil => simp [fallFirm, kept, lastO]
    | cons b ks =>
      simp only [fallFirm]
      rw [ih]
      cases b
      · simp [kept]
      · simp only [if_true, look_put, kept, lastO]
        cases lastO (kept r ks) i with
        | some z => rfl
        | none => by_cases e : p.1 = i <;> simp [e]
theorem fall_ref {n m : Nat} {D : Dk} (h : Good n m D) (keep : List Bool) : rkFall (refOf D) keep = refOf (dkFall D keep) ∧ Good n m (dkFall D keep) := by
  refine ⟨?_, h.size, fun e => (by cases e), Nat.zero_le _, by simp [dkFall], by simp [dkFall], fun i _ => rfl⟩
  have e : setFirm (refFirm D) (kept D.loose keep) = refFirm (dkFall D keep) :=
    refFirm_eq h rfl (fun p hp => h.inR p (kept_mem p hp)) (fun i hi => fall_look _ _ _ _)
  show (⟨setFirm (refFirm D) (kept D.loose keep), [], -1, false⟩ : Rk) = _
  rw [e]; rfl
theorem fuel_ref {n m : Nat} {D : Dk} (h : Good n m D) (k : Int) : refOf { D with fuel := k, bound := decide (0 ≤ k) } = { refOf D with fuel := if -1 ≤ k then k else -1 } ∧ Good n m { D with fuel := k, bound := decide (0 ≤ k) } := by
  refine ⟨?_, h.size, fun e => by simpa using e, h.len, h.inR, h.l512, h.now⟩
  unfold refOf refFirm
  simp only
  congr 1
  by_cases h0 : 0 ≤ k
  · simp [h0, show -1 ≤ k by omega]
  · by_cases h1 : -1 ≤ k
    · have : k = -1 := by omega
      simp [this]
    · simp [h0, h1]
theorem read_ref {n m : Nat} {D : Dk} (h : Good n m D) (i : Int) : rkRead (refOf D) i = dkRead D i := by
  have hfl : ((refOf D).firm.length : Int) = D.size := by rw [show (refOf D).firm = refFirm D from rfl, refFirm_length h, h.size]
  unfold rkRead dkRead
  rw [hfl, show (refOf D).off = D.down from rfl]
  by_cases h1 : D.down = true
  · rw [if_pos h1, if_pos h1]; rfl
  · rw [if_neg h1, if_neg h1]
    by_cases h2 : i < 0 ∨ D.size ≤ i
    · rw [if_pos h2, if_pos h2]; rfl
    · rw [if_neg h2, if_neg h2]
      have hs := h.size
      obtain ⟨j, rfl⟩ : ∃ j : Nat, i = j := ⟨i.toNat, by omega⟩
      have hj : j < n := by omega
      have e : (refOf D).firm.getD (j : Int).toNat ⟨#[]⟩ = (look D.firm (j : Int)).getD pad0 := by
        rw [Int.toNat_natCast, show (refOf D).firm = refFirm D from rfl, List.getD, refFirm_get h hj]; rfl
      rw [e, lastL_lastO, show (refOf D).loose = D.loose from rfl, ← h.now j hj]
      cases look D.now (j : Int) with
      | some z => rfl
      | none => cases look D.firm (j : Int) <;> rfl
theorem new_ref (n : Nat) : refOf (dkNew n) = rkNew n ∧ Good n 0 (dkNew n) := by
  refine ⟨?_, rfl, fun e => (by cases e), Nat.le_refl _, by simp [dkNew], by simp [dkNew], fun i _ => rfl⟩
  unfold refOf refFirm rkNew dkNew
  simp only [look, Option.getD_none, Int.toNat_natCast]
  congr 1
  apply List.ext_getElem <;> simp
end Go.Proofs.Ytjgihpabbogpjaa
