/- name, in plain Lean: names, keys. -/
import Derived.Test.YtoblhikablbapaaDoorPackP3
namespace Go.Proofs.YtoblhikablbapaaDoor
set_option linter.unusedVariables false
def nameB (c : UInt8) : Bool := (decide (97 ≤ c.toNat) && decide (c.toNat ≤ 122)) || (decide (48 ≤ c.toNat) && decide (c.toNat ≤ 57)) || decide (c.toNat = 45)
def lettersL : List UInt8 := [97, 98, 99, 100, 101, 102, 103, 104, 105, 106, 107, 108, 109, 110, 111, 112, 113, 114, 115, 116, 117, 118, 119, 120, 121, 122, 48, 49, 50, 51, 52, 53, 54, 55, 56, 57, 45]
theorem letters_name (c : UInt8) : lettersL.contains c = nameB c := by
  have h : ∀ n : Nat, n < 256 → lettersL.contains (UInt8.ofNat n) = nameB (UInt8.ofNat n) := by decide +kernel
  have := h c.toNat c.toNat_lt
  rwa [UInt8.ofNat_toNat] at this
/-- No '-' at its ends. -/
def endsB (l : List UInt8) : Bool := (l.head? != some 45) && (l.getLast? != some 45)
def bktB (l : List UInt8) : Bool := decide (3 ≤ l.length) && decide (l.length ≤ 16) && endsB l && l.all nameB
theorem trim_all (l : List UInt8) : (Lib.trimS l lettersL).isEmpty = l.all nameB := by
  rw [Bool.eq_iff_iff, List.isEmpty_iff, trimS_nil, List.all_eq_true]
  simp only [letters_name]
theorem dropWhile_head {α : Type} (p : α → Bool) (l : List α) : l.dropWhile p = l ↔ ∀ x, l.head? = some x → p x = false := by
  cases l with
  | nil => simp
  | cons a l =>
    cases h : p a
    · simp [h]
    · simp only [List.dropWhile_cons, h, if_true, List.head?_cons, Option.some.injEq, forall_eq']
      constructor
      · intro e
        have := (List.dropWhile_sublist p (l := l)).length_le
        rw [e] at this; simp at this; omega
      · intro e; cases e
theorem trim_ends (l : List UInt8) : (Lib.trimS l [45] == l) = endsB l := by
  have hlen : ∀ (p : UInt8 → Bool) (m : List UInt8), (m.dropWhile p).length ≤ m.length := fun p m => (List.dropWhile_sublist p (l := m)).length_le
  rw [Bool.eq_iff_iff, beq_iff_eq]
  unfold Lib.trimS Lib.trimLeftS Lib.trimRightS endsB
  simp only [Bool.and_eq_true, bne_iff_ne]
  have hc : ∀ x : UInt8, [(45 : UInt8)].contains x = decide (x = 45) := fun x => by
    rw [Bool.eq_iff_iff]; simp
  constructor
  · intro h
    have l1 := hlen ([(45 : UInt8)].contains ·) l.reverse
    have l2 := hlen ([(45 : UInt8)].contains ·) (l.reverse.dropWhile ([(45 : UInt8)].contains ·)).reverse
    have hll := congrArg List.length h
    simp only [List.length_reverse] at l1 l2 hll
    have e1 : l.reverse.dropWhile ([(45 : UInt8)].contains ·) = l.reverse := (List.dropWhile_sublist _).eq_of_length_le (by simp only [List.length_reverse]; omega)
    rw [e1, List.reverse_reverse] at h
    have g1 := (dropWhile_head _ _).1 h
    have g2 := (dropWhile_head _ _).1 e1
    refine ⟨fun e => ?_, fun e => ?_⟩
    · have := g1 45 e; simp at this
    · have := g2 45 (by rw [List.head?_reverse]; exact e); simp at this
  · rintro ⟨h1, h2⟩
    have e1 : l.reverse.dropWhile ([(45 : UInt8)].contains ·) = l.reverse := (dropWhile_head _ _).2 fun x hx => by
      rw [List.head?_reverse] at hx
      rw [hc]; simp only [decide_eq_false_iff_not]; intro e; subst e; exact h2 hx
    rw [e1, List.reverse_reverse]
    exact (dropWhile_head _ _).2 fun x hx => by rw [hc]; simp only [decide_eq_false_iff_not]; intro e; subst e; exact h1 hx
def itemB (l : List UInt8) : Bool := decide (1 ≤ l.length) && decide (l.length ≤ 40) && (cutL l).isNone
/-- A kind and parts. -/
def partsL (ps : List (List UInt8)) : List UInt8 := ps.flatMap (· ++ [0])
def noZero (ps : List (List UInt8)) : Bool := ps.all fun p => (cutL p).isNone
def underL (kind : UInt8) (ps : List (List UInt8)) : List UInt8 := if noZero ps = true then kind :: partsL ps else []
def bucketKeyL (b : List UInt8) : List UInt8 := if bktB b = true then underL 98 [b] else []
def versionKeyL (b i : List UInt8) (n : Nat) : List UInt8 := if bktB b = true ∧ itemB i = true then underL 118 [b, i] ++ fallsL n else []
def uploadKeyL (b i : List UInt8) (n : Nat) : List UInt8 := if bktB b = true ∧ itemB i = true then underL 117 [b, i] ++ be n 8 else []
def partKeyL (n : Nat) (p : Int) : List UInt8 := if p < 0 ∨ 255 < p then [] else (112 : UInt8) :: (be n 8 ++ [UInt8.ofNat p.toNat])
/-- The bytes behind a text: of the text turned round. -/
def behindR : List UInt8 → List UInt8
  | [] => []
  | c :: r => if c = 255 then behindR r else r.reverse ++ [c + 1]
def behindL (l : List UInt8) : List UInt8 := behindR l.reverse
/-- A bucket, an item, eight bytes: of a key of a kind. -/
def readK (k : UInt8) (l : List UInt8) : Option (List UInt8 × List UInt8 × List UInt8) := match l with
  | [] => none
  | c :: r => if c = k then (match cutL r with
    | none => none
    | some (b, r2) => match cutL r2 with
      | none => none
      | some (i, r3) => if bktB b = true ∧ itemB i = true ∧ r3.length = 8 then some (b, i, r3) else none) else none
theorem bkt_noZero {b : List UInt8} (h : bktB b = true) : cutL b = none := by
  have h' : ∀ x ∈ b, nameB x = true := by
    simp only [bktB, Bool.and_eq_true] at h
    exact List.all_eq_true.1 h.2
  clear h
  revert h'
  induction b with
  | nil => intro _; rfl
  | cons c r ih =>
    intro h
    have hc := h c (List.mem_cons_self ..)
    unfold cutL
    rw [if_neg (by intro e; subst e; revert hc; decide), ih (fun x hx => h x (List.mem_cons_of_mem _ hx))]
    rfl
theorem under_two {k : UInt8} {b i : List UInt8} (hb : bktB b = true) (hi : itemB i = true) : underL k [b, i] = k :: (b ++ 0 :: (i ++ [0])) := by
  have h1 := bkt_noZero hb
  simp only [itemB, Bool.and_eq_true, Option.isNone_iff_eq_none] at hi
  unfold underL noZero partsL
  simp [h1, hi.2]
/-- A key tells what it is of. -/
theorem read_key {k : UInt8} {b i r : List UInt8} (hb : bktB b = true) (hi : itemB i = true) (hr : r.length = 8) : readK k (underL k [b, i] ++ r) = some (b, i, r) := by
  rw [under_two hb hi]
  have h1 := bkt_noZero hb
  have h2 : cutL i = none := by simp only [itemB, Bool.and_eq_true, Option.isNone_iff_eq_none] at hi; exact hi.2
  have e : k :: (b ++ 0 :: (i ++ [0])) ++ r = k :: (b ++ 0 :: (i ++ 0 :: r)) := by simp
  rw [e]
  show (if k = k then (match cutL (b ++ 0 :: (i ++ 0 :: r)) with
    | none => none
    | some (b, r2) => match cutL r2 with
      | none => none
      | some (i, r3) => if bktB b = true ∧ itemB i = true ∧ r3.length = 8 then some (b, i, r3) else none) else none) = _
  rw [if_pos rfl, cutL_part h1]
  simp only
  rw [cutL_part h2]
  simp [hb, hi, hr]
theorem cutL_some {l a r : List UInt8} (h : cutL l = some (a, r)) : l = a ++ 0 :: r ∧ cutL a = none := by
  induction l generalizing a with
  | nil => cases h
  | cons c l ih =>
    unfold cutL at h
    split at h
    · rename_i hc
      cases h
      exact ⟨by rw [hc]; rfl, rfl⟩
    · rename_i hc
      simp only [Option.map_eq_some_iff] at h
      obtain ⟨p, hp, e⟩ := h
      obtain ⟨x, y⟩ := p
      simp only [Prod.mk.injEq] at e
      obtain ⟨rfl, rfl⟩ := e
      obtain ⟨h1, h2⟩ := ih hp
      refine ⟨by rw [h1]; rfl, ?_⟩
      unfold cutL
      rw [if_neg hc, h2]; rfl
/-- What is read is written as just this key. -/
theorem key_read {k : UInt8} {l b i r : List UInt8} (h : readK k l = some (b, i, r)) : bktB b = true ∧ itemB i = true ∧ r.length = 8 ∧ underL k [b, i] ++ r = l := by
  unfold readK at h
  split at h
  · cases h
  · rename_i c q
    split at h
    · rename_i hc
      split at h
      · cases h
      · rename_i b' r2 h1
        split at h
        · cases h
        · rename_i i' r3 h2
          split at h
          · rename_i hh
            cases h
            obtain ⟨g1, _⟩ := cutL_some h1
            obtain ⟨g2, _⟩ := cutL_some h2
            refine ⟨hh.1, hh.2.1, hh.2.2, ?_⟩
            rw [under_two hh.1 hh.2.1, g1, g2, hc]
            simp
          · cases h
    · cases h
end Go.Proofs.YtoblhikablbapaaDoor
