/- Plain laws of the pack: what is written is read back; joins. -/
import Derived.Test.YtoblhikablbapaaDoorPackP
namespace Go.Proofs.YtoblhikablbapaaDoor
set_option linter.unusedVariables false
theorem told_of_be : ∀ (w n : Nat), w ≤ 8 → n < 256 ^ w → toldN 0 (be n w) = n := by
  intro w
  induction w with
  | zero => intro n _ h; simp at h; subst h; rfl
  | succ w ih =>
    intro n hw h
    have hp : 256 ^ (w + 1) ≤ 256 ^ 8 := Nat.pow_le_pow_right (by decide) hw
    have h8 : (256 : Nat) ^ 8 = 18446744073709551616 := by decide
    rw [be_snoc, toldN_append, ih (n / 256) (by omega) (by rw [Nat.pow_succ] at h; omega)]
    show (n / 256) * 256 % 18446744073709551616 + (UInt8.ofNat (n % 256)).toNat = n
    rw [UInt8.toNat_ofNat', Nat.mod_eq_of_lt (by omega), Nat.mod_eq_of_lt (by omega)]
    omega
theorem cat_take (a r : List UInt8) : (⟨(a ++ r).toArray⟩ : ByteArray).extract 0 a.length = ⟨a.toArray⟩ := by
  rw [extract_take]; simp
theorem cat_drop (a r : List UInt8) : (⟨(a ++ r).toArray⟩ : ByteArray).extract a.length (⟨(a ++ r).toArray⟩ : ByteArray).size = ⟨r.toArray⟩ := by
  rw [extract_drop]; simp
theorem size_mk (a : List UInt8) : (⟨a.toArray⟩ : ByteArray).size = a.length := by rw [Lib.size_eq]
theorem empty_of_size {S : ByteArray} (h : S.size = 0) : S = ⟨#[]⟩ := by
  apply ByteArray.ext
  exact Array.eq_empty_of_size_eq_zero h
theorem mk_data (S : ByteArray) : (⟨S.data.toList.toArray⟩ : ByteArray) = S := by apply ByteArray.ext; simp
theorem rd_wr1 {k : UInt8} {f : Fld} {a : List UInt8} (h : wr1 k f = some a) (hn : f.1 < 18446744073709551616) (r : List UInt8) (hr : kindB k = true ∨ r = []) : rd1 k ⟨(a ++ r).toArray⟩ = some (f, ⟨r.toArray⟩) := by
  obtain ⟨n, S⟩ := f
  by_cases h116 : k = 116
  · subst h116
    by_cases hz : n = 0
    · by_cases hs : 65535 < S.size
      · rw [wr1_t_no n S hz hs] at h; cases h
      · rw [wr1_t n S hz hs] at h
        simp only [Option.some.injEq] at h
        subst h hz
        rw [List.append_assoc]
        generalize hq : S.data.toList ++ r = q
        have e1 := cat_take (be S.size 2) q
        have e2 := cat_drop (be S.size 2) q
        rw [be_length] at e1 e2
        have hsz : (⟨(be S.size 2 ++ q).toArray⟩ : ByteArray).size = 2 + q.length := by rw [size_mk]; simp [be_length]
        rw [rd1_t _ (by omega), e1, e2]
        have e3 : toldN 0 (⟨(be S.size 2).toArray⟩ : ByteArray).data.toList = S.size := told_of_be 2 S.size (by decide) (Nat.lt_of_le_of_lt (Nat.le_of_not_lt hs) (by decide))
        rw [e3]
        subst hq
        have e4 := cat_take S.data.toList r
        have e5 := cat_drop S.data.toList r
        rw [← Lib.size_eq] at e4 e5
        rw [e4, e5, if_neg (by rw [size_mk, List.length_append, ← Lib.size_eq]; omega), mk_data]
    · rw [wr1_txt_no 116 n S rfl hz] at h; cases h
  · by_cases hk : kindB k = true
    · have hk' : (kindB k && k != 116) = true := by simp [hk, h116]
      rw [wr1_num k _ n S hk' rfl] at h
      rw [rd1_num k _ _ hk' rfl]
      have hw8 : (widthB k.toNat).toNat ≤ 8 := by unfold widthB; split <;> (try split) <;> (try split) <;> decide
      generalize (widthB k.toNat).toNat = wd at *
      by_cases hc : S.size ≠ 0 ∨ 256 ^ wd ≤ n
      · rw [if_pos hc] at h; cases h
      · rw [if_neg hc] at h
        simp only [Option.some.injEq] at h
        subst h
        have e1 := cat_take (be n wd) r
        have e2 := cat_drop (be n wd) r
        rw [be_length] at e1 e2
        rw [e1, e2, if_neg (by rw [size_mk, List.length_append, be_length]; omega)]
        have e3 : toldN 0 (⟨(be n wd).toArray⟩ : ByteArray).data.toList = n := told_of_be wd n hw8 (by omega)
        rw [e3, empty_of_size (S := S) (by omega)]
    · have e : rd1 k ⟨(a ++ r).toArray⟩ = some ((0, ⟨(a ++ r).toArray⟩), ⟨#[]⟩) := by unfold rd1; rw [if_neg h116, if_neg hk]
      obtain rfl : r = [] := hr.resolve_left hk
      by_cases hz : n = 0
      · rw [wr1_r k n S (by simp [hk]) h116 hz] at h
        simp only [Option.some.injEq] at h
        subst h hz
        rw [e, List.append_nil, mk_data]
      · rw [wr1_txt_no k n S (by simp [hk]) hz] at h; cases h
theorem rd_wr : ∀ (ks : List UInt8) (fs : List Fld) (a : List UInt8), rightL ks = true → ks.length = fs.length → (∀ p ∈ fs, p.1 < 18446744073709551616) → wrL ks fs = some a → readL ks ⟨a.toArray⟩ = some fs := by
  intro ks
  induction ks with
  | nil =>
    intro fs a _ hl _ h
    obtain rfl := List.eq_nil_of_length_eq_zero hl.symm
    simp only [wrL, Option.some.injEq] at h
    subst h
    show (if (⟨#[]⟩ : ByteArray).toList = [] then some [] else none) = _
    rw [if_pos (by rw [Lib.toList_data])]
  | cons k ks ih =>
    intro fs a hr hl hn h
    cases fs with
    | nil => simp at hl
    | cons f fs =>
      have e : wrL (k :: ks) (f :: fs) = (match wr1 k f with | none => none | some a => (wrL ks fs).map (a ++ ·)) := rfl
      rw [e] at h
      cases h1 : wr1 k f with
      | none => rw [h1] at h; cases h
      | some b =>
        rw [h1] at h
        dsimp only at h
        cases h2 : wrL ks fs with
        | none => rw [h2] at h; cases h
        | some c =>
          rw [h2] at h
          simp only [Option.map_some, Option.some.injEq] at h
          subst h
          have hc : kindB k = true ∨ c = [] := by
            cases ks with
            | nil => right; cases fs with
              | nil => simp only [wrL, Option.some.injEq] at h2; exact h2.symm
              | cons _ _ => simp at hl
            | cons d r => left; rw [rightL_cons (by simp)] at hr; simp only [Bool.and_eq_true] at hr; exact hr.1
          have hr' : rightL ks = true := by
            cases ks with
            | nil => rfl
            | cons d r => rw [rightL_cons (by simp)] at hr; simp only [Bool.and_eq_true] at hr; exact hr.2
          have e2 : readL (k :: ks) ⟨(b ++ c).toArray⟩ = (match rd1 k ⟨(b ++ c).toArray⟩ with | none => none | some p => (readL ks p.2).map (p.1 :: ·)) := rfl
          rw [e2, rd_wr1 h1 (hn f (List.mem_cons_self ..)) c hc]
          dsimp only
          rw [ih fs c hr' (by simpa using hl) (fun p hp => hn p (List.mem_cons_of_mem _ hp)) h2]
          rfl
/-- What is written is read back. -/
theorem read_write {ks : List UInt8} {fs : List Fld} {a : List UInt8} (hn : ∀ p ∈ fs, p.1 < 18446744073709551616) (h : writeL ks fs = some a) : readF ks ⟨a.toArray⟩ = some fs := by
  by_cases hr : rightL ks = true ∧ ks.length = fs.length
  · rw [writeL_yes hr.1 hr.2] at h
    unfold readF
    rw [if_pos hr.1]
    exact rd_wr ks fs a hr.1 hr.2 hn h
  · unfold writeL at h
    rw [if_neg hr] at h; cases h
theorem rightL_all {l : List UInt8} (h : rightL l = true) (hn : ∀ c ∈ l, c ≠ 114) : l.all kindB = true := by
  rcases List.eq_nil_or_concat l with rfl | ⟨m, c, rfl⟩
  · rfl
  · simp only [List.concat_eq_append] at h hn ⊢
    rw [rightL_snoc] at h
    have := hn c (by simp)
    rw [List.all_append]
    simp only [Bool.and_eq_true, Bool.or_eq_true, beq_iff_eq] at h
    simp [h.1, h.2.resolve_right this]
theorem rightL_append {a b : List UInt8} (ha : a.all kindB = true) (hb : rightL b = true) : rightL (a ++ b) = true := by
  induction a with
  | nil => exact hb
  | cons c r ih =>
    simp only [List.all_cons, Bool.and_eq_true] at ha
    by_cases h : r ++ b = []
    · rw [List.cons_append, h]; simp [rightL, ha.1]
    · rw [List.cons_append, rightL_cons h, ih ha.2, ha.1]; rfl
theorem wrL_append : ∀ (k1 k2 : List UInt8) (l m : List Fld) (a b : List UInt8), k1.length = l.length → wrL k1 l = some a → wrL k2 m = some b → wrL (k1 ++ k2) (l ++ m) = some (a ++ b) := by
  intro k1
  induction k1 with
  | nil =>
    intro k2 l m a b hl h1 h2
    obtain rfl := List.eq_nil_of_length_eq_zero hl.symm
    simp only [wrL, Option.some.injEq] at h1
    subst h1
    exact h2
  | cons k ks ih =>
    intro k2 l m a b hl h1 h2
    cases l with
    | nil => simp at hl
    | cons f fs =>
      have e : wrL (k :: ks) (f :: fs) = (match wr1 k f with | none => none | some a => (wrL ks fs).map (a ++ ·)) := rfl
      rw [e] at h1
      have e2 : wrL (k :: ks ++ k2) (f :: fs ++ m) = (match wr1 k f with | none => none | some a => (wrL (ks ++ k2) (fs ++ m)).map (a ++ ·)) := rfl
      rw [e2]
      cases h3 : wr1 k f with
      | none => rw [h3] at h1; cases h1
      | some c =>
        rw [h3] at h1
        dsimp only at h1 ⊢
        cases h4 : wrL ks fs with
        | none => rw [h4] at h1; cases h1
        | some d =>
          rw [h4] at h1
          simp only [Option.map_some, Option.some.injEq] at h1
          subst h1
          rw [ih k2 fs m d b (by simpa using hl) h4 h2]
          simp
/-- The bytes of two records, one behind the other, are those of both as one. -/
theorem write_join {k1 k2 : List UInt8} {l m : List Fld} {a b : List UInt8} (h1 : writeL k1 l = some a) (h2 : writeL k2 m = some b) (hn : ∀ c ∈ k1, c ≠ 114) : writeL (k1 ++ k2) (l ++ m) = some (a ++ b) := by
  by_cases g1 : rightL k1 = true ∧ k1.length = l.length
  · by_cases g2 : rightL k2 = true ∧ k2.length = m.length
    · rw [writeL_yes g1.1 g1.2] at h1
      rw [writeL_yes g2.1 g2.2] at h2
      rw [writeL_yes (rightL_append (rightL_all g1.1 hn) g2.1) (by simp [g1.2, g2.2])]
      exact wrL_append _ _ _ _ _ _ g1.2 h1 h2
    · unfold writeL at h2; rw [if_neg g2] at h2; cases h2
  · unfold writeL at h1; rw [if_neg g1] at h1; cases h1
end Go.Proofs.YtoblhikablbapaaDoor
