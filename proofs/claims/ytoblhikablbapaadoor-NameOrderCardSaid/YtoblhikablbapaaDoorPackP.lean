/- Plain laws of the pack: what is read is written as the same bytes. -/
import Derived.Test.YtoblhikablbapaaDoorPackQ
namespace Go.Proofs.YtoblhikablbapaaDoor
set_option linter.unusedVariables false
theorem be_snoc (n w : Nat) : be n (w + 1) = be (n / 256) w ++ [UInt8.ofNat (n % 256)] := by
  induction w with
  | zero => simp [be]
  | succ w ih =>
    have e1 : be n (w + 1 + 1) = UInt8.ofNat (n / 256 ^ (w + 1) % 256) :: be n (w + 1) := rfl
    have e2 : be (n / 256) (w + 1) = UInt8.ofNat (n / 256 / 256 ^ w % 256) :: be (n / 256) w := rfl
    rw [e1, ih, e2, Nat.div_div_eq_div_mul, Nat.pow_succ, Nat.mul_comm 256]
    rfl
theorem told_be : ∀ (m : Nat) (l : List UInt8), l.length = m → m ≤ 8 → be (toldN 0 l) m = l ∧ toldN 0 l < 256 ^ m := by
  intro m
  induction m with
  | zero =>
    intro l hl _
    obtain rfl := List.eq_nil_of_length_eq_zero hl
    exact ⟨rfl, by decide⟩
  | succ m ih =>
    intro l hl hm
    obtain ⟨a, c, rfl⟩ : ∃ a c, l = a ++ [c] := ⟨l.dropLast, l.getLast (by intro h; simp [h] at hl), (List.dropLast_concat_getLast _).symm⟩
    have ha : a.length = m := by simpa using hl
    obtain ⟨i1, i2⟩ := ih a ha (by omega)
    have hp : 256 ^ m ≤ 256 ^ 7 := Nat.pow_le_pow_right (by decide) (by omega)
    have h7 : (256 : Nat) ^ 7 * 256 = 18446744073709551616 := by decide
    have hc := c.toNat_lt
    have e : toldN 0 (a ++ [c]) = toldN 0 a * 256 + c.toNat := by
      rw [toldN_append]
      show toldN 0 a * 256 % 18446744073709551616 + c.toNat = _
      rw [Nat.mod_eq_of_lt (by omega)]
    rw [e, be_snoc]
    refine ⟨?_, ?_⟩
    · rw [show (toldN 0 a * 256 + c.toNat) / 256 = toldN 0 a by omega, show (toldN 0 a * 256 + c.toNat) % 256 = c.toNat by omega, i1]
      simp
    · rw [Nat.pow_succ]; omega
theorem ex_take (r : ByteArray) (n : Nat) : (r.extract 0 n).data.toList = r.data.toList.take n := by simp
theorem ex_drop (r : ByteArray) (n : Nat) : (r.extract n r.size).data.toList = r.data.toList.drop n := by
  rw [Go.Proofs.YtoblhikablbapaaDoor.extract_drop]
theorem bytes_eq {r : ByteArray} {l : List UInt8} (h : r.data.toList = l) : r.size = l.length := by rw [Lib.size_eq, h]
/-- One field that is read is written as the bytes that it took. -/
theorem wr_rd1 {k : UInt8} {r r' : ByteArray} {f : Fld} (h : rd1 k r = some (f, r')) : ∃ a, wr1 k f = some a ∧ a ++ r'.data.toList = r.data.toList ∧ f.1 < 18446744073709551616 ∧ f.2.size ≤ r.size ∧ r'.size ≤ r.size := by
  have hrs := Lib.size_eq r
  by_cases h116 : k = 116
  · subst h116
    by_cases h2 : r.size < 2
    · rw [rd1_t_no r h2] at h; simp at h
    · rw [rd1_t r h2] at h
      obtain ⟨t1, t2⟩ := told_be 2 ((r.extract 0 2).data.toList) (by rw [ex_take, List.length_take, ← hrs]; omega) (by decide)
      generalize hN : toldN 0 (r.extract 0 2).data.toList = N at *
      by_cases hn : (r.extract 2 r.size).size < N
      · rw [if_pos hn] at h; simp at h
      · rw [if_neg hn] at h
        simp only [Option.some.injEq, Prod.mk.injEq] at h
        obtain ⟨rfl, rfl⟩ := h
        have e2 := ex_drop r 2
        generalize r.extract 2 r.size = q at *
        have hq := Lib.size_eq q
        have hT : (q.extract 0 N).size = N := by simp; omega
        have hql : q.data.toList.length = r.data.toList.length - 2 := by rw [e2]; simp
        have hN2 : N < 65536 := t2
        refine ⟨be N 2 ++ (q.extract 0 N).data.toList, ?_, ?_, by show 0 < 18446744073709551616; decide, by show (q.extract 0 N).size ≤ _; omega, by simp; omega⟩
        · rw [wr1_t 0 _ rfl (by omega), hT]
        · rw [t1, ex_take, ex_take, ex_drop, List.append_assoc, List.take_append_drop, e2, List.take_append_drop]
  · by_cases hk : kindB k = true
    · have hk' : (kindB k && k != 116) = true := by simp [hk, h116]
      rw [rd1_num k _ r hk' rfl] at h
      by_cases hn : r.size < (widthB k.toNat).toNat
      · rw [if_pos hn] at h; simp at h
      · rw [if_neg hn] at h
        simp only [Option.some.injEq, Prod.mk.injEq] at h
        obtain ⟨rfl, rfl⟩ := h
        have hw8 : (widthB k.toNat).toNat ≤ 8 := by unfold widthB; split <;> (try split) <;> (try split) <;> decide
        obtain ⟨t1, t2⟩ := told_be _ ((r.extract 0 (widthB k.toNat).toNat).data.toList) (by rw [ex_take, List.length_take, ← hrs]; omega) hw8
        have hp : 256 ^ (widthB k.toNat).toNat ≤ 256 ^ 8 := Nat.pow_le_pow_right (by decide) hw8
        have h8 : (256 : Nat) ^ 8 = 18446744073709551616 := by decide
        refine ⟨be (toldN 0 (r.extract 0 (widthB k.toNat).toNat).data.toList) (widthB k.toNat).toNat, ?_, ?_, ?_, Nat.zero_le _, ex_le _ _ _ (Nat.le_refl _)⟩
        · rw [wr1_num k _ _ _ hk' rfl]; exact if_neg (wr_no rfl t2)
        · rw [t1, ex_take, ex_drop, List.take_append_drop]
        · show toldN 0 _ < _
          omega
    · have e : rd1 k r = some ((0, r), ⟨#[]⟩) := by unfold rd1; rw [if_neg h116, if_neg hk]
      rw [e] at h
      simp only [Option.some.injEq, Prod.mk.injEq] at h
      obtain ⟨rfl, rfl⟩ := h
      exact ⟨r.data.toList, wr1_r k 0 r (by simp [hk]) h116 rfl, by simp, by show 0 < 18446744073709551616; decide, Nat.le_refl _, Nat.zero_le _⟩
theorem wr_rd : ∀ (ks : List UInt8) (r : ByteArray) (fs : List Fld), readL ks r = some fs → wrL ks fs = some r.data.toList ∧ fs.length = ks.length ∧ ∀ p ∈ fs, p.1 < 18446744073709551616 ∧ p.2.size ≤ r.size := by
  intro ks
  induction ks with
  | nil =>
    intro r fs h
    unfold readL at h
    by_cases hr : r.toList = []
    · rw [if_pos hr] at h
      simp only [Option.some.injEq] at h
      subst h
      rw [Lib.toList_data] at hr
      exact ⟨by rw [hr]; rfl, rfl, by simp⟩
    · rw [if_neg hr] at h; simp at h
  | cons k ks ih =>
    intro r fs h
    have e : readL (k :: ks) r = (match rd1 k r with | none => none | some p => (readL ks p.2).map (p.1 :: ·)) := rfl
    rw [e] at h
    cases h1 : rd1 k r with
    | none => rw [h1] at h; simp at h
    | some p =>
      obtain ⟨f, r'⟩ := p
      rw [h1] at h
      dsimp only at h
      cases h2 : readL ks r' with
      | none => rw [h2] at h; simp at h
      | some gs =>
        rw [h2] at h
        simp only [Option.map_some, Option.some.injEq] at h
        subst h
        obtain ⟨i1, i2, i3⟩ := ih r' gs h2
        obtain ⟨a, j1, j2, j3, j4, j5⟩ := wr_rd1 h1
        refine ⟨?_, by simp [i2], ?_⟩
        · show (match wr1 k f with | none => none | some a => (wrL ks gs).map (a ++ ·)) = _
          rw [j1, i1]
          simp [← j2]
        · intro p hp
          rcases List.mem_cons.1 hp with rfl | hp
          · exact ⟨j3, j4⟩
          · exact ⟨(i3 p hp).1, Nat.le_trans (i3 p hp).2 j5⟩
/-- What is read is written as just these bytes. -/
theorem write_read {ks : List UInt8} {r : ByteArray} {fs : List Fld} (h : readF ks r = some fs) : writeL ks fs = some r.data.toList ∧ fs.length = ks.length ∧ ∀ p ∈ fs, p.1 < 18446744073709551616 ∧ p.2.size ≤ r.size := by
  unfold readF at h
  by_cases hr : rightL ks = true
  · rw [if_pos hr] at h
    obtain ⟨h1, h2, h3⟩ := wr_rd ks r fs h
    exact ⟨by rw [writeL_yes hr h2.symm]; exact h1, h2, h3⟩
  · rw [if_neg hr] at h; simp at h
end Go.Proofs.YtoblhikablbapaaDoor
