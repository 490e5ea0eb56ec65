/- pack: Few, Same; the reference's Told, Right, Cut: walks. -/
import Derived.Test.YtoblhikablbapaaDoorPackB
namespace Go.Proofs.YtoblhikablbapaaDoor
set_option linter.unusedVariables false
open Go.RowKit

theorem wrap_add_byte (n c : Nat) (hc : c < 256) : IntKind.u64.wrap (IntKind.u64.wrap ((n : Int) * 256) + (c : Int)) = ((n * 256 % 18446744073709551616 + c : Nat) : Int) := by
  have e : IntKind.u64.wrap ((n : Int) * 256) = ((n * 256 % 18446744073709551616 : Nat) : Int) := by
    simp [IntKind.wrap, IntKind.bits, IntKind.signed]
  rw [e]
  have h : n * 256 % 18446744073709551616 + c < 18446744073709551616 := by omega
  have : IntKind.u64.wrap (((n * 256 % 18446744073709551616 + c : Nat) : Int)) = ((n * 256 % 18446744073709551616 + c : Nat) : Int) := by
    simp only [IntKind.wrap, IntKind.bits, IntKind.signed]
    simp
    omega
  rw [← this]; simp
def RToldRel (s : ByteArray) (w : World) (g : Nat) (s3 s4 : Value) (wr : World) : Prop :=
  ∃ k, g = s.size - k ∧ k ≤ s.size ∧ s3 = .int .u64 (toldN 0 (s.data.toList.take k)) ∧ s4 = .int .i64 k ∧ w = wr
set_option maxHeartbeats 400000 in
theorem RTold_c (s : ByteArray) (w : World) (hs : s.size ≤ 1000000000) :
    Calls Tryd.prog 62 #[.string s] w fun e w' => e = .returned (.int .u64 (toldN 0 s.data.toList)) ∧ w = w' := by
  go_enter Tryd.func62, Tryd.ntmps62
  go_wp2_with fail
  go_loopg [3, 4] s.size (fun g s3 s4 wr => RToldRel s w g s3 s4 wr)
  case atStart => exact ⟨0, by omega, Nat.zero_le _, rfl, rfl, rfl⟩
  case round =>
    obtain ⟨k, rfl, hk, rfl, rfl, rfl⟩ := hrel
    by_cases hlt : k < s.size
    · have n1 := toldN_lt 0 (by decide) (s.data.toList.take k)
      have c2 : s[k].toNat < 256 := s[k].toNat_lt
      have HS := Lib.hid (told_step s k hlt)
      have HC := Lib.hid c2
      generalize toldN 0 (s.data.toList.take k) = n at *
      go_wp2_with fail
      go_roundg (s.size - (k + 1))
      case measure => omega
      case rel => exact ⟨k + 1, rfl, by omega, by rw [HS.out]; exact congrArg _ (wrap_add_byte n _ HC.out), by simp, rfl⟩
    · obtain rfl : k = s.size := by omega
      go_wp2_with fail
      go_ret
      exact ⟨ret_u64 (by rw [List.take_of_length_le (by simp)]), rfl⟩

/-! The reference's Right. -/
def kindOk (c : UInt8) : Prop := kindB c = true
theorem rightL_step {l : List UInt8} {k : Nat} (h : k < l.length) : rightL (l.drop k) = (if kindB l[k] = true then rightL (l.drop (k + 1)) else (l[k] == 114) && (l.drop (k + 1)).isEmpty) := by
  rw [List.drop_eq_getElem_cons h]
  cases hr : l.drop (k + 1) with
  | nil => cases hk : kindB l[k] <;> simp [rightL, hk]
  | cons d r =>
    rw [rightL_cons (by simp)]
    cases hk : kindB l[k] <;> simp
theorem kind_width (c : UInt8) : kindB c = (!(widthB (c.toNat : Int) == 0) || ((c.toNat : Int) == 116)) := by
  have h : ∀ n : Nat, n < 256 → kindB (UInt8.ofNat n) = (!(widthB (n : Int) == 0) || ((n : Int) == 116)) := by decide +kernel
  have := h c.toNat c.toNat_lt
  rwa [UInt8.ofNat_toNat] at this
def RRightRel (s : ByteArray) (w : World) (g : Nat) (s3 : Value) (wr : World) : Prop :=
  ∃ k, g = s.size - k ∧ k ≤ s.size ∧ s3 = .int .i64 k ∧ rightL s.data.toList = rightL (s.data.toList.drop k) ∧ w = wr
theorem u8_eq_toNat (c : UInt8) (n : Nat) (hn : n < 256) : ((c.toNat : Int) == (n : Int)) = (c == UInt8.ofNat n) := by
  rw [Bool.eq_iff_iff]; simp only [beq_iff_eq]
  constructor
  · intro h
    have : c.toNat = n := by omega
    rw [← this, UInt8.ofNat_toNat]
  · intro h; rw [h, UInt8.toNat_ofNat']; omega
set_option maxHeartbeats 1000000 in
theorem RRight_c (s : ByteArray) (w : World) (hs : s.size ≤ 1000000000) :
    Calls Tryd.prog 18 #[.string s] w fun e w' => e = .returned (.bool (rightL s.data.toList)) ∧ w = w' := by
  go_enter Tryd.func18, Tryd.ntmps18
  go_wp2_with fail
  go_loopg [3] s.size (fun g s3 wr => RRightRel s w g s3 wr)
  case atStart => exact ⟨0, by omega, Nat.zero_le _, rfl, rfl, rfl⟩
  case round =>
    obtain ⟨k, rfl, hk, rfl, hr, rfl⟩ := hrel
    by_cases hlt : k < s.size
    · have hl : k < s.data.toList.length := by simpa using hlt
      have hst := rightL_step hl
      have hkw := kind_width s.data.toList[k]
      have hlast : (s.data.toList.drop (k + 1)).isEmpty = ((k : Int) == (s.size : Int) - 1) := by
        rw [Bool.eq_iff_iff, List.isEmpty_iff, List.drop_eq_nil_iff]
        have : s.data.toList.length = s.size := by simp
        simp only [beq_iff_eq]; omega
      have hge : s.data.toList[k] = s[k] := by simp; rfl
      rw [hlast] at hst
      rw [hge] at hst hkw
      have HR := Lib.hid hr
      generalize hc : s[k] = c at *
      have HC := Lib.hid hc
      have hcase : (∃ q1 q2 q3 q4 : Bool, (widthB (c.toNat : Int) == 0) = q1 ∧ ((c.toNat : Int) == 116) = q2 ∧ ((c.toNat : Int) == 114) = q3 ∧ ((k : Int) == (s.size : Int) - 1) = q4) := ⟨_, _, _, _, rfl, rfl, rfl, rfl⟩
      obtain ⟨q1, q2, q3, q4, g1, g2, g3, g4⟩ := hcase
      have g5 : ((c.toNat : Int) != 116) = !q2 := by rw [← g2]; rfl
      rw [g1, g2] at hkw
      have h114 : ((c.toNat : Int) == 114) = (c == 114) := u8_eq_toNat c 114 (by decide)
      have h3' : (c == 114) = q3 := by rw [← h114]; exact g3
      rw [hkw, h3', g4] at hst
      cases q1
      · have HE := Lib.hid (show rightL s.data.toList = rightL (s.data.toList.drop (k + 1)) by rw [hr, hst]; simp)
        clear hr hst hkw hlast h114 hge HR g2 g3 g4 g5 h3'
        go_wp2_with (go_at_call 57; refine (RWidth_c _ _).mono ?_; rintro e w1 ⟨rfl, rfl⟩)
        go_roundg (s.size - (k + 1))
        case measure => omega
        case rel => exact ⟨k + 1, rfl, by omega, by simp, HE.out, rfl⟩
      · cases q2
        · cases q3
          · have HE := Lib.hid (show rightL s.data.toList = false by rw [hr, hst]; simp)
            clear hr hst hkw hlast h114 hge HR g4 h3'
            go_wp2_with (go_at_call 57; refine (RWidth_c _ _).mono ?_; rintro e w1 ⟨rfl, rfl⟩)
            go_ret
            exact ⟨ret_bool HE.out.symm, rfl⟩
          · cases q4
            · have HE := Lib.hid (show rightL s.data.toList = false by rw [hr, hst]; simp)
              clear hr hst hkw hlast h114 hge HR h3'
              go_wp2_with (go_at_call 57; refine (RWidth_c _ _).mono ?_; rintro e w1 ⟨rfl, rfl⟩)
              go_ret
              exact ⟨ret_bool HE.out.symm, rfl⟩
            · have HE := Lib.hid (show rightL s.data.toList = rightL (s.data.toList.drop (k + 1)) by
                rw [hr, hst]
                have : s.data.toList.drop (k + 1) = [] := by rw [← List.isEmpty_iff, hlast, g4]
                rw [this]; simp [rightL])
              clear hr hst hkw hlast h114 hge HR h3'
              go_wp2_with (go_at_call 57; refine (RWidth_c _ _).mono ?_; rintro e w1 ⟨rfl, rfl⟩)
              go_roundg (s.size - (k + 1))
              case measure => omega
              case rel => exact ⟨k + 1, rfl, by omega, by simp, HE.out, rfl⟩
        · have HE := Lib.hid (show rightL s.data.toList = rightL (s.data.toList.drop (k + 1)) by rw [hr, hst]; simp)
          clear hr hst hkw hlast h114 hge HR g3 g4 h3'
          go_wp2_with (go_at_call 57; refine (RWidth_c _ _).mono ?_; rintro e w1 ⟨rfl, rfl⟩)
          go_roundg (s.size - (k + 1))
          case measure => omega
          case rel => exact ⟨k + 1, rfl, by omega, by simp, HE.out, rfl⟩
    · obtain rfl : k = s.size := by omega
      have HR := Lib.hid hr
      clear hr
      go_wp2_with fail
      go_ret
      exact ⟨ret_bool (by rw [HR.out, List.drop_eq_nil_of_le (by simp)]; rfl), rfl⟩

/-! The reference's Cut. -/
theorem cutL_step (l : List UInt8) (k : Nat) (h : k < l.length) (pre : cutL l = (cutL (l.drop k)).map fun p => (l.take k ++ p.1, p.2)) :
    (l[k] = 0 → cutL l = some (l.take k, l.drop (k + 1))) ∧ (l[k] ≠ 0 → cutL l = (cutL (l.drop (k + 1))).map fun p => (l.take (k + 1) ++ p.1, p.2)) := by
  have e : cutL (l[k] :: l.drop (k + 1)) = if l[k] = 0 then some ([], l.drop (k + 1)) else (cutL (l.drop (k + 1))).map fun p => (l[k] :: p.1, p.2) := rfl
  rw [List.drop_eq_getElem_cons h, e] at pre
  constructor
  · intro h0
    rw [if_pos h0] at pre
    simpa using pre
  · intro h0
    rw [if_neg h0] at pre
    rw [pre]
    cases cutL (l.drop (k + 1)) with
    | none => rfl
    | some q =>
      simp only [Option.map_some, Option.some.injEq, Prod.mk.injEq, and_true]
      rw [List.take_succ_eq_append_getElem h, List.append_assoc]; rfl
def RCutRel (s : ByteArray) (w : World) (g : Nat) (s5 : Value) (wr : World) : Prop :=
  ∃ k, g = s.size - k ∧ k ≤ s.size ∧ s5 = .int .i64 k ∧ cutL s.data.toList = (cutL (s.data.toList.drop k)).map (fun p => (s.data.toList.take k ++ p.1, p.2)) ∧ w = wr
theorem cutVal_some {l : List UInt8} {p : List UInt8 × List UInt8} (h : cutL l = some p) : cutVal l = .tuple #[.string ⟨p.1.toArray⟩, .string ⟨p.2.toArray⟩, .bool true] := by unfold cutVal; rw [h]
theorem cutVal_none {l : List UInt8} (h : cutL l = none) : cutVal l = .tuple #[.string ⟨#[]⟩, .string ⟨#[]⟩, .bool false] := by unfold cutVal; rw [h]
set_option maxHeartbeats 1000000 in
theorem RCut_c (s : ByteArray) (w : World) (hs : s.size ≤ 1000000000) :
    Calls Tryd.prog 25 #[.string s] w fun e w' => e = .returned (cutVal s.data.toList) ∧ Below w.heap.size w w' := by
  go_enter Tryd.func25, Tryd.ntmps25
  go_wp2_with fail
  go_loopg [5] s.size (fun g s5 wr => RCutRel s w g s5 wr)
  case atStart => exact ⟨0, by omega, Nat.zero_le _, rfl, by simp, rfl⟩
  case round =>
    obtain ⟨k, rfl, hk, rfl, hr, rfl⟩ := hrel
    by_cases hlt : k < s.size
    · have hl : k < s.data.toList.length := by simpa using hlt
      obtain ⟨c1, c2⟩ := cutL_step _ k hl hr
      have hge : s.data.toList[k] = s[k] := by simp; rfl
      rw [hge] at c1 c2
      have h0 : ((s[k].toNat : Int) == 0) = (s[k] == 0) := u8_eq_toNat s[k] 0 (by decide)
      clear hr hge
      by_cases hz : s[k] = 0
      · have q1 : ((s[k].toNat : Int) == 0) = true := by rw [h0, hz]; rfl
        have HE := Lib.hid (show cutVal s.data.toList = .tuple #[.string (s.extract 0 k), .string (s.extract (k + 1) s.size), .bool true] by rw [cutVal_some (c1 hz), extract_take, extract_drop])
        clear c1 c2 h0 hz
        go_wp2_with fail
        go_region
        all_goals
          go_wp2
          go_ret3
          exact ⟨by rw [HE.out]; rfl, (Below.refl _ _).drew⟩
      · have q1 : ((s[k].toNat : Int) == 0) = false := by rw [h0]; simpa using hz
        have HE := Lib.hid (c2 hz)
        clear c1 c2 h0 hz
        go_wp2_with fail
        go_roundg (s.size - (k + 1))
        case measure => omega
        case rel => exact ⟨k + 1, rfl, by omega, by simp, HE.out, rfl⟩
    · obtain rfl : k = s.size := by omega
      have HE := Lib.hid (cutVal_none (l := s.data.toList) (by rw [hr, List.drop_eq_nil_of_le (by simp)]; rfl))
      clear hr
      go_wp2_with fail
      go_ret3
      exact ⟨by rw [HE.out]; rfl, Below.refl _ _⟩

/-! Fields. -/
abbrev Fld := Nat × ByteArray
def fcells (l : List Fld) : List Value := l.flatMap fun p => [.int .u64 p.1, .string p.2]
/-- A slice of fields, as it reads in a world. -/
def FldsAt (w : World) (v : Value) (l : List Fld) : Prop :=
  (∃ a cap, v = .slice a l.length cap ∧ ∀ k, (h : k < l.length) → ∃ b off, a = some ⟨b, off, none⟩ ∧ w.cell? ⟨b, off + k * 2, none⟩ = some (.int .u64 l[k].1) ∧ w.cell? ⟨b, off + k * 2 + 1, none⟩ = some (.string l[k].2) ∧ b < w.heap.size) ∧
    ∀ p ∈ l, p.1 < 18446744073709551616
theorem FldsAt.get {w : World} {a : Option Addr} {n cap : Nat} {l : List Fld} (h : FldsAt w (.slice a n cap) l) (k : Nat) (hk : k < l.length) :
    ∃ b off, a = some ⟨b, off, none⟩ ∧ w.cell? ⟨b, off + k * 2, none⟩ = some (.int .u64 l[k].1) ∧ w.cell? ⟨b, off + k * 2 + 1, none⟩ = some (.string l[k].2) ∧ b < w.heap.size := by
  obtain ⟨⟨a', c', e, hc⟩, _⟩ := h
  cases e
  exact hc k hk
theorem FldsAt.form {w : World} {v : Value} {l : List Fld} (h : FldsAt w v l) : ∃ a cap, v = .slice a l.length cap := by
  obtain ⟨⟨a, c, e, _⟩, _⟩ := h; exact ⟨a, c, e⟩
theorem FldsAt.below {w w' : World} {v : Value} {l : List Fld} (h : FldsAt w v l) (hb : Below w.heap.size w w') : FldsAt w' v l := by
  obtain ⟨⟨a, c, rfl, hc⟩, hn⟩ := h
  refine ⟨⟨a, c, rfl, fun k hk => ?_⟩, hn⟩
  obtain ⟨b, off, e, h1, h2, h3⟩ := hc k hk
  exact ⟨b, off, e, (hb.cell (p := ⟨b, off + k * 2, none⟩) h3).trans h1, (hb.cell (p := ⟨b, off + k * 2 + 1, none⟩) h3).trans h2, Nat.lt_of_lt_of_le h3 hb.size⟩
def fewB (l : List Fld) : Bool := decide (l.length ≤ 20) && l.all (fun p => decide (p.2.size ≤ 300))
def FewRel (w : World) (l : List Fld) (g : Nat) (s10 : Value) (wr : World) : Prop :=
  ∃ k, g = l.length - k ∧ k ≤ l.length ∧ s10 = .int .i64 k ∧ (∀ p ∈ l.take k, p.2.size ≤ 300) ∧ Below w.heap.size w wr
set_option maxHeartbeats 400000 in
theorem Few_c (v : Value) (l : List Fld) (w : World) (h : FldsAt w v l) :
    Calls Tryd.prog 14 #[v] w fun e w' => e = .returned (.bool (fewB l)) ∧ Below w.heap.size w w' := by
  have HF := Lib.hid h
  obtain ⟨a, cap, rfl⟩ := h.form
  clear h
  by_cases h20 : l.length ≤ 20
  · go_enter Tryd.func14, Tryd.ntmps14
    go_wp2_with fail
    go_loopg [10] l.length (fun g s10 wr => FewRel w l g s10 wr)
    case atStart => exact ⟨0, by omega, Nat.zero_le _, rfl, by simp, Below.refl _ _⟩
    case round =>
      obtain ⟨k, rfl, hk, rfl, hall, hb⟩ := hrel
      by_cases hlt : k < l.length
      · obtain ⟨b, off, rfl, c1, c2, hbl⟩ := (HF.out).get k hlt
        have c1 := (hb.cell (p := ⟨b, off + k * 2, none⟩) hbl).trans c1
        have c2 := (hb.cell (p := ⟨b, off + k * 2 + 1, none⟩) hbl).trans c2
        have Hb := Lib.hid hb
        have HA := Lib.hid hall
        have HK := Lib.hid (show ∀ x ∈ l.take (k + 1), x ∈ l.take k ∨ x = l[k] from fun x hx => by rw [List.take_succ_eq_append_getElem hlt] at hx; rcases List.mem_append.1 hx with h | h; exact .inl h; exact .inr (by simpa using h))
        have HM := Lib.hid (List.getElem_mem hlt)
        clear hb hall
        generalize l[k] = p at *
        by_cases h300 : p.2.size ≤ 300
        · go_wp2_with fail
          go_roundg (l.length - (k + 1))
          case measure => omega
          case rel => exact ⟨k + 1, rfl, by omega, by simp, fun x hx => (HK.out x hx).elim (HA.out x) (fun e => e ▸ h300), (Hb.out).alloc (Hb.out).size _⟩
        · have HE := Lib.hid (show fewB l = false by
            simp only [fewB, Bool.and_eq_false_iff]; right
            rw [List.all_eq_false]; exact ⟨p, HM.out, by simpa using h300⟩)
          go_wp2_with fail
          go_ret
          exact ⟨ret_bool HE.out.symm, (Hb.out).alloc (Hb.out).size _⟩
      · obtain rfl : k = l.length := by omega
        have HE := Lib.hid (show fewB l = true by
          rw [List.take_length] at hall
          simp only [fewB, Bool.and_eq_true, decide_eq_true_eq, List.all_eq_true]
          exact ⟨h20, hall⟩)
        have Hb := Lib.hid hb
        clear hall hb
        go_wp2_with fail
        go_ret
        exact ⟨ret_bool HE.out.symm, Hb.out⟩
  · have HE := Lib.hid (show fewB l = false by simp [fewB, h20])
    go_enter Tryd.func14, Tryd.ntmps14
    go_wp2_with fail
    go_ret
    exact ⟨ret_bool HE.out.symm, Below.refl _ _⟩
end Go.Proofs.YtoblhikablbapaaDoor
