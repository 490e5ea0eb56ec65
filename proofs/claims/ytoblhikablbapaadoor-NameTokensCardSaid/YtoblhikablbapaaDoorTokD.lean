/- sums: Raw: the walk. -/
import Derived.Test.YtoblhikablbapaaDoorTokC
namespace Go.Proofs.YtoblhikablbapaaDoor
set_option linter.unusedVariables false
set_option maxRecDepth 100000
set_option maxHeartbeats 1000000
open Go.RowKit
theorem pair_at {s : ByteArray} {k : Nat} (h : 2 * k + 1 < s.size) : ∃ x y, s[2 * k]? = some x ∧ s[2 * k + 1]? = some y ∧ s.data.toList.take (2 * (k + 1)) = s.data.toList.take (2 * k) ++ [x, y] ∧ ∃ r, s.data.toList = s.data.toList.take (2 * k) ++ x :: y :: r := by
  obtain ⟨x, hx, h1⟩ := byte_at (s := s) (k := 2 * k) (by omega)
  obtain ⟨y, hy, h2⟩ := byte_at (s := s) (k := 2 * k + 1) h
  have h3 : s.data.toList.take (2 * (k + 1)) = s.data.toList.take (2 * k) ++ [x, y] := by
    rw [show 2 * (k + 1) = 2 * k + 1 + 1 by omega, h2, h1]; simp
  refine ⟨x, y, hx, hy, h3, s.data.toList.drop (2 * (k + 1)), ?_⟩
  have := List.take_append_drop (2 * (k + 1)) s.data.toList
  rw [h3] at this
  simpa using this.symm
theorem numV_lt (c : UInt8) : numV c < 16 := by
  unfold numV
  cases h : valC c with
  | none => decide
  | some x => exact val_lt h
theorem raw2_num {x y : UInt8} (hx : (valC x).isSome = true) (hy : (valC y).isSome = true) : raw2 x y = some (UInt8.ofNat (16 * numV x + numV y)) := by
  obtain ⟨a, ha⟩ := Option.isSome_iff_exists.1 hx
  obtain ⟨b, hb⟩ := Option.isSome_iff_exists.1 hy
  unfold raw2 numV
  rw [ha, hb]; rfl
theorem raw2_no {x y : UInt8} (h : (valC x).isSome = false ∨ (valC y).isSome = false) : raw2 x y = none := by
  unfold raw2
  rcases h with h | h
  · rw [Option.isSome_eq_false_iff, Option.isNone_iff_eq_none] at h; rw [h]
  · rw [Option.isSome_eq_false_iff, Option.isNone_iff_eq_none] at h; rw [h]
    cases valC x <;> rfl
theorem rawL_two {x y : UInt8} {r : List UInt8} : rawL (x :: y :: r) = match raw2 x y with
    | some c => (rawL r).map (c :: ·)
    | none => none := by rfl
def rawV (o : Option (List UInt8)) : Value := match o with
  | some p => .tuple #[.string ⟨p.toArray⟩, .bool true]
  | none => .tuple #[.string ⟨#[]⟩, .bool false]
theorem rawV_none {o : Option (List UInt8)} (h : o = none) : rawV o = .tuple #[.string ⟨#[]⟩, .bool false] := by rw [h]; rfl
theorem rawV_some {o : Option (List UInt8)} {p : List UInt8} (h : o = some p) : rawV o = .tuple #[.string ⟨p.toArray⟩, .bool true] := by rw [h]; rfl
def RawRel (w : World) (s : ByteArray) (n : Nat) (g : Nat) (s20 : Value) (wr : World) : Prop :=
  ∃ k p, g = n - k ∧ k ≤ n ∧ s20 = .int .i64 k ∧ rawL (s.data.toList.take (2 * k)) = some p ∧ p.length = k ∧ wr.ownsRow w.heap.size 5 1 (.slice (some ⟨w.heap.size, 0, none⟩) n n) n (bytesV p ++ List.replicate (n - k) (.int .u8 0)) ∧ Below w.heap.size w wr
theorem row_set (p : List UInt8) (n : Nat) (c : UInt8) (h : p.length < n) : (bytesV p ++ List.replicate (n - p.length) (Value.int .u8 0)).set p.length (.int .u8 (c.toNat : Int)) = bytesV (p ++ [c]) ++ List.replicate (n - (p.length + 1)) (.int .u8 0) := by
  have e : bytesV p = (bytesV p) := rfl
  have hl : (bytesV p).length = p.length := by simp [bytesV]
  rw [List.set_append_right _ _ (by omega), hl, Nat.sub_self]
  obtain ⟨m, hm⟩ : ∃ m, n - p.length = m + 1 := ⟨n - p.length - 1, by omega⟩
  rw [hm, show n - (p.length + 1) = m by omega, List.replicate_succ, List.set_cons_zero]
  simp [bytesV]
theorem Raw_c (s : ByteArray) (w : World) (hs : s.size ≤ 1000000) :
    Calls Tryd.prog 71 #[.string s] w fun e w' => e = .returned (rawV (rawL s.data.toList)) ∧ Below w.heap.size w w' := by
  by_cases hodd : s.size % 2 = 1
  · have HE := Lib.hid (show rawL s.data.toList = none by
      cases h : rawL s.data.toList with
      | none => rfl
      | some p => have := raw_even _ _ h; rw [← Lib.size_eq] at this; omega)
    have h1 : ((s.size : Int) % 2 == 1) = true := by simp; omega
    clear hodd
    go_enter Tryd.func71, Tryd.ntmps71
    go_wp2_with fail
    go_ret2
    exact ⟨by rw [rawV_none HE.out]; rfl, Below.refl _ _⟩
  obtain ⟨n, hn⟩ : ∃ n, s.size = 2 * n := ⟨s.size / 2, by omega⟩
  have h1 : ((s.size : Int) % 2 == 1) = false := by simp; omega
  have h2 : (s.size : Int) / 2 = (n : Int) := by omega
  have hn5 : n ≤ 500000 := by omega
  obtain ⟨j0, hj, hz0, hz1, hz2⟩ := info_parts infoB
  obtain ⟨w1, hr, ho, hg⟩ := run_makeSlice_full (P := Tryd.prog) w w.heap.size 62 5 j0 _ 1 Tryd.underlying62 hj hz0 hz1 .i64 .i64 n (by omega) (by rw [hz2]; omega) (by unfold maxLen; omega) (Nat.le_refl _)
  have HR0 : Hid (RawRel w s n n (.int .i64 0) w1) := Lib.hid ⟨0, [], rfl, Nat.zero_le _, rfl, rfl, rfl, by
    rw [show (Value.int .u8 0).cells = #[Value.int .u8 0] from rfl, toList_madeCells_one] at ho
    simpa [bytesV] using ho, (Below.refl _ _).grown hg (Nat.le_refl _) (fun _ e => by cases e)⟩
  have HS := Lib.hid hn
  have lw1 : w.heap.size < w1.heap.size := (ho.lt _ rfl).2
  clear ho hg hodd hj hz0 hz1 hz2 hn
  go_enter Tryd.func71, Tryd.ntmps71
  go_wp2_with fail
  go_loopg [20] n (fun g s20 wr => RawRel w s n g s20 wr)
  case atStart => exact HR0.out
  case round =>
    obtain ⟨k, p, rfl, hk, rfl, hp, rfl, ho, hb⟩ := hrel
    clear HR0 hr
    have HO := Lib.hid ho
    have HB := Lib.hid hb
    have HP := Lib.hid hp
    clear ho hb hp
    by_cases hlt : p.length < n
    · obtain ⟨x, y, hx, hy, ht, r, hsr⟩ := pair_at (s := s) (k := p.length) (by rw [HS.out]; omega)
      have HRW := Lib.hid (show rawL s.data.toList = (rawL (x :: y :: r)).map (p ++ ·) by rw [hsr]; exact raw_split _ _ _ HP.out)
      have HTK := Lib.hid (show rawL (s.data.toList.take (2 * (p.length + 1))) = (rawL [x, y]).map (p ++ ·) by rw [ht]; exact raw_split _ _ _ HP.out)
      have i1 : ∀ w, (Instr.index 9 (.string s) (.int .i64 (2 * (p.length : Int)))).run Tryd.prog w = .ok (.int .u8 (x.toNat : Int)) w := fun w => by
        have := run_index_str (P := Tryd.prog) 9 s (2 * p.length) x Tryd.underlying9 hx w
        rwa [show ((2 * p.length : Nat) : Int) = 2 * (p.length : Int) by omega] at this
      have i2 : ∀ w, (Instr.index 9 (.string s) (.int .i64 (2 * (p.length : Int) + 1))).run Tryd.prog w = .ok (.int .u8 (y.toNat : Int)) w := fun w => by
        have := run_index_str (P := Tryd.prog) 9 s (2 * p.length + 1) y Tryd.underlying9 hy w
        rwa [show ((2 * p.length + 1 : Nat) : Int) = 2 * (p.length : Int) + 1 by omega] at this
      have N1 := Lib.hid (fun w => Number_c x w)
      have N2 := Lib.hid (fun w => Number_c y w)
      have l1 := numV_lt x
      have l2 := numV_lt y
      clear hx hy ht hsr
      cases hvx : (valC x).isSome
      · have HN := Lib.hid (show rawL s.data.toList = none by rw [HRW.out, rawL_two, raw2_no (.inl hvx)]; rfl)
        rw [hvx] at N1
        clear hvx
        generalize numV x = a at *
        generalize numV y = b at *
        generalize (valC y).isSome = q at *
        go_wp2_with fail
        refine (N1.out _).mono ?_
        rintro e w2 ⟨rfl, rfl⟩
        go_wp2_with fail
        refine (N2.out _).mono ?_
        rintro e w3 ⟨rfl, rfl⟩
        go_wp2_with fail
        go_ret2
        exact ⟨by rw [rawV_none HN.out]; rfl, HB.out⟩
      cases hvy : (valC y).isSome
      · have HN := Lib.hid (show rawL s.data.toList = none by rw [HRW.out, rawL_two, raw2_no (.inr hvy)]; rfl)
        rw [hvx] at N1
        rw [hvy] at N2
        clear hvx hvy
        generalize numV x = a at *
        generalize numV y = b at *
        go_wp2_with fail
        refine (N1.out _).mono ?_
        rintro e w2 ⟨rfl, rfl⟩
        go_wp2_with fail
        refine (N2.out _).mono ?_
        rintro e w3 ⟨rfl, rfl⟩
        go_wp2_with fail
        go_ret2
        exact ⟨by rw [rawV_none HN.out]; rfl, HB.out⟩
      · have hc2 := raw2_num hvx hvy
        have HTK2 := Lib.hid (show rawL (s.data.toList.take (2 * (p.length + 1))) = some (p ++ [UInt8.ofNat (16 * numV x + numV y)]) by rw [HTK.out, rawL_two, hc2]; rfl)
        have hcv : (16 * (numV x : Int) + (numV y : Int)) = ((UInt8.ofNat (16 * numV x + numV y)).toNat : Int) := by rw [UInt8.toNat_ofNat']; omega
        have HST := Lib.hid ((HO.out).stored p.length (.int .u8 ((UInt8.ofNat (16 * numV x + numV y)).toNat : Int)))
        rw [hvx] at N1
        rw [hvy] at N2
        have c1 : wr.cell? ⟨w.heap.size, p.length, none⟩ = some (.int .u8 0) := by
          have := (HO.out).cellAt p.length (by omega)
          rw [this, List.getElem?_append_right (by simp [bytesV]), show (bytesV p).length = p.length by simp [bytesV], Nat.sub_self, List.getElem?_replicate, if_pos (by omega)]
        have f1 := (HO.out).frozenAt p.length
        have HCV := Lib.hid hcv
        clear hvx hvy hc2 hcv
        generalize UInt8.ofNat (16 * numV x + numV y) = c at *
        generalize numV x = a at *
        generalize numV y = b at *
        go_wp2_with fail
        refine (N1.out _).mono ?_
        rintro e w2 ⟨rfl, rfl⟩
        go_wp2_with fail
        refine (N2.out _).mono ?_
        rintro e w3 ⟨rfl, rfl⟩
        go_wp2_with fail
        go_roundg (n - (p.length + 1))
        case measure => omega
        case rel =>
          refine ⟨p.length + 1, p ++ [c], rfl, by omega, by simp, HTK2.out, by simp, ?_, ?_⟩
          · have := HST.out.1
            rw [row_set p n c hlt] at this
            rw [HCV.out]
            exact this
          · exact (HB.out).setCell (Nat.le_refl _) _
    · obtain rfl : n = p.length := by omega
      have ho := HO.out
      rw [Nat.sub_self, List.replicate_zero, List.append_nil] at ho
      have hcv := conv_row ho
      have HE := Lib.hid (show rawL s.data.toList = some p by
        have := HP.out
        rwa [← HS.out, Lib.size_eq, List.take_length] at this)
      clear ho hlt
      go_wp2_with fail
      go_ret2
      exact ⟨by rw [rawV_some HE.out]; rfl, HB.out⟩
end Go.Proofs.YtoblhikablbapaaDoor
