/- Parts of the proof of ChunksTexts, joined: SumF, ChkU, ChkV, ChkW, ChkT, Iter, TxtP, TxtL. No condition. -/
import Derived.Test.YtdcjhpafipbpkaaGreatDoorCk11
import Derived.Lib.Strings
import Derived.Maps.RangeRun
set_option linter.unusedSimpArgs false
set_option linter.unusedVariables false
set_option linter.unusedSectionVars false
namespace Go.Proofs.YtdcjhpafipbpkaaGreatDoor
set_option linter.unusedVariables false
set_option maxRecDepth 100000
set_option maxHeartbeats 2000000
open Go.RowKit
theorem strIdx {P : Program} (t : TypeId) (s : ByteArray) (k : Nat) (d : UInt8) (ht : P.underlying t = some .string) (h : s[k]? = some d) (w : World) :
    (Instr.index t (.string s) (.int .i64 (k : Int))).run P w = .ok (.int .u8 (d.toNat : Int)) w := by
  simp [Instr.index, asIntOf, run_underlying ht, h]
theorem byteL_at {s : ByteArray} {k : Nat} (h : k < s.size) : ∃ c : UInt8, s[k]? = some c ∧ (byteL s).take (k + 1) = (byteL s).take k ++ [c.toNat] := by
  have hl : k < s.data.toList.length := by rw [← Lib.size_eq]; exact h
  refine ⟨s.data.toList[k], by rw [getElem?_pos _ k h]; rfl, ?_⟩
  unfold byteL
  rw [List.take_succ_eq_append_getElem (by simpa using hl)]
  simp
theorem rep_puts (p : Pn) (m : Nat) : p.puts (List.replicate (m + 1) 0) = (p.puts (List.replicate m 0)).put 0 := by
  rw [List.replicate_succ', Pn.puts_snoc]
/-- Zeros are put until 56 bytes stand. -/
theorem puts_n0 : ∀ (m : Nat) (p : Pn), p.n < 64 → (p.puts (List.replicate m 0)).n = (p.n + m) % 64
  | 0, p, h => by show p.n = _; rw [Nat.add_zero, Nat.mod_eq_of_lt h]
  | m + 1, p, h => by
    rw [rep_puts, Pn.put_n, puts_n0 m p h]
    split <;> omega
theorem zeros_stop {n m : Nat} (hn : n < 64) (hm : m ≤ zerosN n) : (n + m) % 64 = 56 ↔ m = zerosN n := by
  unfold zerosN at *; omega
theorem outL_len (h : List Nat) : (outL h).length = 32 := by simp [outL]
theorem outL_take (h : List Nat) (i : Nat) (hi : i < 32) : (outL h).take (i + 1) = (outL h).take i ++ [UInt8.ofNat (h.getD (i / 4) 0 / 2 ^ (24 - i % 4 * 8))] := by
  rw [List.take_succ_eq_append_getElem (by rw [outL_len]; exact hi)]
  simp [outL]
theorem sizeL_take (n j : Nat) (hj : j < 8) : (sizeL n).take (j + 1) = (sizeL n).take j ++ [n * 8 / 2 ^ (56 - 8 * j) % 256] := by
  rw [List.take_succ_eq_append_getElem (by simp [sizeL]; omega)]
  simp [sizeL]
/-- Inside Print: the printer's block alone is changed. -/
def PrAt (w wr : World) (b : Nat) (p : Pn) : Prop := p.Ok ∧ PB wr b p ∧ Below w.heap.size w wr ∧ b = w.heap.size
/-- The row of the fingerprint, as far as it is laid. -/
def outC (h : List Nat) (i : Nat) : List Value := bytesC ((outL h).take i) ++ List.replicate (32 - i) (.int .u8 0)
theorem outC_len (h : List Nat) (i : Nat) (hi : i ≤ 32) : (outC h i).length = 32 := by
  unfold outC bytesC
  rw [List.length_append, List.length_map, List.length_take, outL_len, List.length_replicate]; omega
theorem outC_set (h : List Nat) (i : Nat) (hi : i < 32) : (outC h i).set i (.int .u8 ((UInt8.ofNat (h.getD (i / 4) 0 / 2 ^ (24 - i % 4 * 8))).toNat : Int)) = outC h (i + 1) := by
  have hl : (bytesC ((outL h).take i)).length = i := by unfold bytesC; rw [List.length_map, List.length_take, outL_len]; omega
  unfold outC
  rw [List.set_append_right _ _ (by omega), hl, Nat.sub_self, outL_take h i hi, bytesC_append, show 32 - i = (32 - (i + 1)) + 1 by omega, List.replicate_succ, List.set_cons_zero]
  simp [bytesC]
theorem conv_out (h : List Nat) (W : World) (g : Nat) (hg : W.heap[g]? = some (.cells (outC h 32).toArray 212 (0, 0))) : (convert 91 9 (.slice (some ⟨g, 0, none⟩) 32 32)).run Tryz.prog W = .ok (.string ⟨(outL h).toArray⟩) W := by
  have := run_convert_bytes_arg (P := Tryz.prog) W 91 5 Tryz.underlying91 Tryz.underlying5 g 0 32 32 ((outL h).map fun c => (c.toNat : Int)) (by rw [List.length_map, outL_len]) (fun i hi => by
    rw [Nat.zero_add]
    refine cell_lit hg ?_
    have hi' : i < (outL h).length := by rw [outL_len]; exact hi
    unfold outC bytesC
    rw [List.take_of_length_le (by rw [outL_len]; exact Nat.le_refl _)]
    simp [hi']) 9 Tryz.underlying9
  rw [this]
  congr 2
  apply ByteArray.ext
  simp only [strOfNums, List.map_map]
  rw [show ((fun n : Int => UInt8.ofNat n.toNat) ∘ fun c : UInt8 => (c.toNat : Int)) = id from funext fun c => by simp]
  simp
/-- Where the last loop is. -/
def OutAt (w wr : World) (b ob : Nat) (h : List Nat) (i : Nat) (W : World) : Prop := W.heap[ob]? = some (.cells (outC h i).toArray 212 (0, 0)) ∧ W.heap[b]? = wr.heap[b]? ∧ Below w.heap.size w W ∧ b ≠ ob ∧ w.heap.size ≤ ob
theorem OutAt.facts {w wr W : World} {b ob : Nat} {h : List Nat} {i : Nat} (g : OutAt w wr b ob h i W) (k : Nat) : W.frozen? ⟨ob, k, none⟩ = false ∧ ob < W.heap.size := ⟨frozen_lit g.1 k, lt_of_heap g.1⟩
theorem OutAt.has {w wr W : World} {b ob : Nat} {h : List Nat} {i : Nat} (g : OutAt w wr b ob h i W) (hi : i < 32) : ∃ v, W.cell? ⟨ob, i, none⟩ = some v := by
  have hl : i < (outC h i).length := by rw [outC_len h i (by omega)]; exact hi
  exact ⟨(outC h i)[i], cell_lit g.1 (by rw [List.getElem?_toArray, List.getElem?_eq_getElem hl])⟩
theorem OutAt.bl {w wr W : World} {b ob : Nat} {h : List Nat} {i : Nat} (g : OutAt w wr b ob h i W) (hb : b < wr.heap.size) : b < W.heap.size := by
  have := g.2.1
  rw [Array.getElem?_eq_getElem hb] at this
  exact lt_of_heap this
theorem OutAt.set {w wr W : World} {b ob : Nat} {h : List Nat} {i : Nat} (g : OutAt w wr b ob h i W) (hi : i < 32) (z : Int) (hz : z = ((UInt8.ofNat (h.getD (i / 4) 0 / 2 ^ (24 - i % 4 * 8))).toNat : Int)) : OutAt w wr b ob h (i + 1) (W.setCell ⟨ob, i, none⟩ (.int .u8 z)) := by
  subst hz
  have h1 := heap_set_lit (i := i) g.1 (.int .u8 ((UInt8.ofNat (h.getD (i / 4) 0 / 2 ^ (24 - i % 4 * 8))).toNat : Int))
  rw [List.setIfInBounds_toArray, outC_set h i hi] at h1
  have hu : Upd (fun k => k = ob) W (W.setCell ⟨ob, i, none⟩ (.int .u8 ((UInt8.ofNat (h.getD (i / 4) 0 / 2 ^ (24 - i % 4 * 8))).toNat : Int))) := Upd.setCell (S := fun k => k = ob) (p := ⟨ob, i, none⟩) (Upd.refl _ _) (.inl rfl) _
  exact ⟨h1, (heap_set_ne _ g.2.2.2.1).trans g.2.1, g.2.2.1.trans (hu.below g.2.2.1.size fun k hk e => by have := g.2.2.2.2; omega), g.2.2.2⟩
theorem PrAt.put {w wr w' : World} {b : Nat} {p : Pn} {c : Nat} (h : PrAt w wr b p) (hc : c < 256) (hb : PB w' b (p.put c)) (hu : Upd (fun k => k = b) wr w') : PrAt w w' b (p.put c) :=
  ⟨Pn.put_ok h.1 hc, hb, h.2.2.1.trans (hu.below h.2.2.1.size fun k hk e => by have := h.2.2.2; omega), h.2.2.2⟩
theorem pr_put {w wr : World} {b : Nat} {p : Pn} (h : PrAt w wr b p) (c : Nat) (hc : c < 256) : Calls Tryz.prog 116 #[.pointer (some ⟨b, 0, none⟩), .int .u8 (c : Int)] wr fun e w' => e = .returned (.tuple #[]) ∧ Hid (PrAt w w' b (p.put c)) := by
  refine (pput_c b p c wr h.1 hc h.2.1).mono ?_
  rintro e w' ⟨rfl, hE⟩
  exact ⟨rfl, Lib.hid (h.put hc hE.out.1 hE.out.2)⟩
theorem Print_c (s : ByteArray) (w : World) (hs : s.size ≤ 1000000) :
    Calls Tryz.prog 63 #[.string s] w fun e w' => e = .returned (.string (prB s)) ∧ Hid (Below w.heap.size w w') := by
  obtain ⟨b, hb⟩ : ∃ b, w.heap.size = b := ⟨_, rfl⟩
  have R0 : Hid (∀ W, W = w.alloc (.cells (pnCells pn0.h pn0.W 0).toArray 210) → PrAt w W b (pn0.puts ((byteL s).take 0))) := Lib.hid fun W hW => by
    subst hW
    exact ⟨pn0_ok, by rw [← hb]; exact heap_alloc_new _ _, (Below.refl _ _).alloc (Nat.le_refl _) _, hb.symm⟩
  have HSL := Lib.hid hs
  go_enter Tryz.func63, Tryz.ntmps63
  go_wp2_with fail
  have R1 := Lib.hid (R0.out _ rfl)
  rw [show (pnCells pn0.h pn0.W 0).toArray = #[Value.int IntKind.u32 1779033703, Value.int IntKind.u32 3144134277, Value.int IntKind.u32 1013904242, Value.int IntKind.u32 2773480762, Value.int IntKind.u32 1359893119, Value.int IntKind.u32 2600822924, Value.int IntKind.u32 528734635, Value.int IntKind.u32 1541459225, Value.int IntKind.u32 0, Value.int IntKind.u32 0, Value.int IntKind.u32 0, Value.int IntKind.u32 0, Value.int IntKind.u32 0, Value.int IntKind.u32 0, Value.int IntKind.u32 0, Value.int IntKind.u32 0, Value.int IntKind.u32 0, Value.int IntKind.u32 0, Value.int IntKind.u32 0, Value.int IntKind.u32 0, Value.int IntKind.u32 0, Value.int IntKind.u32 0, Value.int IntKind.u32 0, Value.int IntKind.u32 0, Value.int IntKind.i64 0] from rfl] at R1
  clear R0
  go_loopg [4, 13] s.size (fun g s4 s13 wr => ∃ (i : Nat), g = s.size - i ∧ i ≤ s.size ∧ s13 = .int .i64 (i : Int) ∧ Hid (PrAt w wr b (pn0.puts ((byteL s).take i))))
  case atStart => exact ⟨0, rfl, Nat.zero_le _, rfl, R1⟩
  case round =>
    obtain ⟨i, rfl, hi, rfl, HR⟩ := hrel
    clear R1
    by_cases hlt : i < s.size
    · obtain ⟨c, hc, htk⟩ := byteL_at hlt
      have hidx := fun W => strIdx (P := Tryz.prog) 9 s i c Tryz.underlying9 hc W
      have PT := pr_put HR.out c.toNat c.toNat_lt
      rw [← Pn.puts_snoc, ← htk] at PT
      have HLT := Lib.hid hlt
      have hsm : i ≤ 1000000 := by have := HSL.out; omega
      clear hc htk HR hi
      go_wp2_with fail
      refine PT.mono ?_
      rintro e wa ⟨rfl, HE⟩
      clear PT hidx hlt
      go_wp2_with fail
      go_roundg (s.size - (i + 1))
      case measure => have := HLT.out; omega
      case rel => exact ⟨i + 1, rfl, HLT.out, by congr 1, HE⟩
    · obtain rfl : i = s.size := by omega
      have hA : pn0.puts ((byteL s).take s.size) = pn0.puts (byteL s) := by rw [List.take_of_length_le (by unfold byteL; rw [List.length_map, ← Lib.size_eq]; exact Nat.le_refl _)]
      rw [hA] at HR
      have PT := pr_put HR.out 128 (by decide)
      rw [show (pn0.puts (byteL s)).put 128 = pnA s from rfl, show ((128 : Nat) : Int) = 128 from rfl] at PT
      clear hA HR hlt hi
      go_wp2_with fail
      refine PT.mono ?_
      rintro e wa ⟨rfl, HE⟩
      clear PT
      obtain ⟨z, hz⟩ : ∃ z, zerosN (pnA s).n = z := ⟨_, rfl⟩
      have HZ := Lib.hid hz
      clear hz
      go_wp2_with fail
      go_loopg [] z (fun g wr => ∃ (m : Nat), g = z - m ∧ m ≤ z ∧ Hid (PrAt w wr b ((pnA s).puts (List.replicate m 0))))
      case atStart => exact ⟨0, rfl, Nat.zero_le _, HE⟩
      case round =>
        obtain ⟨m, rfl, hm, HR⟩ := hrel
        clear HE
        have hnA := (pnA_ok s).n
        have cn := HR.out.2.1.cn HR.out.1.wk
        have lb := HR.out.2.1.lt
        rw [puts_n0 m _ hnA] at cn
        have hst := zeros_stop hnA (by rw [HZ.out]; exact hm)
        rw [HZ.out] at hst
        have hP56 : ((((pnA s).n + m) % 64 : Nat) : Int) = 56 ↔ m = z := by rw [← hst]; omega
        by_cases hlt : m < z
        · have PT := pr_put HR.out 0 (by decide)
          rw [← rep_puts, show ((0 : Nat) : Int) = 0 from rfl] at PT
          have hne : ¬ ((((pnA s).n + m) % 64 : Nat) : Int) = 56 := fun h => by have := hP56.1 h; omega
          have HLT := Lib.hid hlt
          clear hP56 hst HR hm hnA hlt
          generalize ((pnA s).n + m) % 64 = nn at *
          go_wp2_with fail
          refine PT.mono ?_
          rintro e wc ⟨rfl, HE⟩
          clear PT cn hne lb
          go_wp2_with fail
          go_roundg (z - (m + 1))
          case measure => have := HLT.out; omega
          case rel => exact ⟨m + 1, rfl, HLT.out, HE⟩
        · obtain rfl : m = z := by omega
          have heq := hP56.2 rfl
          have hB : (pnA s).puts (List.replicate m 0) = pnB s := by rw [← HZ.out]; rfl
          rw [hB] at HR
          have R2 : Hid (PrAt w wr b ((pnB s).puts ((sizeL s.size).take 0))) := Lib.hid HR.out
          clear hP56 hst hB hm hnA hlt HR HZ
          generalize ((pnA s).n + m) % 64 = nn at *
          go_wp2_with fail
          go_loopg [5] 8 (fun g s5 wr => ∃ (j : Nat), g = 8 - j ∧ j ≤ 8 ∧ s5 = .int .i64 (56 - 8 * (j : Int)) ∧ Hid (PrAt w wr b ((pnB s).puts ((sizeL s.size).take j))))
          case atStart => exact ⟨0, rfl, Nat.zero_le _, rfl, R2⟩
          case round =>
            obtain ⟨j, rfl, hj, rfl, HR⟩ := hrel
            clear R2 cn lb heq
            have kc : (s.size : Int) % 18446744073709551616 = (s.size : Int) := by have := HSL.out; omega
            have km : (s.size : Int) * 8 % 18446744073709551616 = (s.size : Int) * 8 := by have := HSL.out; omega
            by_cases hlt : j < 8
            · have PT := pr_put HR.out (s.size * 8 / 2 ^ (56 - 8 * j) % 256) (Nat.mod_lt _ (by decide))
              rw [← Pn.puts_snoc, ← sizeL_take _ _ hlt] at PT
              clear HR hj
              have h8 : j = 0 ∨ j = 1 ∨ j = 2 ∨ j = 3 ∨ j = 4 ∨ j = 5 ∨ j = 6 ∨ j = 7 := by omega
              clear hlt
              obtain ⟨m, hm⟩ : ∃ m, 8 - (j + 1) = m := ⟨_, rfl⟩
              rcases h8 with rfl | rfl | rfl | rfl | rfl | rfl | rfl | rfl
              all_goals (
                go_wp2_with fail
                refine Calls.at_args PT ?_ ?_
                · refine congrArg (fun z : Int => (#[Value.pointer (some ⟨b, 0, none⟩), Value.int .u8 z] : Array Value)) ?_
                  have := HSL.out
                  simp only [Nat.reduceMul, Nat.reduceSub, Nat.reducePow, Nat.reduceAdd]
                  omega
                · rintro e wa ⟨rfl, HE⟩
                  clear PT kc km
                  go_wp2_with fail
                  go_roundg m
                  case measure => omega
                  case rel => exact ⟨_, hm.symm, by decide, rfl, HE⟩)
            · obtain rfl : j = 8 := by omega
              have hC : (pnB s).puts ((sizeL s.size).take 8) = pnC s := by rw [List.take_of_length_le (by simp [sizeL])]; rfl
              rw [hC] at HR
              obtain ⟨ob, hob⟩ : ∃ ob, wr.heap.size = ob := ⟨_, rfl⟩
              obtain ⟨hh, hhh⟩ : ∃ l, (pnC s).h = l := ⟨_, rfl⟩
              have HPR : Hid (prB s = ⟨(outL hh).toArray⟩) := Lib.hid (by unfold prB; rw [hhh])
              have HX : Hid (∀ k, hh.getD k 0 < 4294967296) := Lib.hid fun k => by rw [← hhh]; exact (pnC_ok s).h32.get k
              have hbo : b < wr.heap.size := HR.out.2.1.lt
              have HCH : Hid (∀ (W : World) k, k < 8 → W.heap[b]? = wr.heap[b]? → W.cell? ⟨b, k, none⟩ = some (.int .u32 (hh.getD k 0 : Nat))) := Lib.hid fun W k hk hW => by
                have := (HR.out.2.1.of hW).ch HR.out.1.wk hk
                rwa [hhh] at this
              have R3 : Hid (∀ W, W = wr.alloc (.cells (outC hh 0).toArray 212) → OutAt w wr b ob hh 0 W) := Lib.hid fun W hW => by
                subst hW
                exact ⟨by rw [← hob]; exact heap_alloc_new _ _, heap_alloc_lt _ hbo, HR.out.2.2.1.alloc HR.out.2.2.1.size _, by omega, by have := HR.out.2.2.1.size; omega⟩
              have HBB : Hid (ob = wr.heap.size ∧ b < wr.heap.size ∧ w.heap.size ≤ wr.heap.size) := Lib.hid ⟨hob.symm, hbo, HR.out.2.2.1.size⟩
              clear HR hC hhh hj hlt kc km hbo
              go_wp2_with fail
              have R4 := Lib.hid (R3.out _ rfl)
              rw [show (outC hh 0).toArray = #[Value.int IntKind.u8 0, Value.int IntKind.u8 0, Value.int IntKind.u8 0, Value.int IntKind.u8 0, Value.int IntKind.u8 0, Value.int IntKind.u8 0, Value.int IntKind.u8 0, Value.int IntKind.u8 0, Value.int IntKind.u8 0, Value.int IntKind.u8 0, Value.int IntKind.u8 0, Value.int IntKind.u8 0, Value.int IntKind.u8 0, Value.int IntKind.u8 0, Value.int IntKind.u8 0, Value.int IntKind.u8 0, Value.int IntKind.u8 0, Value.int IntKind.u8 0, Value.int IntKind.u8 0, Value.int IntKind.u8 0, Value.int IntKind.u8 0, Value.int IntKind.u8 0, Value.int IntKind.u8 0, Value.int IntKind.u8 0, Value.int IntKind.u8 0, Value.int IntKind.u8 0, Value.int IntKind.u8 0, Value.int IntKind.u8 0, Value.int IntKind.u8 0, Value.int IntKind.u8 0, Value.int IntKind.u8 0, Value.int IntKind.u8 0] from rfl] at R4
              clear R3
              go_loopg [7, 44] 32 (fun g s7 s44 wq => ∃ (i : Nat), g = 32 - i ∧ i ≤ 32 ∧ s44 = .int .i64 (i : Int) ∧ Hid (OutAt w wr b ob hh i wq))
              case atStart => exact ⟨0, rfl, Nat.zero_le _, rfl, R4⟩
              case round =>
                obtain ⟨i, rfl, hi, rfl, HO⟩ := hrel
                clear R4
                by_cases hlt : i < 32
                · have cc := HCH.out _ (i / 4) (by omega) HO.out.2.1
                  have hx := HX.out (i / 4)
                  have HN := HO.out.set hlt
                  obtain ⟨f1, f2⟩ := HO.out.facts i
                  obtain ⟨v9, f3⟩ := HO.out.has hlt
                  have lb := HO.out.bl HBB.out.2.1
                  clear hi HO
                  generalize hh.getD (i / 4) 0 = x at *
                  obtain ⟨m, hm⟩ : ∃ m, 32 - (i + 1) = m := ⟨_, rfl⟩
                  have h32 : i = 0 ∨ i = 1 ∨ i = 2 ∨ i = 3 ∨ i = 4 ∨ i = 5 ∨ i = 6 ∨ i = 7 ∨ i = 8 ∨ i = 9 ∨ i = 10 ∨ i = 11 ∨ i = 12 ∨ i = 13 ∨ i = 14 ∨ i = 15 ∨ i = 16 ∨ i = 17 ∨ i = 18 ∨ i = 19 ∨ i = 20 ∨ i = 21 ∨ i = 22 ∨ i = 23 ∨ i = 24 ∨ i = 25 ∨ i = 26 ∨ i = 27 ∨ i = 28 ∨ i = 29 ∨ i = 30 ∨ i = 31 := by omega
                  clear hlt
                  rcases h32 with rfl | rfl | rfl | rfl | rfl | rfl | rfl | rfl | rfl | rfl | rfl | rfl | rfl | rfl | rfl | rfl | rfl | rfl | rfl | rfl | rfl | rfl | rfl | rfl | rfl | rfl | rfl | rfl | rfl | rfl | rfl | rfl
                  all_goals (
                    simp only [Nat.reduceDiv, Nat.zero_div] at cc
                    have HN2 := Lib.hid HN
                    clear HN
                    go_wp2_with fail
                    go_roundg m
                    case measure => omega
                    case rel =>
                      refine ⟨_, hm.symm, by decide, rfl, Lib.hid (HN2.out _ ?_)⟩
                      rw [UInt8.toNat_ofNat']
                      simp only [Nat.reduceMul, Nat.reduceSub, Nat.reducePow, Nat.reduceMod, Nat.reduceDiv]
                      omega)
                · obtain rfl : i = 32 := by omega
                  have hg := HO.out.1
                  have cv := fun W (hW : W.heap[ob]? = some (.cells (outC hh 32).toArray 212 (0, 0))) => conv_out hh W ob hW
                  have cv2 := cv _ hg
                  have HB := Lib.hid HO.out.2.2.1
                  have lo := lt_of_heap hg
                  clear hi hlt HO cv hg HCH
                  go_wp2_with fail
                  go_ret
                  exact ⟨by rw [HPR.out]; rfl, HB⟩
end Go.Proofs.YtdcjhpafipbpkaaGreatDoor
namespace Go.Proofs.YtdcjhpafipbpkaaGreatDoor
set_option linter.unusedVariables false
set_option maxRecDepth 100000
set_option maxHeartbeats 4000000
open Go.RowKit
section
variable (w1 w w0 : World) (K : Nat → Prop) (sb rb ti tl n N a nx : Nat) (C : List Ck) (L : List Lg) (X : List (Nat × ByteArray))
theorem Put_k (t : ByteArray) (h : Hid (Chs w1 w0 w K sb rb ti tl n N a C L nx X)) (hN : a + 2 ≤ N ∧ N ≤ 1000) (ht1 : 1 ≤ t.size) (ht2 : t.size ≤ 128) (hC : C.length ≤ 250) (hX : ∀ c ∈ C, (c.page, c.text) ∈ X) :
    Calls Tryz.prog 18 #[.pointer (some ⟨sb, 0, none⟩), .string t] w fun e w' => ∃ id fresh, e = .returned (.tuple #[.string id, .bool fresh, .int .i64 0]) ∧ Hid (PutRes w1 w0 w' K sb rb ti tl n N a C L nx X (prB t) t id fresh) := by
  obtain ⟨x, hx⟩ : ∃ x, w.heap.size = x := ⟨_, rfl⟩
  obtain ⟨wb, hwb⟩ : ∃ w0, w.alloc (.cells #[.int .i64 0] 34) = w0 := ⟨_, rfl⟩
  have HOK := Lib.hid h.out.ok.1
  have E0 : Hid (ChE w1 w x 0 wb K sb rb ti tl n N a C L nx X) := Lib.hid (by subst hx hwb; exact ChE.start h.out)
  obtain ⟨k, MK⟩ := Mark_k w1 wb wb _ sb rb ti tl n N a nx C L X (Lib.hid E0.out.st)
  have F0 := find_no ⟨#[]⟩ (Lib.hid E0.out.st) ⟨by omega, hN.2⟩ (by decide) (cAt_no fun c hc e => by have := (HOK.out c hc).id; rw [e] at this; cases this)
  rw [show ck0 = .agg #[.int .i64 0, .int .i64 0, .int .i64 0] from rfl] at F0
  have PR := fun W => Print_c t W (by omega)
  obtain ⟨p, hp⟩ : ∃ p, prB t = p := ⟨_, rfl⟩
  have hps : p.size = 32 := by rw [← hp]; exact prB_size t
  have HSZ : Hid (∀ k, (nameB p k).size = 33) := Lib.hid fun k => by rw [nameB_size, hps]
  rw [hp] at PR ⊢
  have NM : Hid (∀ W (k : Nat), k < 256 → Calls Tryz.prog 64 #[.string p, .int .i64 (k : Int)] W fun e w' => e = .returned (.string (nameB p k)) ∧ Hid (Below W.heap.size W w')) := Lib.hid fun W k hk => name_c p k W (by omega) hk
  have FN : Hid (∀ W (s : ByteArray), s.size = 33 → cAt C s = none → Hid (ChE w1 w x 0 W K sb rb ti tl n N a C L nx X) → Calls Tryz.prog 62 #[.pointer (some ⟨sb, 0, none⟩), .string s] W fun e w' => e = .returned (.tuple #[.agg #[.int .i64 0, .int .i64 0, .int .i64 0], .bool false, .int .i64 0]) ∧ Hid (ChE w1 w x 0 w' K sb rb ti tl n N a C L nx X)) := Lib.hid fun W s hs hc hW => by
    refine (find_no s (Lib.hid hW.out.st) ⟨by omega, hN.2⟩ (by omega) hc).mono ?_
    rintro e w' ⟨rfl, hE⟩
    exact ⟨rfl, Lib.hid (hW.out.step hE.out)⟩
  have FY : Hid (∀ W (s : ByteArray) (c : Ck), s.size = 33 → cAt C s = some c → Hid (ChE w1 w x 0 W K sb rb ti tl n N a C L nx X) → Calls Tryz.prog 62 #[.pointer (some ⟨sb, 0, none⟩), .string s] W fun e w' => e = .returned (.tuple #[.agg #[.int .i64 (c.page : Int), .int .i64 (c.text.size : Int), .int .i64 c.cnt], .bool true, .int .i64 0]) ∧ Hid (ChE w1 w x 0 w' K sb rb ti tl n N a C L nx X)) := Lib.hid fun W s c hs hc hW => by
    refine (find_yes s c (Lib.hid hW.out.st) ⟨by omega, hN.2⟩ (by omega) hc).mono ?_
    rintro e w' ⟨rfl, hE⟩
    exact ⟨rfl, Lib.hid (hW.out.step hE.out)⟩
  have LS : Hid (∀ W (k : Nat), k < 256 → Hid (ChE w1 w x 0 W K sb rb ti tl n N a C L nx X) → Calls Tryz.prog 65 #[.pointer (some ⟨sb, 0, none⟩), .string p, .int .i64 (k : Int)] W fun e w' => ∃ b : Bool, e = .returned (.tuple #[.bool b, .int .i64 0]) ∧ (b = true ↔ NoC C (nameB p k) (p ++ ffB)) ∧ Hid (ChE w1 w x 0 w' K sb rb ti tl n N a C L nx X)) := Lib.hid fun W k hk hW => by
    refine (last_k w1 W W _ sb rb ti tl n N a nx C L X p k (by omega) hk (Lib.hid hW.out.st) ⟨by omega, hN.2⟩ (by omega)).mono ?_
    rintro e w' ⟨b, rfl, hb, hE⟩
    exact ⟨b, rfl, hb, Lib.hid (hW.out.step hE.out)⟩
  have BG : Hid (∀ W WA g (c : Ck), c ∈ C → Hid (ChE w1 WA x 0 W (fun k => K k ∨ k = g) sb rb ti tl n N a C L nx X) → WA.cell? ⟨g, 0, none⟩ = some (.int .i64 (c.page : Int)) → Calls Tryz.prog 66 #[.pointer (some ⟨rb, 0, none⟩), .int .i64 (c.page : Int)] W fun e w' => e = .returned (.tuple #[.string c.text, .int .i64 0]) ∧ (w'.cell? ⟨sb, 0, none⟩ = some (.pointer (some ⟨rb, 0, none⟩)) ∧ w'.cell? ⟨g, 0, none⟩ = some (.int .i64 (c.page : Int))) ∧ Hid (ChE w1 WA x 0 w' (fun k => K k ∨ k = g) sb rb ti tl n N a C L nx X)) := Lib.hid fun W WA g c hc hW hg => by
    refine (blob_get w1 W W _ sb rb ti tl n N a nx C L X c.page c.text (hX c hc) (HOK.out c hc).t2 (Lib.hid hW.out.st) ⟨by omega, hN.2⟩).mono ?_
    rintro e w' ⟨rfl, hE⟩
    have hs := hW.out.step hE.out
    exact ⟨rfl, ⟨hs.st.sbk.cells.1, (World.cell?_of_block (hs.kp g (.inr rfl))).trans hg⟩, Lib.hid hs⟩
  have BP : Hid (∀ W, Hid (ChE w1 w x 0 W K sb rb ti tl n N a C L nx X) → Calls Tryz.prog 67 #[.pointer (some ⟨rb, 0, none⟩), .string t] W fun e w' => ∃ page : Nat, e = .returned (.tuple #[.int .i64 (page : Int), .int .i64 0]) ∧ Hid (page < 65536 ∧ ChE w1 w x 0 w' K sb rb ti tl n N (a + 1) C L nx ((page, t) :: X))) := Lib.hid fun W hW => by
    refine (blob_put w1 W W _ sb rb ti tl n N a nx C L X t ht2 (Lib.hid hW.out.st) ⟨by omega, hN.2⟩).mono ?_
    rintro e w' ⟨page, rfl, hE⟩
    exact ⟨page, rfl, Lib.hid ⟨hE.out.1, hW.out.step hE.out.2⟩⟩
  have KP : Hid (∀ W (page : Nat) (s : ByteArray), page < 65536 → s.size = 33 → Hid (ChE w1 w x 0 W K sb rb ti tl n N (a + 1) C L nx ((page, t) :: X)) → Calls Tryz.prog 68 #[.pointer (some ⟨sb, 0, none⟩), .string s, .agg #[.int .i64 (page : Int), .int .i64 (t.size : Int), .int .i64 0]] W fun e w' => e = .returned (.int .i64 0) ∧ Hid (∃ C', PutC ⟨s, page, 0, t⟩ C C' ∧ ChE w1 w x 0 w' K sb rb ti tl n N (a + 2) C' L nx ((page, t) :: X))) := Lib.hid fun W page s hpg hs hW => by
    refine (keep_k w1 W W _ sb rb ti tl n N (a + 1) nx C L ((page, t) :: X) ⟨s, page, 0, t⟩ ⟨hs, hpg, ht1, ht2, by show (-1000000000 : Int) ≤ 0; decide, by show (0 : Int) ≤ 1000000000; decide⟩ (Lib.hid hW.out.st) ⟨by omega, hN.2⟩).mono ?_
    rintro e w' ⟨rfl, hE⟩
    obtain ⟨C', h1, h2⟩ := hE.out
    exact ⟨rfl, Lib.hid ⟨C', h2, hW.out.step h1⟩⟩
  have HH := Lib.hid h.out
  have k1 : ((t.size : Int) < 1) = False := by simp; omega
  have k2 : ((128 : Int) < t.size) = False := by simp; omega
  have HCL : Hid (C.length < 256) := Lib.hid (by omega)
  clear h hN ht1 ht2 hC hX hp hps
  go_enter_defers Tryz.func18, Tryz.ntmps18
  go_wp2_with fail
  subst hx
  refine MK.mono ?_
  rintro e wm ⟨rfl, rfl⟩
  go_wp2_with fail
  refine F0.mono ?_
  rintro e w2 ⟨rfl, G2⟩
  have E2 := Lib.hid (E0.out.step G2.out)
  have E3 : Hid (∀ o, ChE w1 w w.heap.size 0 (w2.alloc o) K sb rb ti tl n N a C L nx X) := Lib.hid fun o => E2.out.below ((Below.refl _ _).alloc (Nat.le_refl _) o)
  clear F0 MK G2
  go_wp2_with fail
  refine (PR _).mono ?_
  rintro e w3 ⟨rfl, hb3⟩
  have R0 : Hid (FreeAt C p 0 (-1) ∧ NoHit C p t 0 ∧ ChE w1 w w.heap.size 0 w3 K sb rb ti tl n N a C L nx X) := Lib.hid ⟨FreeAt.zero C p, NoHit.zero C p t, (E3.out _).below hb3.out⟩
  clear E2 E3 hb3 PR k1 k2
  go_wp2_with fail
  go_loopg [11, 12, 13, 14, 15, 16, 17, 18, 43, 55, 59, 94, 98] 256 (fun g s11 s12 s13 s14 s15 s16 s17 s18 s43 s55 s59 s94 s98 wr => ∃ (i : Nat) (f : Int), g = 256 - i ∧ i ≤ 256 ∧ s43 = .int .i64 (i : Int) ∧ s11 = .int .i64 f ∧ Hid (FreeAt C p i f ∧ NoHit C p t i ∧ ChE w1 w w.heap.size 0 wr K sb rb ti tl n N a C L nx X))
  case atStart => exact ⟨0, -1, rfl, Nat.zero_le _, rfl, rfl, R0⟩
  case round =>
    obtain ⟨i, f, rfl, hi, rfl, rfl, HR⟩ := hrel
    clear R0
    have HE := Lib.hid HR.out.2.2
    have HFA := Lib.hid (And.intro HR.out.1 HR.out.2.1)
    clear HR
    by_cases hlt : i < 256
    · have NMi := NM.out wr i hlt
      have hsz := HSZ.out i
      have LSi : Hid (∀ W, Hid (ChE w1 w w.heap.size 0 W K sb rb ti tl n N a C L nx X) → Calls Tryz.prog 65 #[.pointer (some ⟨sb, 0, none⟩), .string p, .int .i64 (i : Int)] W fun e w' => ∃ b : Bool, e = .returned (.tuple #[.bool b, .int .i64 0]) ∧ (b = true ↔ NoC C (nameB p i) (p ++ ffB)) ∧ Hid (ChE w1 w w.heap.size 0 w' K sb rb ti tl n N a C L nx X)) := Lib.hid fun W hW => LS.out W i hlt hW
      have HLT := Lib.hid hlt
      have hltI : (i : Int) < 256 := by omega
      cases hf : cAt C (nameB p i) with
      | none =>
        have FNi := fun W => FN.out W _ hsz hf
        have HF := Lib.hid hf
        clear hf hlt hi hsz
        go_wp2_with fail
        refine NMi.mono ?_
        rintro e w4 ⟨rfl, hb4⟩
        go_wp2_with fail
        refine (FNi _ (Lib.hid (HE.out.below hb4.out))).mono ?_
        rintro e w5 ⟨rfl, HE5⟩
        have HE6 : Hid (∀ o, ChE w1 w w.heap.size 0 (w5.alloc o) K sb rb ti tl n N a C L nx X) := Lib.hid fun o => HE5.out.below ((Below.refl _ _).alloc (Nat.le_refl _) o)
        clear NMi FNi hb4
        by_cases hneg : f < 0
        · have HNG := Lib.hid hneg
          go_wp2_with fail
          refine (LSi.out _ (Lib.hid (HE6.out _))).mono ?_
          rintro e w6 ⟨bb, rfl, hbb, HE7⟩
          clear HE5 HE6
          cases bb with
          | false =>
            clear hbb
            go_wp2_with fail
            go_roundg (256 - (i + 1))
            case measure => have := HLT.out; omega
            case rel => exact ⟨i + 1, _, rfl, HLT.out, by congr 1, rfl, Lib.hid ⟨HFA.out.1.no HF.out HNG.out, HFA.out.2.no HF.out, HE7.out⟩⟩
          | true =>
            have HKF : Hid (i < 256 ∧ cAt C (nameB p i) = none ∧ (∀ j, j < i → cAt C (nameB p j) ≠ none) ∧ NoHit C p t 256) := Lib.hid (by
              obtain ⟨k', e1, e2, e3, e4⟩ := (HFA.out.1.no HF.out HNG.out).pos HLT.out (by omega)
              obtain rfl : k' = i := by omega
              exact ⟨e2, e3, e4, HFA.out.2.all HLT.out (hbb.1 rfl)⟩)
            clear hbb
            have CF := Lib.hid (HE7.out.st.sbk.cells)
            have BPw := BP.out _ HE7
            obtain ⟨s0, s1, s2⟩ := CF.out
            obtain ⟨cx, fx, lx⟩ := HE7.out.cell
            have lsb : sb < w6.heap.size := lt_of_heap HE7.out.st.sbk.1
            clear CF
            go_wp2_with fail
            refine BPw.mono ?_
            rintro e w5 ⟨page, rfl, HP5⟩
            have HPG : Hid (page < 65536) := Lib.hid HP5.out.1
            have E5 := Lib.hid HP5.out.2
            clear BPw cx fx lx s0 s1 s2 lsb HP5
            obtain ⟨cx, fx, lx⟩ := E5.out.cell
            have E6 := Lib.hid (E5.out.set 0)
            obtain ⟨w6, hw6⟩ : ∃ w6, w5.setCell ⟨w.heap.size, 0, none⟩ (.int .i64 0) = w6 := ⟨_, rfl⟩
            rw [hw6] at E6
            have lx6 := E6.out.cell.1
            obtain ⟨s0, s1, s2⟩ := E6.out.st.sbk.cells
            have NM6 := NM.out w6 i HKF.out.1
            go_wp2_with fail
            refine NM6.mono ?_
            rintro e w7 ⟨rfl, hb7⟩
            have E7 := Lib.hid (E6.out.below hb7.out)
            have KPw := KP.out _ page (nameB p i) HPG.out (HSZ.out _) E7
            clear NM6 hb7 lx6 s0 s1 s2 hw6
            obtain ⟨s0, s1, s2⟩ := E7.out.st.sbk.cells
            go_wp2_with fail
            refine KPw.mono ?_
            rintro e w8 ⟨rfl, HK8⟩
            obtain ⟨C', hpc, hE8⟩ := HK8.out
            have E8 := Lib.hid hE8
            have HPC := Lib.hid hpc
            clear KPw HK8 hE8 hpc cx fx lx s0 s1 s2
            have NM8 := NM.out w8 i HKF.out.1
            go_wp2_with fail
            refine NM8.mono ?_
            rintro e w9 ⟨rfl, hb9⟩
            have E9 := Lib.hid (E8.out.below hb9.out)
            clear NM8 hb9
            obtain ⟨cx, fx, lx⟩ := E9.out.cell
            have E10 := Lib.hid (E9.out.set 0)
            have hfin := E10.out.cell.1
            have HG : Hid (PutRes w1 w0 (w9.setCell ⟨w.heap.size, 0, none⟩ (.int .i64 0)) K sb rb ti tl n N a C L nx X p t (nameB p i) true) := Lib.hid (.inr ⟨rfl, i, page, C', HKF.out.1, rfl, HKF.out.2.1, HKF.out.2.2.1, HKF.out.2.2.2, HPC.out, ChE.end_ HH.out E10.out⟩)
            go_wp2_with fail
            refine leaves_cons (f := 60) (args := #[.pointer (some ⟨sb, 0, none⟩), .int .i64 (k : Int), .pointer (some ⟨w.heap.size, 0, none⟩)]) (by simp) (by simp [go_sem]) ?_
            refine (undo_d _ _ _ _ _ hfin).mono ?_
            rintro e u' wz ⟨rfl, rfl, rfl⟩
            simp [Leaves, settle, results, Tryz.results18, go_sem, hfin]
            exact HG
        · have hpos : Hid (∃ kf : Nat, f = (kf : Int) ∧ kf < 256 ∧ cAt C (nameB p kf) = none ∧ ∀ j, j < kf → cAt C (nameB p j) ≠ none) := Lib.hid (HFA.out.1.pos (Nat.le_of_lt HLT.out) hneg)
          have HNG := Lib.hid hneg
          go_wp2_with fail
          refine (LSi.out _ (Lib.hid (HE6.out _))).mono ?_
          rintro e w6 ⟨bb, rfl, hbb, HE7⟩
          clear HE5 HE6
          cases bb with
          | false =>
            clear hbb
            go_wp2_with fail
            go_roundg (256 - (i + 1))
            case measure => have := HLT.out; omega
            case rel => exact ⟨i + 1, _, rfl, HLT.out, by congr 1, rfl, Lib.hid ⟨HFA.out.1.no' (by have := HNG.out; omega), HFA.out.2.no HF.out, HE7.out⟩⟩
          | true =>
            obtain ⟨kf, hkf, q1, q2, q3⟩ := hpos.out
            have HKF : Hid (kf < 256 ∧ cAt C (nameB p kf) = none ∧ (∀ j, j < kf → cAt C (nameB p j) ≠ none) ∧ NoHit C p t 256) := Lib.hid ⟨q1, q2, q3, HFA.out.2.all HLT.out (hbb.1 rfl)⟩
            subst hkf
            clear hbb q1 q2 q3 hneg HFA HNG hpos
            have CF := Lib.hid (HE7.out.st.sbk.cells)
            have BPw := BP.out _ HE7
            obtain ⟨s0, s1, s2⟩ := CF.out
            obtain ⟨cx, fx, lx⟩ := HE7.out.cell
            have lsb : sb < w6.heap.size := lt_of_heap HE7.out.st.sbk.1
            clear CF
            go_wp2_with fail
            refine BPw.mono ?_
            rintro e w5 ⟨page, rfl, HP5⟩
            have HPG : Hid (page < 65536) := Lib.hid HP5.out.1
            have E5 := Lib.hid HP5.out.2
            clear BPw cx fx lx s0 s1 s2 lsb HP5
            obtain ⟨cx, fx, lx⟩ := E5.out.cell
            have E6 := Lib.hid (E5.out.set 0)
            obtain ⟨w6, hw6⟩ : ∃ w6, w5.setCell ⟨w.heap.size, 0, none⟩ (.int .i64 0) = w6 := ⟨_, rfl⟩
            rw [hw6] at E6
            have lx6 := E6.out.cell.1
            obtain ⟨s0, s1, s2⟩ := E6.out.st.sbk.cells
            have NM6 := NM.out w6 kf HKF.out.1
            go_wp2_with fail
            refine NM6.mono ?_
            rintro e w7 ⟨rfl, hb7⟩
            have E7 := Lib.hid (E6.out.below hb7.out)
            have KPw := KP.out _ page (nameB p kf) HPG.out (HSZ.out _) E7
            clear NM6 hb7 lx6 s0 s1 s2 hw6
            obtain ⟨s0, s1, s2⟩ := E7.out.st.sbk.cells
            go_wp2_with fail
            refine KPw.mono ?_
            rintro e w8 ⟨rfl, HK8⟩
            obtain ⟨C', hpc, hE8⟩ := HK8.out
            have E8 := Lib.hid hE8
            have HPC := Lib.hid hpc
            clear KPw HK8 hE8 hpc cx fx lx s0 s1 s2
            have NM8 := NM.out w8 kf HKF.out.1
            go_wp2_with fail
            refine NM8.mono ?_
            rintro e w9 ⟨rfl, hb9⟩
            have E9 := Lib.hid (E8.out.below hb9.out)
            clear NM8 hb9
            obtain ⟨cx, fx, lx⟩ := E9.out.cell
            have E10 := Lib.hid (E9.out.set 0)
            have hfin := E10.out.cell.1
            have HG : Hid (PutRes w1 w0 (w9.setCell ⟨w.heap.size, 0, none⟩ (.int .i64 0)) K sb rb ti tl n N a C L nx X p t (nameB p kf) true) := Lib.hid (.inr ⟨rfl, kf, page, C', HKF.out.1, rfl, HKF.out.2.1, HKF.out.2.2.1, HKF.out.2.2.2, HPC.out, ChE.end_ HH.out E10.out⟩)
            go_wp2_with fail
            refine leaves_cons (f := 60) (args := #[.pointer (some ⟨sb, 0, none⟩), .int .i64 (k : Int), .pointer (some ⟨w.heap.size, 0, none⟩)]) (by simp) (by simp [go_sem]) ?_
            refine (undo_d _ _ _ _ _ hfin).mono ?_
            rintro e u' wz ⟨rfl, rfl, rfl⟩
            simp [Leaves, settle, results, Tryz.results18, go_sem, hfin]
            exact HG
      | some c =>
        have hcm := (cAt_some hf).1
        have FYi := fun W => FY.out W _ c hsz hf
        have HF := Lib.hid hf
        have BGi : Hid (∀ W WA g, Hid (ChE w1 WA w.heap.size 0 W (fun k => K k ∨ k = g) sb rb ti tl n N a C L nx X) → WA.cell? ⟨g, 0, none⟩ = some (.int .i64 (c.page : Int)) → Calls Tryz.prog 66 #[.pointer (some ⟨rb, 0, none⟩), .int .i64 (c.page : Int)] W fun e w' => e = .returned (.tuple #[.string c.text, .int .i64 0]) ∧ (w'.cell? ⟨sb, 0, none⟩ = some (.pointer (some ⟨rb, 0, none⟩)) ∧ w'.cell? ⟨g, 0, none⟩ = some (.int .i64 (c.page : Int))) ∧ Hid (ChE w1 WA w.heap.size 0 w' (fun k => K k ∨ k = g) sb rb ti tl n N a C L nx X)) := Lib.hid fun W WA g h1 h2 => BG.out W WA g c hcm h1 h2
        clear hf hlt hi hsz hcm
        obtain ⟨tx, htx⟩ : ∃ tx, c.text = tx := ⟨_, rfl⟩
        have HTX := Lib.hid htx
        rw [htx] at BGi FYi
        generalize c.page = z0 at *
        generalize c.cnt = z2 at *
        generalize (tx.size : Int) = z1 at *
        clear htx
        go_wp2_with fail
        refine NMi.mono ?_
        rintro e w4 ⟨rfl, hb4⟩
        go_wp2_with fail
        refine (FYi _ (Lib.hid (HE.out.below hb4.out))).mono ?_
        rintro e w5 ⟨rfl, HE5⟩
        clear NMi FYi hb4
        have HE6 := Lib.hid (HE5.out.new (.cells #[.int .i64 (z0 : Int), .int .i64 z1, .int .i64 z2] 124))
        have HOLD : Hid (∀ W, ChE w1 (w5.alloc (.cells #[.int .i64 (z0 : Int), .int .i64 z1, .int .i64 z2] 124)) w.heap.size 0 W (fun k => K k ∨ k = w5.heap.size) sb rb ti tl n N a C L nx X → ChE w1 w w.heap.size 0 W K sb rb ti tl n N a C L nx X) := Lib.hid fun W h9 => ChE.old HE5.out h9
        obtain ⟨w6, hw6⟩ : ∃ w6, w5.alloc (.cells #[.int .i64 (z0 : Int), .int .i64 z1, .int .i64 z2] 124) = w6 := ⟨_, rfl⟩
        have g0 : w6.cell? ⟨w5.heap.size, 0, none⟩ = some (.int .i64 (z0 : Int)) := by rw [← hw6]; exact cell_lit (heap_alloc_new _ _) rfl
        rw [hw6] at HE6 HOLD
        obtain ⟨s0, s1, s2⟩ := HE6.out.st.sbk.cells
        have lsb : sb < w6.heap.size := lt_of_heap HE6.out.st.sbk.1
        have HE7 : Hid (ChE w1 w6 w.heap.size 0 w6.drew (fun k => K k ∨ k = w5.heap.size) sb rb ti tl n N a C L nx X) := Lib.hid (HE6.out.below (Below.refl _ _).drew)
        have HG0 := Lib.hid g0
        clear HE5
        go_wp2_with fail
        go_region_held3 (fun w' => w'.cell? ⟨sb, 0, none⟩ = some (.pointer (some ⟨rb, 0, none⟩)) ∧ w'.cell? ⟨w5.heap.size, 0, none⟩ = some (.int .i64 (z0 : Int))) (go_keep) ((first
          | (go_at_call 66
             refine Calls.at_args (BGi.out _ _ _ HE7 HG0.out) (by with_reducible rfl) ?_
             rintro e w7 ⟨rfl, hk7, HE8⟩)))
        all_goals (
          have HE9 := Lib.hid (HOLD.out _ HE8.out)
          clear HE6 HE7 HE8 HOLD s0 s1 s2 lsb g0 HG0 hk7 hw6 BGi
          by_cases he : tx = t
          · have q : (tx.toList == t.toList) = true := by rw [baK_eq]; simp [he]
            have NM2 := NM.out w7 i HLT.out
            have HQ := Lib.hid he
            clear he
            go_wp2_with fail
            refine NM2.mono ?_
            rintro e w9 ⟨rfl, hb9⟩
            have E9 := Lib.hid (HE9.out.below hb9.out)
            clear NM2 hb9
            obtain ⟨cx, fx, lx⟩ := E9.out.cell
            have E10 := Lib.hid (E9.out.set 0)
            have hfin := E10.out.cell.1
            have HG : Hid (PutRes w1 w0 (w9.setCell ⟨w.heap.size, 0, none⟩ (.int .i64 0)) K sb rb ti tl n N a C L nx X p t (nameB p i) false) := Lib.hid (.inl ⟨rfl, i, c, HLT.out, rfl, HF.out, HTX.out.trans HQ.out, HFA.out.2, ChE.end_ HH.out E10.out⟩)
            go_wp2_with fail
            refine leaves_cons (f := 60) (args := #[.pointer (some ⟨sb, 0, none⟩), .int .i64 (k : Int), .pointer (some ⟨w.heap.size, 0, none⟩)]) (by simp) (by simp [go_sem]) ?_
            refine (undo_d _ _ _ _ _ hfin).mono ?_
            rintro e u' wz ⟨rfl, rfl, rfl⟩
            simp [Leaves, settle, results, Tryz.results18, go_sem, hfin]
            exact HG
          · have q : (tx.toList == t.toList) = false := by rw [baK_eq]; simp [he]
            have HQ := Lib.hid he
            clear he
            go_wp2_with fail
            go_roundg (256 - (i + 1))
            case measure => have := HLT.out; omega
            case rel => exact ⟨i + 1, _, rfl, HLT.out, by congr 1, rfl, Lib.hid ⟨HFA.out.1.yes HF.out, HFA.out.2.yes HF.out (fun e => HQ.out (HTX.out.symm.trans e)), HE9.out⟩⟩)
    · obtain rfl : i = 256 := by omega
      obtain ⟨kf, hkf, q1, q2, q3⟩ := HFA.out.1.fin HCL.out
      have HKF : Hid (kf < 256 ∧ cAt C (nameB p kf) = none ∧ (∀ j, j < kf → cAt C (nameB p j) ≠ none) ∧ NoHit C p t 256) := Lib.hid ⟨q1, q2, q3, HFA.out.2⟩
      subst hkf
      clear q1 q2 q3 HFA hlt hi
      have CF := Lib.hid (HE.out.st.sbk.cells)
      have BPw := BP.out _ HE
      obtain ⟨s0, s1, s2⟩ := CF.out
      obtain ⟨cx, fx, lx⟩ := HE.out.cell
      have lsb : sb < wr.heap.size := lt_of_heap HE.out.st.sbk.1
      clear CF
      go_wp2_with fail
      refine BPw.mono ?_
      rintro e w5 ⟨page, rfl, HP5⟩
      have HPG : Hid (page < 65536) := Lib.hid HP5.out.1
      have E5 := Lib.hid HP5.out.2
      clear BPw cx fx lx s0 s1 s2 lsb HP5
      obtain ⟨cx, fx, lx⟩ := E5.out.cell
      have E6 := Lib.hid (E5.out.set 0)
      obtain ⟨w6, hw6⟩ : ∃ w6, w5.setCell ⟨w.heap.size, 0, none⟩ (.int .i64 0) = w6 := ⟨_, rfl⟩
      rw [hw6] at E6
      have lx6 := E6.out.cell.1
      obtain ⟨s0, s1, s2⟩ := E6.out.st.sbk.cells
      have NM6 := NM.out w6 kf HKF.out.1
      go_wp2_with fail
      refine NM6.mono ?_
      rintro e w7 ⟨rfl, hb7⟩
      have E7 := Lib.hid (E6.out.below hb7.out)
      have KPw := KP.out _ page (nameB p kf) HPG.out (HSZ.out _) E7
      clear NM6 hb7 lx6 s0 s1 s2 hw6
      obtain ⟨s0, s1, s2⟩ := E7.out.st.sbk.cells
      go_wp2_with fail
      refine KPw.mono ?_
      rintro e w8 ⟨rfl, HK8⟩
      obtain ⟨C', hpc, hE8⟩ := HK8.out
      have E8 := Lib.hid hE8
      have HPC := Lib.hid hpc
      clear KPw HK8 hE8 hpc cx fx lx s0 s1 s2
      have NM8 := NM.out w8 kf HKF.out.1
      go_wp2_with fail
      refine NM8.mono ?_
      rintro e w9 ⟨rfl, hb9⟩
      have E9 := Lib.hid (E8.out.below hb9.out)
      clear NM8 hb9
      obtain ⟨cx, fx, lx⟩ := E9.out.cell
      have E10 := Lib.hid (E9.out.set 0)
      have hfin := E10.out.cell.1
      have HG : Hid (PutRes w1 w0 (w9.setCell ⟨w.heap.size, 0, none⟩ (.int .i64 0)) K sb rb ti tl n N a C L nx X p t (nameB p kf) true) := Lib.hid (.inr ⟨rfl, kf, page, C', HKF.out.1, rfl, HKF.out.2.1, HKF.out.2.2.1, HKF.out.2.2.2, HPC.out, ChE.end_ HH.out E10.out⟩)
      go_wp2_with fail
      refine leaves_cons (f := 60) (args := #[.pointer (some ⟨sb, 0, none⟩), .int .i64 (k : Int), .pointer (some ⟨w.heap.size, 0, none⟩)]) (by simp) (by simp [go_sem]) ?_
      refine (undo_d _ _ _ _ _ hfin).mono ?_
      rintro e u' wz ⟨rfl, rfl, rfl⟩
      simp [Leaves, settle, results, Tryz.results18, go_sem, hfin]
      exact HG
end
end Go.Proofs.YtdcjhpafipbpkaaGreatDoor
namespace Go.Proofs.YtdcjhpafipbpkaaGreatDoor
set_option linter.unusedVariables false
set_option maxRecDepth 100000
set_option maxHeartbeats 1000000
open Go.RowKit
theorem PutC.nil {c : Ck} {C' : List Ck} (h : PutC c [] C') : C' = [c] := by
  obtain ⟨A, B, rfl, h', -, -⟩ := h
  rcases h' with h' | ⟨c0, -, h'⟩
  · have := List.append_eq_nil_iff.1 h'.symm
    rw [this.1, this.2]; rfl
  · simp at h'
theorem PutC.same {c c0 : Ck} {C' : List Ck} (h : PutC c [c0] C') (e : c0.id = c.id) : C' = [c] := by
  obtain ⟨A, B, rfl, h', hA, hB⟩ := h
  rcases h' with h' | ⟨c1, -, h'⟩
  · exfalso
    have hm : c0 ∈ A ++ B := by rw [← h']; simp
    rcases List.mem_append.1 hm with hm | hm
    · exact kless_ne (hA c0 hm) e
    · exact kless_ne (hB c0 hm) e.symm
  · cases A with
    | nil =>
      rw [List.nil_append] at h'
      have := (List.cons.inj h').2
      subst this; rfl
    | cons x A =>
      rw [List.cons_append] at h'
      have := (List.cons.inj h').2
      simp at this
theorem cAt_one {c : Ck} : cAt [c] c.id = some c := by simp [cAt]
theorem cAt_one_some {c d : Ck} {s : ByteArray} (h : cAt [c] s = some d) : d = c ∧ c.id = s := by
  obtain ⟨h1, h2⟩ := cAt_some h
  simp at h1
  subst h1
  exact ⟨rfl, h2⟩
theorem pend_app (A B : List Lg) (id : ByteArray) : pend (A ++ B) id = pend A id + pend B id := by
  induction A with
  | nil => simp [pend]
  | cons x A ih => simp only [List.cons_append, pend, ih]; omega
theorem pend_take (A : List Lg) (n : Nat) (id : ByteArray) : pend (A.take n) id + pend (A.drop n) id = pend A id := by
  rw [← pend_app, List.take_append_drop]
theorem Mg.one {c : Ck} {T : List Lg} {C' : List Ck} (h : Mg [c] T C') (hT : ∀ e ∈ T, e.id = c.id) : C' = [c.add (pend T c.id)] := by
  induction h with
  | nil => simp [pend, Ck.add]
  | @snoc T C1 C2 e h1 h2 ih =>
    have e1 := ih fun x hx => hT x (by simp [hx])
    have e2 := hT e (by simp)
    subst e1
    rcases h2 with ⟨h3, -⟩ | ⟨d, h3, h4⟩
    · exact absurd e2.symm (cAt_none h3 (c.add (pend T c.id)) (by simp))
    · obtain ⟨rfl, h5⟩ := cAt_one_some h3
      have := h4.same rfl
      rw [this, pend_snoc, if_pos e2]
      simp only [Ck.add, List.cons.injEq, Ck.mk.injEq, and_true, true_and]
      omega
section
variable {w1 w0 w : World} {K : Nat → Prop} {sb rb ti tl n N a nx : Nat} {C : List Ck} {L : List Lg} {X : List (Nat × ByteArray)} {p t id : ByteArray} {fresh : Bool}
theorem PutRes.empty (h : PutRes w1 w0 w K sb rb ti tl n N a [] L nx X p t id fresh) : fresh = true ∧ id = nameB p 0 ∧ ∃ page, Chs w1 w0 w K sb rb ti tl n N (a + 2) [⟨id, page, 0, t⟩] L nx ((page, t) :: X) := by
  rcases h with ⟨-, k, c, -, -, h, -⟩ | ⟨h1, k, page, C', -, h2, -, h3, -, h4, h5⟩
  · simp [cAt] at h
  · have hk : k = 0 := by
      rcases Nat.eq_zero_or_pos k with h | h
      · exact h
      · exact absurd rfl (h3 0 h)
    subst hk
    rw [h4.nil] at h5
    exact ⟨h1, h2, page, h5⟩
theorem PutRes.one {c : Ck} (h : PutRes w1 w0 w K sb rb ti tl n N a [c] L nx X p t id fresh) (hi : c.id = nameB p 0) (ht : c.text = t) : fresh = false ∧ id = c.id ∧ Chs w1 w0 w K sb rb ti tl n N a [c] L nx X := by
  rcases h with ⟨h1, k, d, -, h2, h, -, -, h5⟩ | ⟨-, k, page, C', -, -, -, -, h4, -⟩
  · obtain ⟨rfl, h6⟩ := cAt_one_some h
    exact ⟨h1, h6.symm, h5⟩
  · exact absurd ht (h4 0 (by decide) c (by rw [← hi]; exact cAt_one))
end
end Go.Proofs.YtdcjhpafipbpkaaGreatDoor
namespace Go.Proofs.YtdcjhpafipbpkaaGreatDoor
set_option linter.unusedVariables false
set_option maxRecDepth 100000
set_option maxHeartbeats 4000000
open Go.RowKit
def aB : ByteArray := ⟨#[97]⟩
theorem awake11_c (w : World) : Calls Tryz.prog 13 #[] w fun e w' => e = .returned (.bool true) ∧ Hid (Below w.heap.size w w') := by
  have WD := Wide_c 3000 w (by decide) (by decide)
  rw [show ((3000 : Nat) : Int) = 3000 from rfl] at WD
  go_enter Tryz.func13, Tryz.ntmps13
  go_wp2_with fail
  refine WD.mono ?_
  rintro e wb ⟨db, lb, FL, rfl, H1⟩
  clear WD
  go_wp2_with fail
  refine (Begin_c lb wb).mono ?_
  rintro e wc ⟨rfl, H2⟩
  have OF := Of_c _ lb 3000 FL _ [] wc (chg_new H1.out H2.out) (by decide)
  go_wp2_with fail
  refine OF.mono ?_
  rintro e wd ⟨rb, G, rfl, H3⟩
  have NR := Lib.hid (NewRoom.of (w1 := w) (Below.refl _ _) H1.out H2.out H3.out)
  clear OF H1 H2 H3
  have AT := At_k rb wd
  go_wp2_with fail
  refine AT.mono ?_
  rintro e we ⟨sb, ti, tl, rfl, HT⟩
  have M0 := Lib.hid (Chs.start (N := 20) NR.out (by decide) (by decide) HT.out.1 HT.out.2.1 HT.out.2.2)
  clear NR HT AT
  have P1 := Put_k w we we (fun _ => False) sb rb ti tl 3000 20 0 0 [] [] [] aB M0 (by decide) (by decide) (by decide) (by decide) (fun c hc => by cases hc)
  rw [show aB = ⟨#[97]⟩ from rfl] at P1
  clear M0
  go_wp2_with fail
  refine P1.mono ?_
  rintro e w3 ⟨id, fresh, rfl, HP⟩
  obtain ⟨rfl, hid, page, HC⟩ := PutRes.empty HP.out
  have M1 := Lib.hid HC
  have hsz : id.size = 33 := by rw [hid, nameB_size, prB_size]
  have HI := Lib.hid hid
  clear HP HC P1 hid
  have P2 := Put_k w w3 we (fun _ => False) sb rb ti tl 3000 20 2 0 [⟨id, page, 0, ⟨#[97]⟩⟩] [] [(page, ⟨#[97]⟩)] aB M1 (by decide) (by decide) (by decide) (show 1 ≤ 250 by decide) (fun c hc => by simp at hc; subst hc; simp)
  rw [show aB = ⟨#[97]⟩ from rfl] at P2
  clear M1
  go_wp2_with fail
  refine P2.mono ?_
  rintro e w4 ⟨id2, fresh, rfl, HP⟩
  obtain ⟨rfl, hid, HC⟩ := PutRes.one HP.out HI.out rfl
  obtain rfl : id2 = id := hid
  have M2 := Lib.hid HC
  clear HP HC P2
  have AD := Add_yes w w4 we (fun _ => False) sb rb ti tl 3000 20 2 0 [⟨id2, page, 0, ⟨#[97]⟩⟩] [] [(page, ⟨#[97]⟩)] id2 true ⟨id2, page, 0, ⟨#[97]⟩⟩ M2 (by decide) hsz cAt_one
  rw [show byI true = 1 from rfl] at AD
  clear M2
  go_wp2_with fail
  refine AD.mono ?_
  rintro e w5 ⟨rfl, M3⟩
  clear AD
  have MG := Merge_k w w5 we (fun _ => False) sb rb ti tl 3000 20 3 1 [⟨id2, page, 0, ⟨#[97]⟩⟩] ([] ++ [Lg.mk 0 true id2]) [(page, ⟨#[97]⟩)] 9 9 rfl (by decide) M3 (show 3 + 2 * 1 ≤ 20 ∧ 20 ≤ 1000 by decide) (fun c hc => by simp at hc; subst hc; exact ⟨by show (-1000000 : Int) ≤ 0; decide, by show (0 : Int) ≤ 1000000; decide⟩)
  have e9 : (List.take 9 (([] : List Lg) ++ [(⟨0, true, id2⟩ : Lg)])).length = 1 := rfl
  rw [e9, show ((1 : Nat) : Int) = 1 from rfl] at MG
  clear M3
  go_wp2_with fail
  refine MG.mono ?_
  rintro e w6 ⟨rfl, HM⟩
  have M4 : Hid (Chs w we w6 (fun _ => False) sb rb ti tl 3000 20 5 [⟨id2, page, 1, ⟨#[97]⟩⟩] [] 1 [(page, ⟨#[97]⟩)]) := Lib.hid (by
    obtain ⟨C', h1, h2⟩ := HM.out
    have := Mg.one h1 (fun e he => by simp at he; subst he; rfl)
    rw [this] at h2
    simpa [Ck.add, pend, Lg.by] using h2)
  clear HM MG
  have CT := Count_yes w w6 we (fun _ => False) sb rb ti tl 3000 20 5 1 [⟨id2, page, 1, ⟨#[97]⟩⟩] [] [(page, ⟨#[97]⟩)] id2 ⟨id2, page, 1, ⟨#[97]⟩⟩ M4 (by decide) (by omega) cAt_one (by decide)
  simp only [pend] at CT
  clear M4
  go_wp2_with fail
  refine CT.mono ?_
  rintro e w7 ⟨rfl, M5⟩
  clear CT
  have GT := Get_yes w w7 we (fun _ => False) sb rb ti tl 3000 20 5 1 [⟨id2, page, 1, ⟨#[97]⟩⟩] [] [(page, ⟨#[97]⟩)] id2 ⟨id2, page, 1, ⟨#[97]⟩⟩ M5 (by decide) (by omega) cAt_one (by simp)
  simp only at GT
  have HB : Hid (∀ w8, Hid (Chs w we w8 (fun _ => False) sb rb ti tl 3000 20 5 [⟨id2, page, 1, ⟨#[97]⟩⟩] [] 1 [(page, ⟨#[97]⟩)]) → Below w.heap.size w w8) := Lib.hid fun w8 h => h.out.bel
  have hse : ((id2.size : Int) == 33) = true := by rw [hsz]; rfl
  clear M5 hsz
  go_wp2_with fail
  refine GT.mono ?_
  rintro e w8 ⟨rfl, M6⟩
  clear GT
  go_wp2_with fail
  go_ret
  exact ⟨rfl, Lib.hid (HB.out _ M6)⟩
end Go.Proofs.YtdcjhpafipbpkaaGreatDoor
namespace Go.Proofs.YtdcjhpafipbpkaaGreatDoor
set_option linter.unusedVariables false
set_option maxRecDepth 100000
set_option maxHeartbeats 2000000
open Go.RowKit
theorem read_ck (c : Ck) (hc : c.Ok) (W : World) : Calls Tryz.prog 88 #[.string ⟨#[104, 98, 110]⟩, .string c.val] W fun e w' => ∃ g k, W.heap.size ≤ g ∧ e = .returned (.tuple #[.slice (some ⟨g, 0, none⟩) 3 k, .bool true]) ∧ (w'.cell? ⟨g, 2, none⟩ = some (.int .u64 (c.text.size : Int)) ∧ w'.cell? ⟨g, 4, none⟩ = some (.int .u64 (sgn64 c.cnt : Int))) ∧ Hid (Below W.heap.size W w') := by
  have RC := Read_cK kindsC c.val W (by decide) (by have := Ck.val_size c; omega)
  rw [Ck.read hc] at RC
  refine RC.mono ?_
  intro e w' hp
  obtain ⟨v, rfl, ho, hbl⟩ := hp
  rcases ho.2 with ⟨rfl, h0⟩ | ⟨g, cap, cur, rfl, hbg, -⟩
  · exact absurd h0 (by simp [Ck.flds])
  · refine ⟨g, cap, hbg, rfl, ?_, Lib.hid hbl⟩
    have c := fun i (hi : i < 6) => ho.cellAt i (by simpa [Ck.flds] using hi)
    exact ⟨c 2 (by decide), c 4 (by decide)⟩
theorem infoC : (Tryz.prog.info? 106).map (fun i => (i.zero, i.size, i.bytes)) = some (some (.agg #[.string ⟨#[]⟩, .int .i64 0, .int .i64 0]), 3, 32) := by kernel_rfl
def chkC (C : List Ck) : List Value := C.flatMap fun c => [.string c.id, .int .i64 (c.text.size : Int), .int .i64 c.cnt]
theorem chkC_snoc (T : List Ck) (c : Ck) : chkC (T ++ [c]) = chkC T ++ [.string c.id, .int .i64 (c.text.size : Int), .int .i64 c.cnt] := by simp [chkC]
/-- Where All is. -/
def AlRel (W0 : World) (T : List Ck) (i : Nat) (v : Value) (wr : World) : Prop := wr.ownsRow W0.heap.size 106 3 v i (chkC (T.take i)) ∧ Below W0.heap.size W0 wr
def AllEnd (w1 w w' : World) (K : Nat → Prop) (sb rb ti tl n N a : Nat) (C : List Ck) (L : List Lg) (nx : Nat) (X : List (Nat × ByteArray)) (v : Value) : Prop :=
  w'.ownsRow 0 106 3 v C.length (chkC C) ∧ Chs w1 w' w' (fun k => K k ∨ v.ownBlock = some k) sb rb ti tl n N a C L nx X ∧ Kept K w w'
/-- What a scan of the map of names leaves. -/
def IdxSc (w1 w w' : World) (K : Nat → Prop) (sb rb ti tl n N a : Nat) (C : List Ck) (L : List Lg) (nx : Nat) (X : List (Nat × ByteArray)) (v : Value) : Prop :=
  w'.ownsRow (w.heap.size + 2) 170 2 v C.length (pairC (C.map encC)) ∧ Chs w1 w' w' (fun k => K k ∨ (w.heap.size ≤ k ∧ k < w'.heap.size)) sb rb ti tl n N a C L nx X ∧ Kept K w w'
section
variable (w1 w w0 : World) (K : Nat → Prop) (sb rb ti tl n N a nx : Nat) (C : List Ck) (L : List Lg) (X : List (Nat × ByteArray))
theorem idx_scan (h : Hid (Chs w1 w0 w K sb rb ti tl n N a C L nx X)) (hN : a ≤ N ∧ N ≤ 1000) (hL : C.length ≤ 1000000) :
    Calls Tryz.prog 87 #[.pointer (some ⟨ti, 0, none⟩), .string ⟨#[]⟩, .string ⟨#[]⟩, .int .i64 33554432] w fun e w' => ∃ v, e = .returned (.tuple #[v, .int .i64 0]) ∧ Hid (IdxSc w1 w w' K sb rb ti tl n N a C L nx X v) := by
  obtain ⟨S, o0, o1, h1, h2, h3, h4, h5⟩ := h.out
  have hl : (entsO o0).length = C.length := by rw [h3.eq, List.length_map]
  have SC := scan_g w1 w _ ti rb 0 n (300 * a) S o0 ⟨#[]⟩ ⟨#[]⟩ 33554432 h1.1.1 h1.1.2.2.1 (.inr (.inr (.inl rfl))) h2.t0 (by decide) (by omega) (by have := h2.hgt0 (by omega); omega) (by omega) (by decide) (by decide)
  rw [from_nil, sRun_take 33554432 _ [] (Nat.zero_le _), List.nil_append, h3.eq, List.length_nil, Nat.sub_zero, ← List.map_take, List.take_of_length_le (by omega), List.length_map] at SC
  refine SC.mono ?_
  rintro e w' ⟨v, rfl, hE⟩
  obtain ⟨r1, r2, r3⟩ := hE.out
  have hg := h1.1.of (r2.mono fun k hk => .inl hk) r3
  refine ⟨v, rfl, Lib.hid ⟨r1, ⟨S, o0, o1, ⟨⟨r2.mono fun k hk => ?_, hg.1.2⟩, fun _ _ => rfl⟩, h2, h3, h4, h5⟩, hg.2⟩⟩
  rcases hk with (hk | hk) | hk
  · exact .inl (.inl hk)
  · exact .inr hk
  · exact .inl (.inr hk)
theorem All_k (h : Hid (Chs w1 w0 w K sb rb ti tl n N a C L nx X)) (hN : a ≤ N ∧ N ≤ 1000) (hL : C.length ≤ 1000000) :
    Calls Tryz.prog 30 #[.pointer (some ⟨sb, 0, none⟩)] w fun e w' => ∃ v, e = .returned (.tuple #[v, .int .i64 0]) ∧ Hid (AllEnd w1 w w' K sb rb ti tl n N a C L nx X v) := by
  have SC := idx_scan w1 w w0 K sb rb ti tl n N a nx C L X h hN hL
  have HOK : Hid (∀ c ∈ C, c.Ok) := Lib.hid h.out.ok.1
  have HLEN : Hid (C.length ≤ 1000000) := Lib.hid hL
  obtain ⟨s0, s1, s2⟩ := h.out.sbk.cells
  have HH := Lib.hid h.out.kept
  clear h hN hL
  go_enter Tryz.func30, Tryz.ntmps30
  go_wp2_with fail
  refine SC.mono ?_
  rintro e w4 ⟨v, rfl, HS⟩
  clear SC
  obtain ⟨va, vc, hv⟩ : ∃ va vc, v = .slice va C.length vc := by
    rcases HS.out.1.2 with ⟨rfl, h0⟩ | ⟨g, cap, cur, rfl, -⟩
    · exact ⟨_, _, by rw [h0]⟩
    · exact ⟨_, _, rfl⟩
  subst hv
  have CE : Hid (∀ i (hi : i < C.length), ∃ g, va = some ⟨g, 0, none⟩ ∧ g < w4.heap.size ∧ w4.cell? ⟨g, i * 2, none⟩ = some (.string C[i].id) ∧ w4.cell? ⟨g, i * 2 + 1, none⟩ = some (.string C[i].val)) := Lib.hid fun i hi => by
    have hr := HS.out.1
    rcases hr.2 with ⟨e, h0⟩ | ⟨g, cap, cur, e, h1, h2, -⟩
    · omega
    · cases e
      have hl : i < (C.map encC).length := by simpa using hi
      obtain ⟨x, y⟩ := pairK_get (C.map encC) i hl
      refine ⟨g, rfl, lt_of_heap h2, ?_, ?_⟩
      · rw [hr.cellAt (i * 2) (by omega), x]; simp [encC]
      · rw [hr.cellAt (i * 2 + 1) (by omega), y]; simp [encC]
  have R0 : Hid (AlRel w4 C 0 (.slice none 0 0) w4) := Lib.hid ⟨World.ownsRow_nil _ _ _ _, Below.refl _ _⟩
  have HEND : Hid (∀ v w', AlRel w4 C C.length v w' → AllEnd w1 w w' K sb rb ti tl n N a C L nx X v) := Lib.hid fun v w' hr => by
    obtain ⟨h1, h2⟩ := hr
    rw [List.take_length] at h1
    obtain ⟨g1, g2⟩ := HS.out.2
    have hm := g1.mono (K' := K) fun k hk => .inl hk
    have hb : Chs w1 w' w' (fun k => K k ∨ v.ownBlock = some k) sb rb ti tl n N a C L nx X := by
      obtain ⟨S, o0, o1, x1, x2⟩ := hm
      refine ⟨S, o0, o1, ⟨(x1.1.belowK h2).1.mono fun k hk => hk.imp id fun hk => h1.lt k hk, fun _ _ => rfl⟩, x2⟩
    exact ⟨own_le h1 (Nat.zero_le _), hb, g2.trans (hm.keep h2)⟩
  obtain ⟨jE, hjE, hE0, hE1, hE2⟩ := info_parts infoC
  go_wp2_with fail
  go_loopg [6, 8, 9, 10, 26] C.length (fun g s6 s8 s9 s10 s26 wr => ∃ (i : Nat) (sv : Value), g = C.length - i ∧ i ≤ C.length ∧ s26 = .int .i64 (i : Int) ∧ sv = s6 ∧ Hid (AlRel w4 C i sv wr))
  case atStart => exact ⟨0, _, rfl, Nat.zero_le _, rfl, rfl, R0⟩
  case round =>
    obtain ⟨i, sv, rfl, hi, rfl, rfl, HR⟩ := hrel
    clear R0
    by_cases hlt : i < C.length
    · obtain ⟨g, rfl, hg, c0, c1⟩ := CE.out i hlt
      have hbl := HR.out.2
      have d0 : wr.cell? ⟨g, i * 2, none⟩ = some (.string C[i].id) := (hbl.cell (p := ⟨g, i * 2, none⟩) hg).trans c0
      have d1 : wr.cell? ⟨g, i * 2 + 1, none⟩ = some (.string C[i].val) := (hbl.cell (p := ⟨g, i * 2 + 1, none⟩) hg).trans c1
      have hok := HOK.out C[i] (List.getElem_mem hlt)
      have RD := fun W => read_ck C[i] hok W
      have HSTEP : Hid (∀ v' W5, W5.ownsRow w4.heap.size 106 3 v' (i + 1) (chkC (C.take i) ++ [.string C[i].id, .int .i64 (C[i].text.size : Int), .int .i64 C[i].cnt]) → Below w4.heap.size w4 W5 → AlRel w4 C (i + 1) v' W5) := Lib.hid fun v' W5 ho hb => by
        refine ⟨?_, hb⟩
        rw [List.take_succ_eq_append_getElem hlt, chkC_snoc]
        exact ho
      have u0 : IntKind.i64.wrap ((C[i].text.size : Nat) : Int) = ((C[i].text.size : Nat) : Int) := wrap_sgn (by omega) (by have := hok.t2; omega)
      have u1 : IntKind.i64.wrap (sgn64 C[i].cnt : Int) = C[i].cnt := sgn64_back _ (by have := hok.c1; omega) (by have := hok.c2; omega)
      have HLT := Lib.hid hlt
      have hl64 : i ≤ 1000000 := by have := HLEN.out; omega
      clear c0 c1 hok hi
      have HL : Hid (i + 1 ≤ maxLen ∧ (i + 1) * 32 ≤ 140737488355328) := Lib.hid (by unfold maxLen; omega)
      generalize C[i].val = vl at *
      generalize C[i].id = ky at *
      generalize C[i].text.size = z1 at *
      generalize sgn64 C[i].cnt = z2 at *
      generalize C[i].cnt = z3 at *
      clear hlt hbl
      go_wp2_with fail
      refine (RD _).mono ?_
      rintro e w6 ⟨gf, kf, hgf, rfl, ⟨f2, f4⟩, hb6⟩
      have hbp : w6.cell? ⟨wr.heap.size, 0, none⟩ = some (.string ky) := cell_lit ((hb6.out.block wr.heap.size (by simp)).trans (heap_alloc_new wr _)) rfl
      have hb7 : Below wr.heap.size wr w6 := ((Below.refl wr.heap.size wr).alloc (Nat.le_refl _) _).trans (hb6.out.mono (by simp))
      have HB6 : Hid (Below w4.heap.size w4 w6.drew) := Lib.hid (HR.out.2.trans (hb7.drew.mono HR.out.2.size))
      have HOD : Hid (w6.drew.ownsRow w4.heap.size 106 3 sv i (chkC (C.take i))) := Lib.hid (ownsRow_upd HR.out.1 (hb7.drew.upd' (Nat.le_refl _)) (fun _ _ e => e))
      have HBX : Hid (∀ o, w4.heap.size ≤ (w6.drew.alloc o).heap.size) := Lib.hid fun o => by have := HB6.out.size; simp at this ⊢; omega
      have CK : Hid (∀ o W5, (w6.drew.alloc o).grownBy W5 sv.ownBlock → W5.cell? ⟨wr.heap.size, 0, none⟩ = some (.string ky) ∧ W5.cell? ⟨gf, 2, none⟩ = some (.int .u64 (z1 : Int)) ∧ W5.cell? ⟨gf, 4, none⟩ = some (.int .u64 (z2 : Int))) := Lib.hid fun o W5 hg => by
        have q : ∀ b i v, wr.heap.size ≤ b → w6.cell? ⟨b, i, none⟩ = some v → W5.cell? ⟨b, i, none⟩ = some v := fun b i v hb hc => by
          have hbb : Below w6.heap.size w6 (w6.drew.alloc o) := ((Below.refl w6.heap.size w6).drew).alloc (Nat.le_refl _) _
          refine hg.cell ((hbb.cell (p := ⟨b, i, none⟩) (World.block_lt_of_cell? w6 _ hc)).trans hc) fun e => ?_
          have := HR.out.1.lt b e.symm
          omega
        have hgf' : wr.heap.size ≤ gf := by simp at hgf; omega
        exact ⟨q _ _ _ (Nat.le_refl _) hbp, q _ _ _ hgf' f2, q _ _ _ hgf' f4⟩
      clear hb6 hb7 RD d0 d1 hgf
      go_wp2_with fail
      go_region_held3 (fun w' => w'.cell? ⟨wr.heap.size, 0, none⟩ = some (.string ky) ∧ w'.cell? ⟨gf, 2, none⟩ = some (.int .u64 (z1 : Int)) ∧ w'.cell? ⟨gf, 4, none⟩ = some (.int .u64 (z2 : Int))) (go_keep) ((first
        | (refine step_append_y (by rfl) _ _ _ (by rfl) w4.heap.size 106 jE _ 3 32 Tryz.underlying68 hjE hE0 hE1 hE2 rfl (by decide) _ _ _ (by rfl) (HOD.out.alloc _) _ 1 _ (by rfl) (yields_boxL _ #[.string ky, .int .i64 (z1 : Int), .int .i64 z3] _ 1 1) rfl (one3 _ _ _ rfl rfl rfl) HL.out.1 HL.out.2 (HBX.out _) ?_
           intro v5 W5 ho5 hg5 ha5
           have HN5 := Lib.hid (HSTEP.out v5 W5 ho5 ((HB6.out.alloc HB6.out.size _).grown hg5 (HBX.out _) (fun k e => (HOD.out.lt k e).1)))
           obtain ⟨k0, k1, k2⟩ := CK.out _ W5 hg5
           clear ho5 hg5 ha5)))
      all_goals go_wp2_with fail
      all_goals go_roundg (C.length - (i + 1))
      all_goals (first
        | (case measure => have := HLT.out; omega)
        | (case rel => exact ⟨i + 1, _, rfl, HLT.out, by congr 1, rfl, HN5⟩))
    · obtain rfl : i = C.length := by omega
      have HE := Lib.hid (HEND.out _ _ HR.out)
      clear hlt hi
      go_wp2_with fail
      go_ret2
      exact ⟨_, rfl, HE⟩
end
end Go.Proofs.YtdcjhpafipbpkaaGreatDoor
namespace Go.Proofs.YtdcjhpafipbpkaaGreatDoor
open Go.RowKit Go.MapKept
section
variable {κ α : Type} [DecidableEq κ] {K : KEnc κ} {V : α → Value} {w : World} {r it : Nat} {m left : List (κ × α)}

def leftPairs (es : List MapEntry) (m0 : List (κ × α)) (seen : Array Nat) : List (κ × α) := ((es.zip m0).filter (fun z => !seen.contains z.1.born)).map Prod.snd
/-- Block it ranges over the map of block r; the pairs of 'left' are still to come. -/
def IterIs (K : KEnc κ) (V : α → Value) (w : World) (it r : Nat) (m left : List (κ × α)) : Prop :=
  ∃ (es : Array MapEntry) (clock : Nat) (m0 : List (κ × α)) (seen : Array Nat), w.heap[r]? = some (.map es clock) ∧ Stamped es clock ∧ es.toList.map (fun e => (e.key, e.val)) = m0.map (fun p => (K.enc p.1, V p.2)) ∧ m0.Perm m ∧
    w.heap[it]? = some (.mapIter (some r) clock seen clock) ∧ (leftPairs es.toList m0 seen).Perm left

omit [DecidableEq κ] in
theorem ents_len {es : List MapEntry} {m0 : List (κ × α)} (he : es.map (fun e => (e.key, e.val)) = m0.map (fun p => (K.enc p.1, V p.2))) : es.length = m0.length := by
  have := congrArg List.length he; simpa using this
theorem perm_cons_filter {β : Type} (f : β → Nat) : ∀ (l : List β), (l.map f).Nodup → ∀ x ∈ l, l.Perm (x :: l.filter (fun y => f y != f x))
  | [], _, x, hx => by simp at hx
  | y :: l, hn, x, hx => by
    simp only [List.map_cons, List.nodup_cons] at hn
    have hall : ∀ z ∈ l, f z ≠ f y := fun z hz e => hn.1 (e ▸ List.mem_map.2 ⟨z, hz, rfl⟩)
    rcases List.mem_cons.1 hx with rfl | hx
    · rw [List.filter_cons_of_neg (by simp), List.filter_eq_self.2 (fun z hz => by simpa using hall z hz)]
    · rw [List.filter_cons_of_pos (by have := hall x hx; simpa using Ne.symm this)]
      exact ((perm_cons_filter f l hn.2 x hx).cons y).trans (List.Perm.swap x y _)
theorem filter_split {β : Type} (p q : β → Bool) (f : β → Nat) (l : List β) (hn : (l.map f).Nodup) (x : β) (hx : x ∈ l) (hp : p x = true) (hq : ∀ y, q y = (p y && (f y != f x))) : (l.filter p).Perm (x :: l.filter q) := by
  have h1 := perm_cons_filter f (l.filter p) (hn.sublist (List.Sublist.map _ List.filter_sublist)) x (List.mem_filter.2 ⟨hx, hp⟩)
  rw [List.filter_filter] at h1
  have e : (fun a => (f a != f x) && p a) = q := funext fun y => by rw [hq, Bool.and_comm]
  rw [e] at h1
  exact h1

omit [DecidableEq κ] in
theorem IterIs.start (h : MapIs K V w r m) {P : Program} {t kt et : TypeId} (ht : P.underlying t = some (.map kt et)) :
    ∃ w', (Instr.range t (.map (some r))).run P w = .ok (.pointer (some ⟨w.heap.size, 0, none⟩)) w' ∧ IterIs K V w' w.heap.size r m m ∧ Upd (fun _ => False) w w' ∧ w'.heap.size = w.heap.size + 1 := by
  obtain ⟨es, clock, m0, hb, hs, he, hm⟩ := h
  refine ⟨w.alloc (.mapIter (some r) clock #[] clock), run_range_map w t kt et r es clock ht hb, ⟨es, clock, m0, #[], (heap_alloc_lt _ (lt_of_heap hb)).trans hb, hs, he, hm, heap_alloc_new _ _, ?_⟩, (Upd.refl _ _).alloc _, by simp⟩
  have e : leftPairs es.toList m0 #[] = m0 := by
    unfold leftPairs
    rw [List.filter_eq_self.2 (by simp)]
    exact List.map_snd_zip (by have := ents_len he; omega)
  rw [e]; exact hm
omit [DecidableEq κ] in
theorem IterIs.lt (h : IterIs K V w it r m left) : it < w.heap.size ∧ r < w.heap.size ∧ it ≠ r := by
  obtain ⟨es, clock, m0, seen, hb, _, _, _, hi, _⟩ := h
  exact ⟨lt_of_heap hi, lt_of_heap hb, fun e => by subst e; rw [hb] at hi; cases hi⟩
omit [DecidableEq κ] in
theorem IterIs.upd (h : IterIs K V w it r m left) {S : Nat → Prop} {w' : World} (hu : Upd S w w') (h1 : ¬ S it) (h2 : ¬ S r) : IterIs K V w' it r m left := by
  obtain ⟨es, clock, m0, seen, hb, hs, he, hm, hi, hl⟩ := h
  exact ⟨es, clock, m0, seen, hu.at hb h2, hs, he, hm, hu.at hi h1, hl⟩
omit [DecidableEq κ] in
theorem IterIs.map (h : IterIs K V w it r m left) : MapIs K V w r m := by
  obtain ⟨es, clock, m0, seen, hb, hs, he, hm, hi, hl⟩ := h
  exact ⟨es, clock, m0, hb, hs, he, hm⟩
omit [DecidableEq κ] in
theorem mem_zip_of {es : List MapEntry} {m0 : List (κ × α)} (hl : es.length = m0.length) {e : MapEntry} (he : e ∈ es) : ∃ p, (e, p) ∈ es.zip m0 := by
  obtain ⟨j, hj, rfl⟩ := List.mem_iff_getElem.1 he
  exact ⟨m0[j]'(by omega), List.mem_iff_getElem.2 ⟨j, by simp; omega, by simp⟩⟩
omit [DecidableEq κ] in
theorem zip_get {es : List MapEntry} {m0 : List (κ × α)} (he : es.map (fun e => (e.key, e.val)) = m0.map (fun p => (K.enc p.1, V p.2))) {z : MapEntry × (κ × α)} (hz : z ∈ es.zip m0) : z.1.key = K.enc z.2.1 ∧ z.1.val = V z.2.2 := by
  obtain ⟨j, hj, rfl⟩ := List.mem_iff_getElem.1 hz
  simp only [List.length_zip] at hj
  have h1 : (es.map (fun e => (e.key, e.val)))[j]? = (m0.map (fun p => (K.enc p.1, V p.2)))[j]? := by rw [he]
  have g1 : es[j]? = some (es[j]'(by omega)) := List.getElem?_eq_getElem _
  have g2 : m0[j]? = some (m0[j]'(by omega)) := List.getElem?_eq_getElem _
  rw [List.getElem?_map, List.getElem?_map, g1, g2] at h1
  simpa using h1

omit [DecidableEq κ] in
theorem IterIs.next (h : IterIs K V w it r m left) {P : Program} (ty : TypeId) :
    (left = [] ∧ (Instr.next (.pointer (some ⟨it, 0, none⟩)) false ty).run P w = .ok (.tuple #[.bool false]) w) ∨
    ∃ k a left' w', (Instr.next (.pointer (some ⟨it, 0, none⟩)) false ty).run P w = .ok (.tuple #[.bool true, K.enc k, V a]) w' ∧ left.Perm ((k, a) :: left') ∧ IterIs K V w' it r m left' ∧ Upd (fun j => j = it) w w' ∧ w'.heap.size = w.heap.size ∧
      (Instr.entry (.pointer (some ⟨it, 0, none⟩))).run P w' = .ok (.tuple #[K.enc k, V a]) w' := by
  obtain ⟨es, clock, m0, seen, hb, hs, he, hm, hi, hl⟩ := h
  have hlen := ents_len he
  rcases run_next_at (P := P) w ty it r clock clock seen es clock hi hb hs.1 (Nat.le_refl _) with ⟨h0, hrun⟩ | ⟨e, hel, w1, hw1, hrun⟩
  · refine .inl ⟨?_, hrun⟩
    have hall := all_seen es seen h0
    have : leftPairs es.toList m0 seen = [] := by
      unfold leftPairs
      rw [List.map_eq_nil_iff, List.filter_eq_nil_iff]
      intro z hz
      have := hall z.1 (List.of_mem_zip hz).1
      simp at this ⊢; exact this
    rw [this] at hl
    exact hl.symm.eq_nil
  · obtain ⟨hmem, hns⟩ := mem_left hel
    obtain ⟨p, hz⟩ := mem_zip_of hlen hmem
    obtain ⟨ek, ev⟩ := zip_get he hz
    simp only at ek ev
    rw [ek, ev] at hrun
    have hir : it ≠ r := fun e => by subst e; rw [hb] at hi; cases hi
    have hw1h : w1.heap = w.heap := by rcases hw1 with rfl | rfl <;> rfl
    have hu : Upd (fun j => j = it) w (ChangeMaps.setBlock w1 it (.mapIter (some r) clock (seen.push e.born) clock)) := by
      refine ⟨?_, ?_, ?_, by simp [ChangeMaps.setBlock, hw1h], fun k _ hn => by simp [ChangeMaps.setBlock, hw1h, Ne.symm hn]⟩ <;> (rcases hw1 with rfl | rfl <;> rfl)
    have hit : (ChangeMaps.setBlock w1 it (.mapIter (some r) clock (seen.push e.born) clock)).heap[it]? = some (.mapIter (some r) clock (seen.push e.born) clock) := by
      simp [ChangeMaps.setBlock, hw1h, lt_of_heap hi]
    have hbr : (ChangeMaps.setBlock w1 it (.mapIter (some r) clock (seen.push e.born) clock)).heap[r]? = some (.map es clock) := hu.at hb (Ne.symm hir)
    have hsplit : ((es.toList.zip m0).filter (fun z => !seen.contains z.1.born)).Perm ((e, p) :: (es.toList.zip m0).filter (fun z => !(seen.push e.born).contains z.1.born)) := by
      refine filter_split _ _ (fun z => z.1.born) _ ?_ (e, p) hz (by simpa using hns) (fun y => ?_)
      · have : (es.toList.zip m0).map (fun z => z.1.born) = es.toList.map (·.born) := by
          rw [← List.map_fst_zip (l₁ := es.toList) (l₂ := m0) (by omega), List.map_map]
          simp [Function.comp_def, List.map_fst_zip (l₁ := es.toList) (l₂ := m0) (by omega)]
        rw [this]; exact hs.2.1
      · rw [contains_push]
        cases hc : seen.contains y.1.born <;> simp [bne, Bool.beq_comm]
    refine .inr ⟨p.1, p.2, leftPairs es.toList m0 (seen.push e.born), _, hrun, ?_, ⟨es, clock, m0, seen.push e.born, hbr, hs, he, hm, hit, .refl _⟩, hu, by simp [ChangeMaps.setBlock, hw1h], ?_⟩
    · have := hsplit.map Prod.snd
      exact hl.symm.trans this
    · have := run_entry_at (P := P) _ it r clock seen es clock e hit hbr hmem hs.2.1
      rw [ek, ev] at this
      exact this
end
end Go.Proofs.YtdcjhpafipbpkaaGreatDoor
namespace Go.Proofs.YtdcjhpafipbpkaaGreatDoor
set_option linter.unusedVariables false
set_option maxRecDepth 100000
set_option maxHeartbeats 1000000
open Go.RowKit
/-- The store has just the texts that have names, each by its name. -/
structure TxIn (C : List Ck) (X : List (Nat × ByteArray)) (M : List (ByteArray × ByteArray)) : Prop where
  x : ∀ c ∈ C, (c.page, c.text) ∈ X
  len : C.length = M.length
  cm : ∀ c ∈ C, look M c.text = some c.id
  mc : ∀ t id, look M t = some id → ∃ c ∈ C, c.text = t ∧ c.id = id
  nm : ∀ c ∈ C, ∃ k, k < 256 ∧ c.id = nameB (prB c.text) k
theorem TxIn.nil : TxIn [] [] [] := ⟨fun c h => (by cases h), rfl, fun c h => (by cases h), fun t id h => (by cases h), fun c h => (by cases h)⟩
theorem TxIn.old {C : List Ck} {X : List (Nat × ByteArray)} {M : List (ByteArray × ByteArray)} (h : TxIn C X M) (hs : CSrt C) {t id0 : ByteArray} (hl : look M t = some id0) : ∃ k c, k < 256 ∧ id0 = nameB (prB t) k ∧ cAt C id0 = some c ∧ c.text = t := by
  obtain ⟨c, h1, h2, h3⟩ := h.mc t id0 hl
  obtain ⟨k, h4, h5⟩ := h.nm c h1
  refine ⟨k, c, h4, by rw [← h2, ← h5, h3], ?_, h2⟩
  rw [← h3]; exact cAt_of hs h1
theorem PutC.new {c : Ck} {C C' : List Ck} (h : PutC c C C') (hn : cAt C c.id = none) : C'.length = C.length + 1 ∧ (∀ d, d ∈ C' ↔ d = c ∨ d ∈ C) := by
  obtain ⟨A, B, rfl, h', -, -⟩ := h
  rcases h' with rfl | ⟨c0, e, rfl⟩
  · refine ⟨by simp; omega, fun d => ?_⟩
    simp only [List.mem_append, List.mem_cons]
    constructor
    · rintro (h | h | h)
      · exact .inr (.inl h)
      · exact .inl h
      · exact .inr (.inr h)
    · rintro (h | h | h)
      · exact .inr (.inl h)
      · exact .inl h
      · exact .inr (.inr h)
  · exact absurd e (cAt_none hn c0 (by simp))
theorem TxIn.new {C C' : List Ck} {X : List (Nat × ByteArray)} {M : List (ByteArray × ByteArray)} (h : TxIn C X M) {t id : ByteArray} {page k : Nat} (hl : look M t = none) (hk : k < 256) (hid : id = nameB (prB t) k) (hn : cAt C id = none) (hp : PutC ⟨id, page, 0, t⟩ C C') : TxIn C' ((page, t) :: X) (put M t id) := by
  obtain ⟨h1, h2⟩ := hp.new hn
  refine ⟨fun c hc => ?_, ?_, fun c hc => ?_, fun t' id' h' => ?_, fun c hc => ?_⟩
  · rcases (h2 c).1 hc with rfl | hc
    · simp
    · exact List.mem_cons_of_mem _ (h.x c hc)
  · rw [h1, h.len]; unfold put; rw [del_of_none hl]; simp
  · rw [look_put]
    rcases (h2 c).1 hc with rfl | hc
    · simp
    · have h3 := h.cm c hc
      by_cases e : t = c.text
      · rw [← e, hl] at h3; cases h3
      · rw [if_neg e]; exact h3
  · rw [look_put] at h'
    by_cases e : t = t'
    · rw [if_pos e] at h'
      cases h'
      exact ⟨_, (h2 _).2 (.inl rfl), e, rfl⟩
    · rw [if_neg e] at h'
      obtain ⟨c, g1, g2⟩ := h.mc t' id' h'
      exact ⟨c, (h2 c).2 (.inr g1), g2⟩
  · rcases (h2 c).1 hc with rfl | hc
    · exact ⟨k, hk, hid⟩
    · exact h.nm c hc
/-- Names are unlike. -/
theorem TxIn.inj {C : List Ck} {X : List (Nat × ByteArray)} {M : List (ByteArray × ByteArray)} (h : TxIn C X M) (hs : CSrt C) {t t' id : ByteArray} (h1 : look M t = some id) (h2 : look M t' = some id) : t = t' := by
  obtain ⟨c, a1, a2, a3⟩ := h.mc t id h1
  obtain ⟨d, b1, b2, b3⟩ := h.mc t' id h2
  have := hs.uniq a1 b1 (a3.trans b3.symm)
  rw [← a2, ← b2, this]
theorem look_same {M : List (ByteArray × ByteArray)} (hn : (M.map Prod.fst).Nodup) {t id : ByteArray} (h : look M t = some id) : (put M t id).Perm M := by
  refine perm_of_look (nodup_put hn t id) hn fun k => ?_
  rw [look_put]
  by_cases e : t = k
  · rw [if_pos e, ← e, h]
  · rw [if_neg e]
/-! ### the store beside blocks that a caller changes -/
theorem RSt.upd {w1 w w' : World} {K F : Nat → Prop} {rb n m : Nat} {S : RS} (h : RSt w1 w K rb n m S) (hu : Upd F w w') (hF : ∀ k, F k → K k ∧ w1.heap.size ≤ k) : RSt w1 w' K rb n m S := by
  obtain ⟨G, a, b, d, e⟩ := h
  exact ⟨G, a.frame hu fun k hk hf => (d k (hF k hf).1).2 hk, b, fun k hk => ⟨Nat.lt_of_lt_of_le (d k hk).1 hu.size, (d k hk).2⟩, e.trans (hu.below e.size fun k hk hf => by have := (hF k hf).2; omega)⟩
theorem Chs.upd {w1 w0 w w' : World} {K F : Nat → Prop} {sb rb ti tl n N a nx : Nat} {C : List Ck} {L : List Lg} {X : List (Nat × ByteArray)} (h : Chs w1 w0 w K sb rb ti tl n N a C L nx X) (hu : Upd F w w') (hF : ∀ k, F k → K k ∧ w1.heap.size ≤ k ∧ k ≠ sb ∧ k ≠ ti ∧ k ≠ tl) : Chs w1 w' w' K sb rb ti tl n N a C L nx X := by
  obtain ⟨S, o0, o1, h1, h2⟩ := h
  have hs := h1.1.2
  refine ⟨S, o0, o1, ⟨⟨h1.1.1.upd hu fun k hk => ⟨.inl (hF k hk).1, (hF k hk).2.1⟩, ?_, ?_, ?_⟩, fun _ _ => rfl⟩, h2⟩
  · exact hu.at hs.1 fun hf => (hF _ hf).2.2.1 rfl
  · exact hu.at hs.2.1 fun hf => (hF _ hf).2.2.2.1 rfl
  · exact hu.at hs.2.2 fun hf => (hF _ hf).2.2.2.2 rfl
/-- The law's state: the store, beside blocks K. -/
def TxSt (w1 w0 w : World) (K : Nat → Prop) (sb rb ti tl : Nat) (M : List (ByteArray × ByteArray)) (i : Nat) : Prop :=
  ∃ C X a, Chs w1 w0 w K sb rb ti tl 30000 60 a C [] 0 X ∧ TxIn C X M ∧ a ≤ 2 * i
section
variable {w1 w0 w w' : World} {K : Nat → Prop} {sb rb ti tl i : Nat} {M : List (ByteArray × ByteArray)} {t : ByteArray}
theorem tx_put (h : TxSt w1 w0 w K sb rb ti tl M i) (hi : i < 20) (hM : M.length ≤ 20) (h1 : 1 ≤ t.size) (h2 : t.size ≤ 128) :
    Calls Tryz.prog 18 #[.pointer (some ⟨sb, 0, none⟩), .string t] w fun e w' => ∃ id fresh, e = .returned (.tuple #[.string id, .bool fresh, .int .i64 0]) ∧ ((fresh = false ∧ look M t = some id ∧ Hid (TxSt w1 w0 w' K sb rb ti tl M (i + 1))) ∨ (fresh = true ∧ look M t = none ∧ Hid (TxSt w1 w0 w' K sb rb ti tl (put M t id) (i + 1)))) := by
  obtain ⟨C, X, a, c1, c2, c3⟩ := h
  refine (Put_k w1 w w0 K sb rb ti tl 30000 60 a 0 C [] X t (Lib.hid c1) (by omega) h1 h2 (by rw [c2.len]; omega) c2.x).mono ?_
  rintro e w' ⟨id, fresh, rfl, hE⟩
  have hs := c1.ok.2.1
  refine ⟨id, fresh, rfl, ?_⟩
  rcases hE.out with ⟨hf, k, c, hk, hid, hc, ht, -, hE⟩ | ⟨hf, k, page, C', hk, hid, hc, -, hno, hp, hE⟩
  · obtain ⟨m1, m2⟩ := cAt_some hc
    refine .inl ⟨hf, by have := c2.cm c m1; rwa [ht, m2] at this, Lib.hid ⟨C, X, a, hE, c2, by omega⟩⟩
  · cases hl : look M t with
    | some id0 =>
      obtain ⟨k0, c, q1, q2, q3, q4⟩ := c2.old hs hl
      exact absurd q4 (hno k0 q1 c (by rw [← q2]; exact q3))
    | none => exact .inr ⟨hf, rfl, Lib.hid ⟨C', _, _, hE, c2.new hl hk hid hc hp, by omega⟩⟩
theorem tx_get (h : TxSt w1 w0 w K sb rb ti tl M i) (hi : i ≤ 20) {id : ByteArray} (hl : look M t = some id) :
    Calls Tryz.prog 29 #[.pointer (some ⟨sb, 0, none⟩), .string id] w fun e w' => e = .returned (.tuple #[.string t, .int .i64 0]) ∧ Hid (TxSt w1 w0 w' K sb rb ti tl M i) := by
  obtain ⟨C, X, a, c1, c2, c3⟩ := h
  have hs := c1.ok.2.1
  obtain ⟨k0, c, q1, q2, q3, q4⟩ := c2.old hs hl
  have hm := cAt_some q3
  have hsz : id.size = 33 := by rw [q2, nameB_size, prB_size]
  have GT := Get_yes w1 w w0 K sb rb ti tl 30000 60 a 0 C [] X id c (Lib.hid c1) (by omega) (by omega) q3 (c2.x c hm.1)
  rw [q4] at GT
  refine GT.mono ?_
  rintro e w' ⟨rfl, hE⟩
  exact ⟨rfl, Lib.hid ⟨C, X, a, hE.out, c2, c3⟩⟩
theorem tx_all (h : TxSt w1 w0 w K sb rb ti tl M i) (hi : i ≤ 20) (hM : M.length ≤ 20) :
    Calls Tryz.prog 30 #[.pointer (some ⟨sb, 0, none⟩)] w fun e w' => ∃ va vc, e = .returned (.tuple #[.slice va M.length vc, .int .i64 0]) ∧ Hid (TxSt w1 w0 w' K sb rb ti tl M i) := by
  obtain ⟨C, X, a, c1, c2, c3⟩ := h
  refine (All_k w1 w w0 K sb rb ti tl 30000 60 a 0 C [] X (Lib.hid c1) (by omega) (by rw [c2.len]; omega)).mono ?_
  rintro e w' ⟨v, rfl, hE⟩
  have hc := ((hE.out.2.1.mono fun k hk => Or.inl hk).to hE.out.2.2).to c1.kept
  obtain ⟨va, vc, rfl⟩ : ∃ va vc, v = .slice va C.length vc := by
    rcases hE.out.1.2 with ⟨rfl, h0⟩ | ⟨g, cap, cur, rfl, -⟩
    · exact ⟨_, _, by rw [h0]⟩
    · exact ⟨_, _, rfl⟩
  exact ⟨va, vc, by rw [c2.len], Lib.hid ⟨C, X, a, hc, c2, c3⟩⟩
theorem TxSt.upd {F : Nat → Prop} (h : TxSt w1 w0 w K sb rb ti tl M i) (hu : Upd F w w') (hF : ∀ k, F k → K k ∧ w1.heap.size ≤ k ∧ k ≠ sb ∧ k ≠ ti ∧ k ≠ tl) : TxSt w1 w' w' K sb rb ti tl M i := by
  obtain ⟨C, X, a, c1, c2, c3⟩ := h
  exact ⟨C, X, a, c1.upd hu hF, c2, c3⟩
theorem TxSt.bel (h : TxSt w1 w0 w K sb rb ti tl M i) : Below w1.heap.size w1 w := by
  obtain ⟨C, X, a, c1, c2, c3⟩ := h
  exact c1.bel
theorem TxSt.kept (h : TxSt w1 w0 w K sb rb ti tl M i) : Kept K w0 w := by
  obtain ⟨C, X, a, c1, c2, c3⟩ := h
  exact c1.kept
theorem TxSt.reset (h : TxSt w1 w0 w K sb rb ti tl M i) : TxSt w1 w w K sb rb ti tl M i := by
  obtain ⟨C, X, a, c1, c2, c3⟩ := h
  exact ⟨C, X, a, c1.reset, c2, c3⟩
theorem TxSt.new (h : TxSt w1 w0 w K sb rb ti tl M i) (hb : Below w.heap.size w w') (x : Nat) (h1 : w.heap.size ≤ x) (h2 : x < w'.heap.size) : TxSt w1 w' w' (fun k => K k ∨ k = x) sb rb ti tl M i := by
  obtain ⟨C, X, a, c1, c2, c3⟩ := h
  exact ⟨C, X, a, c1.new hb x h1 h2, c2, c3⟩
theorem TxSt.sbk (h : TxSt w1 w0 w K sb rb ti tl M i) : sb < w.heap.size ∧ ti < w.heap.size ∧ tl < w.heap.size := by
  obtain ⟨C, X, a, c1, c2, c3⟩ := h
  exact ⟨lt_of_heap c1.sbk.1, lt_of_heap c1.sbk.2.1, lt_of_heap c1.sbk.2.2⟩
end
end Go.Proofs.YtdcjhpafipbpkaaGreatDoor
namespace Go.Proofs.YtdcjhpafipbpkaaGreatDoor
set_option linter.unusedVariables false
set_option maxRecDepth 100000
set_option maxHeartbeats 4000000
open Go.RowKit
/-- The names so far, beside the store. -/
def TxA (w1 wr : World) (sb rb ti tl r1 i : Nat) (M : List (ByteArray × ByteArray)) : Prop :=
  TxSt w1 wr wr (fun k => k = r1) sb rb ti tl M i ∧ MapIs kStr Value.string wr r1 M ∧ M.length ≤ i ∧ (w1.heap.size ≤ r1 ∧ r1 ≠ sb ∧ r1 ≠ ti ∧ r1 ≠ tl)
/-- Where the last loop is. -/
def TxB (w1 wr : World) (sb rb ti tl r1 r2 it n : Nat) (M left : List (ByteArray × ByteArray)) (Q : List (ByteArray × Bool)) : Prop :=
  TxSt w1 wr wr (fun k => k = r1 ∨ k = r2 ∨ k = it) sb rb ti tl M n ∧ IterIs kStr Value.string wr it r1 M left ∧ MapIs kStr Value.bool wr r2 Q ∧ ((left.map Prod.fst).Nodup ∧ (∀ p ∈ left, p ∈ M) ∧ ∀ q v, look Q q = some v → ∃ t, look M t = some q ∧ ∀ p ∈ left, p.1 ≠ t) ∧
    (w1.heap.size ≤ r1 ∧ r1 ≠ sb ∧ r1 ≠ ti ∧ r1 ≠ tl) ∧ (w1.heap.size ≤ r2 ∧ r2 ≠ sb ∧ r2 ≠ ti ∧ r2 ≠ tl) ∧ (w1.heap.size ≤ it ∧ it ≠ sb ∧ it ≠ ti ∧ it ≠ tl) ∧ r1 ≠ r2 ∧ M.length ≤ 20
theorem TxA.next {w1 wr w' w3 : World} {sb rb ti tl r1 i : Nat} {M M' : List (ByteArray × ByteArray)} (h : TxA w1 wr sb rb ti tl r1 i M) (hs : TxSt w1 wr w' (fun k => k = r1) sb rb ti tl M' (i + 1)) (hm : MapIs kStr Value.string w3 r1 M') (hu : Upd (· = r1) w' w3) (hl : M'.length ≤ i + 1) : TxA w1 w3 sb rb ti tl r1 (i + 1) M' := by
  obtain ⟨-, -, -, h4⟩ := h
  refine ⟨(hs.upd hu fun k hk => ?_).reset, hm, hl, h4⟩
  subst hk
  exact ⟨rfl, h4⟩
/-- The law's one text more: old, or new. -/
theorem tx_one {w1 wr : World} {sb rb ti tl r1 i : Nat} {M : List (ByteArray × ByteArray)} {t : ByteArray} (h : TxA w1 wr sb rb ti tl r1 i M) (hi : i < 20) (h1 : 1 ≤ t.size) (h2 : t.size ≤ 128) :
    Calls Tryz.prog 18 #[.pointer (some ⟨sb, 0, none⟩), .string t] wr fun e w' => ∃ id fresh, e = .returned (.tuple #[.string id, .bool fresh, .int .i64 0]) ∧
      ((fresh = false ∧ (∀ z, (zeroValue 9).run Tryz.prog w' = .ok z w' → (Instr.lookup 64 (.map (some r1)) (.string t) true).run Tryz.prog w' = .ok (.tuple #[.string id, .bool true]) w')) ∨
       (fresh = true ∧ (∀ z, (zeroValue 9).run Tryz.prog w' = .ok z w' → (Instr.lookup 64 (.map (some r1)) (.string t) true).run Tryz.prog w' = .ok (.tuple #[z, .bool false]) w'))) ∧
      ∃ w3, (Instr.mapUpdate 64 (.map (some r1)) (.string t) (.string id)).run Tryz.prog w' = .ok () w3 ∧ Hid (∃ M', TxA w1 w3 sb rb ti tl r1 (i + 1) M') := by
  have hnd := h.2.1.nodup
  refine (tx_put h.1 hi (by have := h.2.2.1; omega) h1 h2).mono ?_
  rintro e w' ⟨id, fresh, rfl, hE⟩
  refine ⟨id, fresh, rfl, ?_⟩
  rcases hE with ⟨rfl, hl, hE⟩ | ⟨rfl, hl, hE⟩
  · have hm : MapIs kStr Value.string w' r1 M := h.2.1.of_heap (hE.out.kept r1 rfl)
    obtain ⟨w3, hu, hm3, hup⟩ := run_mapUpdate (P := Tryz.prog) hm Tryz.underlying64 Tryz.underlying9 t id
    refine ⟨.inl ⟨rfl, fun z hz => ?_⟩, w3, hu, Lib.hid ⟨M, h.next hE.out (hm3.perm (look_same hnd hl)) hup (by have := h.2.2.1; omega)⟩⟩
    have := run_lookup_ok (P := Tryz.prog) hm Tryz.underlying64 Tryz.underlying9 hz t
    rw [hl] at this
    exact this
  · have hm : MapIs kStr Value.string w' r1 M := h.2.1.of_heap (hE.out.kept r1 rfl)
    obtain ⟨w3, hu, hm3, hup⟩ := run_mapUpdate (P := Tryz.prog) hm Tryz.underlying64 Tryz.underlying9 t id
    refine ⟨.inr ⟨rfl, fun z hz => ?_⟩, w3, hu, Lib.hid ⟨put M t id, h.next hE.out hm3 hup (by unfold put; rw [del_of_none hl]; have := h.2.2.1; simp; omega)⟩⟩
    have := run_lookup_ok (P := Tryz.prog) hm Tryz.underlying64 Tryz.underlying9 hz t
    rw [hl] at this
    exact this
/-- The last loop begins. -/
theorem TxB.start {w1 wr wm wi : World} {sb rb ti tl r1 n : Nat} {M : List (ByteArray × ByteArray)} (h : TxA w1 wr sb rb ti tl r1 n M) (hM : M.length ≤ 20) (hm : wm = wr.alloc (.map #[] 0)) (hi : IterIs kStr Value.string wi wm.heap.size r1 M M) (hu : Upd (fun _ => False) wm wi) (hz : wi.heap.size = wm.heap.size + 1) :
    TxB w1 wi sb rb ti tl r1 wr.heap.size wm.heap.size n M M [] := by
  have hb : Below wr.heap.size wr wm := by rw [hm]; exact (Below.refl wr.heap.size wr).alloc (Nat.le_refl _) _
  have hs := h.1.sbk
  have h9 := h.1.bel.size
  have hr1 := h.2.1.lt
  have hsz : wm.heap.size = wr.heap.size + 1 := by rw [hm]; simp
  have hb2 : Below wm.heap.size wm wi := hu.below (Nat.le_refl _) fun _ _ h => h
  have h1 := h.1.new hb wr.heap.size (Nat.le_refl _) (by omega)
  have h2 := h1.new hb2 wm.heap.size (Nat.le_refl _) (by omega)
  obtain ⟨C, X, a, c1, c2, c3⟩ := h2
  refine ⟨⟨C, X, a, c1.mono fun k hk => ?_, c2, c3⟩, hi, ?_, ⟨h.2.1.nodup, fun p hp => hp, fun q v hq => by cases hq⟩, h.2.2.2, by omega, by omega, by omega, hM⟩
  · rcases hk with rfl | rfl | rfl
    · exact .inl (.inl rfl)
    · exact .inl (.inr rfl)
    · exact .inr rfl
  · have : MapIs kStr Value.bool wm wr.heap.size ([] : List (ByteArray × Bool)) := by rw [hm]; exact MapIs.made wr
    exact this.upd hu fun h => h
/-- One name more in the last loop. -/
theorem tx_last {w1 wr : World} {sb rb ti tl r1 r2 it n : Nat} {M left : List (ByteArray × ByteArray)} {Q : List (ByteArray × Bool)} (h : TxB w1 wr sb rb ti tl r1 r2 it n M left Q) (hn : n ≤ 20) :
    (left = [] ∧ (Instr.next (.pointer (some ⟨it, 0, none⟩)) false 0).run Tryz.prog wr = .ok (.tuple #[.bool false]) wr) ∨
    ∃ t id w2, (Instr.next (.pointer (some ⟨it, 0, none⟩)) false 0).run Tryz.prog wr = .ok (.tuple #[.bool true, .string t, .string id]) w2 ∧ (Instr.entry (.pointer (some ⟨it, 0, none⟩))).run Tryz.prog w2 = .ok (.tuple #[.string t, .string id]) w2 ∧
      Calls Tryz.prog 29 #[.pointer (some ⟨sb, 0, none⟩), .string id] w2 fun e w' => e = .returned (.tuple #[.string t, .int .i64 0]) ∧ (Instr.lookup 66 (.map (some r2)) (.string id) false).run Tryz.prog w' = .ok (.bool false) w' ∧ ∃ w3, (Instr.mapUpdate 66 (.map (some r2)) (.string id) (.bool true)).run Tryz.prog w' = .ok () w3 ∧ Hid (∃ left' Q', left.length = left'.length + 1 ∧ TxB w1 w3 sb rb ti tl r1 r2 it n M left' Q') := by
  obtain ⟨hs, hit, hq, ⟨h1, h2, h3⟩, g1, g2, g3, hne, hM⟩ := h
  rcases hit.next (P := Tryz.prog) 0 with ⟨rfl, hnx⟩ | ⟨t, id, left', w2, hnx, hp, hi2, hu2, hsz2, hen⟩
  · exact .inl ⟨rfl, hnx⟩
  · refine .inr ⟨t, id, w2, hnx, hen, ?_⟩
    have hnM := hit.map.nodup
    have hl : look M t = some id := (look_some hnM).2 (h2 _ (hp.mem_iff.2 (List.mem_cons_self ..)))
    have hlt := hit.lt
    have hs2 := (hs.upd hu2 fun k hk => by subst hk; exact ⟨.inr (.inr rfl), g3⟩).reset
    have hq2 : MapIs kStr Value.bool w2 r2 Q := hq.upd hu2 fun e => by subst e; exact absurd hq.nodup (by
      obtain ⟨es, clock, m0, seen, hb, hss, he, hm, hii, hll⟩ := hit
      obtain ⟨es', clock', m0', hb', -⟩ := hq
      rw [hii] at hb'; cases hb')
    have hnir : it ≠ r2 := fun e => by
      subst e
      obtain ⟨es, clock, m0, seen, hb, hss, he, hm, hii, hll⟩ := hit
      obtain ⟨es', clock', m0', hb', -⟩ := hq
      rw [hii] at hb'; cases hb'
    refine (tx_get hs2 hn hl).mono ?_
    rintro e w' ⟨rfl, hE⟩
    have hk := hE.out.kept
    have hq3 : MapIs kStr Value.bool w' r2 Q := hq2.of_heap (hk r2 (.inr (.inl rfl)))
    have hi3 : IterIs kStr Value.string w' it r1 M left' := by
      obtain ⟨es, clock, m0, seen, hb, hss, he, hm, hii, hll⟩ := hi2
      exact ⟨es, clock, m0, seen, (hk r1 (.inl rfl)).trans hb, hss, he, hm, (hk it (.inr (.inr rfl))).trans hii, hll⟩
    have hnq : look Q id = none := by
      cases hx : look Q id with
      | none => rfl
      | some v =>
        obtain ⟨t', ht', hp'⟩ := h3 id v hx
        obtain ⟨C, X, a, c1, c2, c3⟩ := hs
        have := c2.inj c1.ok.2.1 ht' hl
        exact absurd this.symm (hp' _ (hp.mem_iff.2 (List.mem_cons_self ..)))
    obtain ⟨w3, hup, hq4, hu4⟩ := run_mapUpdate (P := Tryz.prog) hq3 Tryz.underlying66 Tryz.underlying9 id true
    have hlk := run_lookup (P := Tryz.prog) hq3 Tryz.underlying66 Tryz.underlying9 (z := .bool false) (w := w') (by rfl) id
    rw [hnq] at hlk
    have hn' : (((t, id) :: left').map Prod.fst).Nodup := (hp.map _).nodup_iff.1 h1
    refine ⟨rfl, hlk, w3, hup, Lib.hid ⟨left', _, by simpa using hp.length_eq, (hE.out.upd hu4 fun k hk => by subst hk; exact ⟨.inr (.inl rfl), g2⟩).reset, hi3.upd hu4 hnir hne, hq4, ⟨(List.nodup_cons.1 hn').2, fun p hp' => h2 p (hp.mem_iff.2 (List.mem_cons_of_mem _ hp')), fun q v hq' => ?_⟩, g1, g2, g3, hne, hM⟩⟩
    rw [look_put] at hq'
    by_cases e : id = q
    · subst e
      refine ⟨t, hl, fun p hp' e => (List.nodup_cons.1 hn').1 (List.mem_map.2 ⟨p, hp', e⟩)⟩
    · rw [if_neg e] at hq'
      obtain ⟨t', ht', hp'⟩ := h3 q v hq'
      exact ⟨t', ht', fun p hp'' => hp' p (hp.mem_iff.2 (List.mem_cons_of_mem _ hp''))⟩
theorem TxB.len {w1 wr : World} {sb rb ti tl r1 r2 it n : Nat} {M left : List (ByteArray × ByteArray)} {Q : List (ByteArray × Bool)} (h : TxB w1 wr sb rb ti tl r1 r2 it n M left Q) {w' : World} (hk : Kept (fun k => k = r1 ∨ k = r2 ∨ k = it) wr w') : ∃ es clock, w'.heap[r1]? = some (.map es clock) ∧ es.size = M.length := by
  obtain ⟨es, clock, m0, hb, hs, he, hm⟩ := h.2.1.map
  refine ⟨es, clock, (hk r1 (.inl rfl)).trans hb, ?_⟩
  have h1 := ents_len he
  have h2 := hm.length_eq
  simp at h1
  omega
theorem texts_many (a : Option Addr) (cap len : Nat) (w : World) (h : 20 < len) :
    Calls Tryz.prog 5 #[.slice a len cap] w fun e w' => e = .returned (.bool true) ∧ Hid (Below w.heap.size w w') := by
  have AW := awake11_c
  have k3 : ((20 : Int) < (len : Int)) = True := by simp; omega
  clear h
  go_enter Tryz.func5, Tryz.ntmps5
  go_wp2_with fail
  refine (AW _).mono ?_
  rintro e w1 ⟨rfl, hb⟩
  go_wp2_with fail
  go_ret
  exact ⟨rfl, hb⟩
theorem texts_in (a : Option Addr) (cap : Nat) (l : List ByteArray) (w : World) (h3 : l.length ≤ 20)
    (hcell : ∀ k, (h : k < l.length) → ∃ b off, a = some ⟨b, off, none⟩ ∧ b < w.heap.size ∧ w.cell? ⟨b, off + k, none⟩ = some (.string l[k])) :
    Calls Tryz.prog 5 #[.slice a l.length cap] w fun e w' => e = .returned (.bool true) ∧ Hid (Below w.heap.size w w') := by
  have AW := awake11_c
  have WD := fun w => Wide_c 30000 w (by decide) (by decide)
  rw [show ((30000 : Nat) : Int) = 30000 from rfl] at WD
  have BE := Begin_c
  have hmm := @run_makeMap Tryz.prog
  have k3 : ((20 : Int) < (l.length : Int)) = False := by simp; omega
  have HL := Lib.hid h3
  have HC := Lib.hid hcell
  clear h3 hcell
  go_enter Tryz.func5, Tryz.ntmps5
  go_wp2_with fail
  refine (AW _).mono ?_
  rintro e wa ⟨rfl, hb⟩
  have HBA := Lib.hid hb.out
  clear hb AW
  go_wp2_with fail
  go_loopg [4, 30] l.length (fun g s4 s30 wr => ∃ (i : Nat), g = l.length - i ∧ i ≤ l.length ∧ s30 = .int .i64 (i : Int) ∧ Hid (Below w.heap.size w wr ∧ ∀ j (hj : j < l.length), j < i → 1 ≤ l[j].size ∧ l[j].size ≤ 128))
  case atStart => exact ⟨0, rfl, Nat.zero_le _, rfl, Lib.hid ⟨HBA.out, fun j _ h => absurd h (by omega)⟩⟩
  case round =>
    obtain ⟨i, rfl, hi, rfl, HR⟩ := hrel
    by_cases hlt : i < l.length
    · obtain ⟨b, off, rfl, hbl, hc⟩ := HC.out i hlt
      have hc2 : wr.cell? ⟨b, off + i, none⟩ = some (.string l[i]) := (HR.out.1.cell (p := ⟨b, off + i, none⟩) hbl).trans hc
      have HLT := Lib.hid hlt
      have hi3 : i ≤ 1000 := by have := HL.out; omega
      have hltI : (i : Int) < (l.length : Int) := by omega
      have HST : Hid (1 ≤ l[i].size ∧ l[i].size ≤ 128 → ∀ j (hj : j < l.length), j < i + 1 → 1 ≤ l[j].size ∧ l[j].size ≤ 128) := Lib.hid fun h j hj hji => by
        by_cases e : j = i
        · subst e; exact h
        · exact HR.out.2 j hj (by omega)
      have HBR := Lib.hid HR.out.1
      generalize l[i] = t at *
      clear hlt hi hc hbl HR
      by_cases q1 : t.size < 1
      · have q : ((t.size : Int) < 1) = True := by simp; omega
        clear q1 HST
        go_wp2_with fail
        go_ret
        exact ⟨rfl, HBR⟩
      · have q : ((t.size : Int) < 1) = False := by simp; omega
        by_cases q2 : 128 < t.size
        · have qq : ((128 : Int) < (t.size : Int)) = True := by simp; omega
          clear q1 q2 HST
          go_wp2_with fail
          go_ret
          exact ⟨rfl, HBR⟩
        · have qq : ((128 : Int) < (t.size : Int)) = False := by simp; omega
          have HS2 := Lib.hid (HST.out ⟨by omega, by omega⟩)
          clear q1 q2 HST
          go_wp2_with fail
          go_roundg (l.length - (i + 1))
          case measure => have := HLT.out; omega
          case rel => exact ⟨i + 1, rfl, HLT.out, by congr 1, Lib.hid ⟨HBR.out, HS2.out⟩⟩
    · obtain rfl : i = l.length := by omega
      have HSZ : Hid (∀ j (hj : j < l.length), 1 ≤ l[j].size ∧ l[j].size ≤ 128) := Lib.hid fun j hj => HR.out.2 j hj hj
      have HBR := Lib.hid HR.out.1
      clear HR hlt hi
      go_wp2_with fail
      refine (WD _).mono ?_
      rintro e wb ⟨db, lb, FL, rfl, H1⟩
      go_wp2_with fail
      refine (BE lb wb).mono ?_
      rintro e wc ⟨rfl, H2⟩
      have OF := Of_c _ lb 30000 FL _ [] wc (chg_new H1.out H2.out) (by decide)
      go_wp2_with fail
      refine OF.mono ?_
      rintro e wd ⟨rb, G, rfl, H3⟩
      have NR := Lib.hid (NewRoom.of HBR.out H1.out H2.out H3.out)
      clear OF H1 H2 H3 WD BE HBR k3 HBA
      have AT := At_k rb wd
      go_wp2_with fail
      refine AT.mono ?_
      rintro e we ⟨sb, ti, tl, rfl, HA⟩
      have M0 := Lib.hid (Chs.start (N := 60) NR.out (by decide) (by decide) HA.out.1 HA.out.2.1 HA.out.2.2)
      clear NR HA AT
      obtain ⟨r1, hr1⟩ : ∃ r, we.heap.size = r := ⟨_, rfl⟩
      have A0 : Hid (TxA w (we.alloc (.map #[] 0)) sb rb ti tl r1 0 []) := Lib.hid (by
        have hb : Below we.heap.size we (we.alloc (.map #[] 0)) := (Below.refl we.heap.size we).alloc (Nat.le_refl _) _
        have hs := M0.out.sbk
        have l1 := lt_of_heap hs.1
        have l2 := lt_of_heap hs.2.1
        have l3 := lt_of_heap hs.2.2
        have h9 := M0.out.bel.size
        refine ⟨⟨[], [], 0, (M0.out.new hb r1 (by omega) (by simp; omega)).mono fun k hk => .inr hk, TxIn.nil, by omega⟩, ?_, by simp, by omega, by omega, by omega, by omega⟩
        rw [← hr1]; exact MapIs.made we)
      clear M0
      go_wp2_with fail
      go_loopg [10, 11, 12, 13, 14, 15, 54] l.length (fun g s10 s11 s12 s13 s14 s15 s54 wr => ∃ (i : Nat), g = l.length - i ∧ i ≤ l.length ∧ s54 = .int .i64 (i : Int) ∧ Hid (∃ M, TxA w wr sb rb ti tl r1 i M))
      case atStart => exact ⟨0, rfl, Nat.zero_le _, rfl, Lib.hid ⟨[], A0.out⟩⟩
      case round =>
        obtain ⟨i, rfl, hi, rfl, HR⟩ := hrel
        clear A0
        by_cases hlt : i < l.length
        · obtain ⟨b, off, rfl, hbl, hc⟩ := HC.out i hlt
          obtain ⟨M, hM⟩ := HR.out
          have hc2 : wr.cell? ⟨b, off + i, none⟩ = some (.string l[i]) := (hM.1.bel.cell (p := ⟨b, off + i, none⟩) hbl).trans hc
          have PT := tx_one hM (by have := HL.out; omega) (HSZ.out i hlt).1 (HSZ.out i hlt).2
          have HLT := Lib.hid hlt
          have hi3 : i ≤ 1000 := by have := HL.out; omega
          have hltI : (i : Int) < (l.length : Int) := by omega
          generalize l[i] = t at *
          clear hlt hi hc hbl HR hM
          go_wp2_with fail
          refine PT.mono ?_
          rintro e w5 ⟨id, fresh, rfl, hcase, w6, hup, HM6⟩
          clear PT hc2
          have hz : (zeroValue 9).run Tryz.prog w5 = .ok (.string ⟨#[]⟩) w5 := by rfl
          rcases hcase with ⟨rfl, hlk⟩ | ⟨rfl, hlk⟩
          all_goals (
            have hlk2 := hlk _ hz
            clear hlk hz
            go_wp2_with fail
            go_roundg (l.length - (i + 1))
            case measure => have := HLT.out; omega
            case rel => exact ⟨i + 1, rfl, HLT.out, by congr 1, HM6⟩)
        · obtain rfl : i = l.length := by omega
          obtain ⟨M, hM⟩ := HR.out
          obtain ⟨wm, hwm⟩ : ∃ wm, wr.alloc (.map #[] 0) = wm := ⟨_, rfl⟩
          have hmm2 : MapIs kStr Value.string wm r1 M := by rw [← hwm]; exact hM.2.1.alloc _
          obtain ⟨wi, hrg, hit, hup, hsz⟩ := IterIs.start hmm2 (P := Tryz.prog) Tryz.underlying64
          have HB0 := Lib.hid (TxB.start hM (by have := hM.2.2.1; have := HL.out; omega) hwm.symm hit hup hsz)
          have hmw := hmm 66 wr
          rw [hwm] at hmw
          have HLM := Lib.hid (show M.length ≤ 20 by have := hM.2.2.1; have := HL.out; omega)
          clear HR hM hmm2 hit hup hsz hlt hi
          generalize wr.heap.size = r2 at *
          generalize wm.heap.size = it at *
          clear hmm hwm
          go_wp2_with fail
          go_loopg [17, 18, 19, 20] M.length (fun g s17 s18 s19 s20 wr => ∃ left Q, g = left.length ∧ Hid (TxB w wr sb rb ti tl r1 r2 it l.length M left Q))
          case atStart => exact ⟨M, [], rfl, HB0⟩
          case round =>
            obtain ⟨left, Q, rfl, HB⟩ := hrel
            clear HB0 hrg hmw
            rcases tx_last HB.out HL.out with ⟨rfl, hnx⟩ | ⟨t, id, w2, hnx, hen, GT⟩
            · have AL := tx_all HB.out.1 HL.out HLM.out
              have HBK : Hid (∀ w', Kept (fun k => k = r1 ∨ k = r2 ∨ k = it) wr w' → ∃ es clock, w'.heap[r1]? = some (.map es clock) ∧ es.size = M.length) := Lib.hid fun w' hk => HB.out.len hk
              have HLM2 := HLM
              clear HB
              go_wp2_with fail
              refine AL.mono ?_
              rintro e w5 ⟨va, vc, rfl, HE⟩
              obtain ⟨es, clock, hes, hsz⟩ := HBK.out w5 HE.out.kept
              have HBE := Lib.hid HE.out.bel
              have hln := run_len_map (P := Tryz.prog) (w := w5) 64 3 r1 es clock (by kernel_rfl) hes
              clear AL HBK HE
              generalize M.length = ml at *
              subst hsz
              go_wp2_with fail
              go_ret
              exact ⟨rfl, HBE⟩
            · clear HB
              go_wp2_with fail
              refine GT.mono ?_
              rintro e w5 ⟨rfl, hlk, w6, hup, HN⟩
              obtain ⟨left', Q', hll, hB⟩ := HN.out
              have HB2 := Lib.hid hB
              have HLL := Lib.hid hll
              clear HN hll hB GT
              go_wp2_with fail
              go_roundg left'.length
              case measure => have := HLL.out; omega
              case rel => exact ⟨left', Q', rfl, HB2⟩
theorem ChunksTexts_w (v0 : Value) (w : World) (g0 : Reads w 63 v0) : Calls Tryz.prog 5 #[v0] w fun e w' => e = .returned (.bool true) ∧ Below w.heap.size w w' := by
  obtain ⟨l, hl, -⟩ := reads_strings Tryz.underlying63 (by kernel_rfl) Tryz.underlying9 g0
  obtain ⟨a, cap, rfl, -, -, hc⟩ := hl
  rw [List.length_map] at *
  by_cases h : 20 < l.length
  · exact (texts_many a cap l.length w h).mono fun e w' h => ⟨h.1, h.2.out⟩
  · refine (texts_in a cap l w (by omega) (fun k hk => ?_)).mono fun e w' h => ⟨h.1, h.2.out⟩
    obtain ⟨b, off, h1, h2, h3⟩ := hc k (by simpa using hk)
    exact ⟨b, off, h1, h3, by simpa using h2⟩
end Go.Proofs.YtdcjhpafipbpkaaGreatDoor
