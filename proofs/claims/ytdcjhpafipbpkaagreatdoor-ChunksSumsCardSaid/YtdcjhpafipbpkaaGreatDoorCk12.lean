/- Parts of the proof of ChunksSums, joined: SumF, ChkU, ChkV, ChkW, SumsL. No condition. -/
import Derived.Test.YtdcjhpafipbpkaaGreatDoorCk11
import Derived.Lib.Strings
set_option linter.unusedSimpArgs false
set_option linter.unusedVariables false
set_option linter.unusedSectionVars false
namespace Go.Proofs.YtdcjhpafipbpkaaGreatDoor
set_option linter.unusedVariables false
set_option maxRecDepth 100000
set_option maxHeartbeats 2000000
open Go.RowKit
theorem strIdx {P : Program} (t : TypeId) (s : ByteArray) (k : Nat) (d : UInt8) (ht : P.underlying t = some .string) (h : s[k]? = some d) (w : World) :
    (Instr.index t (.string s) (.int .i64 (k : Int))).run P w = .ok (.int .u8 (d.toNat : Int)) w := by
  simp [Instr.index, asIntOf, run_underlying ht, h]
theorem byteL_at {s : ByteArray} {k : Nat} (h : k < s.size) : ∃ c : UInt8, s[k]? = some c ∧ (byteL s).take (k + 1) = (byteL s).take k ++ [c.toNat] := by
  have hl : k < s.data.toList.length := by rw [← Lib.size_eq]; exact h
  refine ⟨s.data.toList[k], by rw [getElem?_pos _ k h]; rfl, ?_⟩
  unfold byteL
  rw [List.take_succ_eq_append_getElem (by simpa using hl)]
  simp
theorem rep_puts (p : Pn) (m : Nat) : p.puts (List.replicate (m + 1) 0) = (p.puts (List.replicate m 0)).put 0 := by
  rw [List.replicate_succ', Pn.puts_snoc]
/-- Zeros are put until 56 bytes stand. -/
theorem puts_n0 : ∀ (m : Nat) (p : Pn), p.n < 64 → (p.puts (List.replicate m 0)).n = (p.n + m) % 64
  | 0, p, h => by show p.n = _; rw [Nat.add_zero, Nat.mod_eq_of_lt h]
  | m + 1, p, h => by
    rw [rep_puts, Pn.put_n, puts_n0 m p h]
    split <;> omega
theorem zeros_stop {n m : Nat} (hn : n < 64) (hm : m ≤ zerosN n) : (n + m) % 64 = 56 ↔ m = zerosN n := by
  unfold zerosN at *; omega
theorem outL_len (h : List Nat) : (outL h).length = 32 := by simp [outL]
theorem outL_take (h : List Nat) (i : Nat) (hi : i < 32) : (outL h).take (i + 1) = (outL h).take i ++ [UInt8.ofNat (h.getD (i / 4) 0 / 2 ^ (24 - i % 4 * 8))] := by
  rw [List.take_succ_eq_append_getElem (by rw [outL_len]; exact hi)]
  simp [outL]
theorem sizeL_take (n j : Nat) (hj : j < 8) : (sizeL n).take (j + 1) = (sizeL n).take j ++ [n * 8 / 2 ^ (56 - 8 * j) % 256] := by
  rw [List.take_succ_eq_append_getElem (by simp [sizeL]; omega)]
  simp [sizeL]
/-- Inside Print: the printer's block alone is changed. -/
def PrAt (w wr : World) (b : Nat) (p : Pn) : Prop := p.Ok ∧ PB wr b p ∧ Below w.heap.size w wr ∧ b = w.heap.size
/-- The row of the fingerprint, as far as it is laid. -/
def outC (h : List Nat) (i : Nat) : List Value := bytesC ((outL h).take i) ++ List.replicate (32 - i) (.int .u8 0)
theorem outC_len (h : List Nat) (i : Nat) (hi : i ≤ 32) : (outC h i).length = 32 := by
  unfold outC bytesC
  rw [List.length_append, List.length_map, List.length_take, outL_len, List.length_replicate]; omega
theorem outC_set (h : List Nat) (i : Nat) (hi : i < 32) : (outC h i).set i (.int .u8 ((UInt8.ofNat (h.getD (i / 4) 0 / 2 ^ (24 - i % 4 * 8))).toNat : Int)) = outC h (i + 1) := by
  have hl : (bytesC ((outL h).take i)).length = i := by unfold bytesC; rw [List.length_map, List.length_take, outL_len]; omega
  unfold outC
  rw [List.set_append_right _ _ (by omega), hl, Nat.sub_self, outL_take h i hi, bytesC_append, show 32 - i = (32 - (i + 1)) + 1 by omega, List.replicate_succ, List.set_cons_zero]
  simp [bytesC]
theorem conv_out (h : List Nat) (W : World) (g : Nat) (hg : W.heap[g]? = some (.cells (outC h 32).toArray 212 (0, 0))) : (convert 91 9 (.slice (some ⟨g, 0, none⟩) 32 32)).run Tryz.prog W = .ok (.string ⟨(outL h).toArray⟩) W := by
  have := run_convert_bytes_arg (P := Tryz.prog) W 91 5 Tryz.underlying91 Tryz.underlying5 g 0 32 32 ((outL h).map fun c => (c.toNat : Int)) (by rw [List.length_map, outL_len]) (fun i hi => by
    rw [Nat.zero_add]
    refine cell_lit hg ?_
    have hi' : i < (outL h).length := by rw [outL_len]; exact hi
    unfold outC bytesC
    rw [List.take_of_length_le (by rw [outL_len]; exact Nat.le_refl _)]
    simp [hi']) 9 Tryz.underlying9
  rw [this]
  congr 2
  apply ByteArray.ext
  simp only [strOfNums, List.map_map]
  rw [show ((fun n : Int => UInt8.ofNat n.toNat) ∘ fun c : UInt8 => (c.toNat : Int)) = id from funext fun c => by simp]
  simp
/-- Where the last loop is. -/
def OutAt (w wr : World) (b ob : Nat) (h : List Nat) (i : Nat) (W : World) : Prop := W.heap[ob]? = some (.cells (outC h i).toArray 212 (0, 0)) ∧ W.heap[b]? = wr.heap[b]? ∧ Below w.heap.size w W ∧ b ≠ ob ∧ w.heap.size ≤ ob
theorem OutAt.facts {w wr W : World} {b ob : Nat} {h : List Nat} {i : Nat} (g : OutAt w wr b ob h i W) (k : Nat) : W.frozen? ⟨ob, k, none⟩ = false ∧ ob < W.heap.size := ⟨frozen_lit g.1 k, lt_of_heap g.1⟩
theorem OutAt.has {w wr W : World} {b ob : Nat} {h : List Nat} {i : Nat} (g : OutAt w wr b ob h i W) (hi : i < 32) : ∃ v, W.cell? ⟨ob, i, none⟩ = some v := by
  have hl : i < (outC h i).length := by rw [outC_len h i (by omega)]; exact hi
  exact ⟨(outC h i)[i], cell_lit g.1 (by rw [List.getElem?_toArray, List.getElem?_eq_getElem hl])⟩
theorem OutAt.bl {w wr W : World} {b ob : Nat} {h : List Nat} {i : Nat} (g : OutAt w wr b ob h i W) (hb : b < wr.heap.size) : b < W.heap.size := by
  have := g.2.1
  rw [Array.getElem?_eq_getElem hb] at this
  exact lt_of_heap this
theorem OutAt.set {w wr W : World} {b ob : Nat} {h : List Nat} {i : Nat} (g : OutAt w wr b ob h i W) (hi : i < 32) (z : Int) (hz : z = ((UInt8.ofNat (h.getD (i / 4) 0 / 2 ^ (24 - i % 4 * 8))).toNat : Int)) : OutAt w wr b ob h (i + 1) (W.setCell ⟨ob, i, none⟩ (.int .u8 z)) := by
  subst hz
  have h1 := heap_set_lit (i := i) g.1 (.int .u8 ((UInt8.ofNat (h.getD (i / 4) 0 / 2 ^ (24 - i % 4 * 8))).toNat : Int))
  rw [List.setIfInBounds_toArray, outC_set h i hi] at h1
  have hu : Upd (fun k => k = ob) W (W.setCell ⟨ob, i, none⟩ (.int .u8 ((UInt8.ofNat (h.getD (i / 4) 0 / 2 ^ (24 - i % 4 * 8))).toNat : Int))) := Upd.setCell (S := fun k => k = ob) (p := ⟨ob, i, none⟩) (Upd.refl _ _) (.inl rfl) _
  exact ⟨h1, (heap_set_ne _ g.2.2.2.1).trans g.2.1, g.2.2.1.trans (hu.below g.2.2.1.size fun k hk e => by have := g.2.2.2.2; omega), g.2.2.2⟩
theorem PrAt.put {w wr w' : World} {b : Nat} {p : Pn} {c : Nat} (h : PrAt w wr b p) (hc : c < 256) (hb : PB w' b (p.put c)) (hu : Upd (fun k => k = b) wr w') : PrAt w w' b (p.put c) :=
  ⟨Pn.put_ok h.1 hc, hb, h.2.2.1.trans (hu.below h.2.2.1.size fun k hk e => by have := h.2.2.2; omega), h.2.2.2⟩
theorem pr_put {w wr : World} {b : Nat} {p : Pn} (h : PrAt w wr b p) (c : Nat) (hc : c < 256) : Calls Tryz.prog 116 #[.pointer (some ⟨b, 0, none⟩), .int .u8 (c : Int)] wr fun e w' => e = .returned (.tuple #[]) ∧ Hid (PrAt w w' b (p.put c)) := by
  refine (pput_c b p c wr h.1 hc h.2.1).mono ?_
  rintro e w' ⟨rfl, hE⟩
  exact ⟨rfl, Lib.hid (h.put hc hE.out.1 hE.out.2)⟩
theorem Print_c (s : ByteArray) (w : World) (hs : s.size ≤ 1000000) :
    Calls Tryz.prog 63 #[.string s] w fun e w' => e = .returned (.string (prB s)) ∧ Hid (Below w.heap.size w w') := by
  obtain ⟨b, hb⟩ : ∃ b, w.heap.size = b := ⟨_, rfl⟩
  have R0 : Hid (∀ W, W = w.alloc (.cells (pnCells pn0.h pn0.W 0).toArray 210) → PrAt w W b (pn0.puts ((byteL s).take 0))) := Lib.hid fun W hW => by
    subst hW
    exact ⟨pn0_ok, by rw [← hb]; exact heap_alloc_new _ _, (Below.refl _ _).alloc (Nat.le_refl _) _, hb.symm⟩
  have HSL := Lib.hid hs
  go_enter Tryz.func63, Tryz.ntmps63
  go_wp2_with fail
  have R1 := Lib.hid (R0.out _ rfl)
  rw [show (pnCells pn0.h pn0.W 0).toArray = #[Value.int IntKind.u32 1779033703, Value.int IntKind.u32 3144134277, Value.int IntKind.u32 1013904242, Value.int IntKind.u32 2773480762, Value.int IntKind.u32 1359893119, Value.int IntKind.u32 2600822924, Value.int IntKind.u32 528734635, Value.int IntKind.u32 1541459225, Value.int IntKind.u32 0, Value.int IntKind.u32 0, Value.int IntKind.u32 0, Value.int IntKind.u32 0, Value.int IntKind.u32 0, Value.int IntKind.u32 0, Value.int IntKind.u32 0, Value.int IntKind.u32 0, Value.int IntKind.u32 0, Value.int IntKind.u32 0, Value.int IntKind.u32 0, Value.int IntKind.u32 0, Value.int IntKind.u32 0, Value.int IntKind.u32 0, Value.int IntKind.u32 0, Value.int IntKind.u32 0, Value.int IntKind.i64 0] from rfl] at R1
  clear R0
  go_loopg [4, 13] s.size (fun g s4 s13 wr => ∃ (i : Nat), g = s.size - i ∧ i ≤ s.size ∧ s13 = .int .i64 (i : Int) ∧ Hid (PrAt w wr b (pn0.puts ((byteL s).take i))))
  case atStart => exact ⟨0, rfl, Nat.zero_le _, rfl, R1⟩
  case round =>
    obtain ⟨i, rfl, hi, rfl, HR⟩ := hrel
    clear R1
    by_cases hlt : i < s.size
    · obtain ⟨c, hc, htk⟩ := byteL_at hlt
      have hidx := fun W => strIdx (P := Tryz.prog) 9 s i c Tryz.underlying9 hc W
      have PT := pr_put HR.out c.toNat c.toNat_lt
      rw [← Pn.puts_snoc, ← htk] at PT
      have HLT := Lib.hid hlt
      have hsm : i ≤ 1000000 := by have := HSL.out; omega
      clear hc htk HR hi
      go_wp2_with fail
      refine PT.mono ?_
      rintro e wa ⟨rfl, HE⟩
      clear PT hidx hlt
      go_wp2_with fail
      go_roundg (s.size - (i + 1))
      case measure => have := HLT.out; omega
      case rel => exact ⟨i + 1, rfl, HLT.out, by congr 1, HE⟩
    · obtain rfl : i = s.size := by omega
      have hA : pn0.puts ((byteL s).take s.size) = pn0.puts (byteL s) := by rw [List.take_of_length_le (by unfold byteL; rw [List.length_map, ← Lib.size_eq]; exact Nat.le_refl _)]
      rw [hA] at HR
      have PT := pr_put HR.out 128 (by decide)
      rw [show (pn0.puts (byteL s)).put 128 = pnA s from rfl, show ((128 : Nat) : Int) = 128 from rfl] at PT
      clear hA HR hlt hi
      go_wp2_with fail
      refine PT.mono ?_
      rintro e wa ⟨rfl, HE⟩
      clear PT
      obtain ⟨z, hz⟩ : ∃ z, zerosN (pnA s).n = z := ⟨_, rfl⟩
      have HZ := Lib.hid hz
      clear hz
      go_wp2_with fail
      go_loopg [] z (fun g wr => ∃ (m : Nat), g = z - m ∧ m ≤ z ∧ Hid (PrAt w wr b ((pnA s).puts (List.replicate m 0))))
      case atStart => exact ⟨0, rfl, Nat.zero_le _, HE⟩
      case round =>
        obtain ⟨m, rfl, hm, HR⟩ := hrel
        clear HE
        have hnA := (pnA_ok s).n
        have cn := HR.out.2.1.cn HR.out.1.wk
        have lb := HR.out.2.1.lt
        rw [puts_n0 m _ hnA] at cn
        have hst := zeros_stop hnA (by rw [HZ.out]; exact hm)
        rw [HZ.out] at hst
        have hP56 : ((((pnA s).n + m) % 64 : Nat) : Int) = 56 ↔ m = z := by rw [← hst]; omega
        by_cases hlt : m < z
        · have PT := pr_put HR.out 0 (by decide)
          rw [← rep_puts, show ((0 : Nat) : Int) = 0 from rfl] at PT
          have hne : ¬ ((((pnA s).n + m) % 64 : Nat) : Int) = 56 := fun h => by have := hP56.1 h; omega
          have HLT := Lib.hid hlt
          clear hP56 hst HR hm hnA hlt
          generalize ((pnA s).n + m) % 64 = nn at *
          go_wp2_with fail
          refine PT.mono ?_
          rintro e wc ⟨rfl, HE⟩
          clear PT cn hne lb
          go_wp2_with fail
          go_roundg (z - (m + 1))
          case measure => have := HLT.out; omega
          case rel => exact ⟨m + 1, rfl, HLT.out, HE⟩
        · obtain rfl : m = z := by omega
          have heq := hP56.2 rfl
          have hB : (pnA s).puts (List.replicate m 0) = pnB s := by rw [← HZ.out]; rfl
          rw [hB] at HR
          have R2 : Hid (PrAt w wr b ((pnB s).puts ((sizeL s.size).take 0))) := Lib.hid HR.out
          clear hP56 hst hB hm hnA hlt HR HZ
          generalize ((pnA s).n + m) % 64 = nn at *
          go_wp2_with fail
          go_loopg [5] 8 (fun g s5 wr => ∃ (j : Nat), g = 8 - j ∧ j ≤ 8 ∧ s5 = .int .i64 (56 - 8 * (j : Int)) ∧ Hid (PrAt w wr b ((pnB s).puts ((sizeL s.size).take j))))
          case atStart => exact ⟨0, rfl, Nat.zero_le _, rfl, R2⟩
          case round =>
            obtain ⟨j, rfl, hj, rfl, HR⟩ := hrel
            clear R2 cn lb heq
            have kc : (s.size : Int) % 18446744073709551616 = (s.size : Int) := by have := HSL.out; omega
            have km : (s.size : Int) * 8 % 18446744073709551616 = (s.size : Int) * 8 := by have := HSL.out; omega
            by_cases hlt : j < 8
            · have PT := pr_put HR.out (s.size * 8 / 2 ^ (56 - 8 * j) % 256) (Nat.mod_lt _ (by decide))
              rw [← Pn.puts_snoc, ← sizeL_take _ _ hlt] at PT
              clear HR hj
              have h8 : j = 0 ∨ j = 1 ∨ j = 2 ∨ j = 3 ∨ j = 4 ∨ j = 5 ∨ j = 6 ∨ j = 7 := by omega
              clear hlt
              obtain ⟨m, hm⟩ : ∃ m, 8 - (j + 1) = m := ⟨_, rfl⟩
              rcases h8 with rfl | rfl | rfl | rfl | rfl | rfl | rfl | rfl
              all_goals (
                go_wp2_with fail
                refine Calls.at_args PT ?_ ?_
                · refine congrArg (fun z : Int => (#[Value.pointer (some ⟨b, 0, none⟩), Value.int .u8 z] : Array Value)) ?_
                  have := HSL.out
                  simp only [Nat.reduceMul, Nat.reduceSub, Nat.reducePow, Nat.reduceAdd]
                  omega
                · rintro e wa ⟨rfl, HE⟩
                  clear PT kc km
                  go_wp2_with fail
                  go_roundg m
                  case measure => omega
                  case rel => exact ⟨_, hm.symm, by decide, rfl, HE⟩)
            · obtain rfl : j = 8 := by omega
              have hC : (pnB s).puts ((sizeL s.size).take 8) = pnC s := by rw [List.take_of_length_le (by simp [sizeL])]; rfl
              rw [hC] at HR
              obtain ⟨ob, hob⟩ : ∃ ob, wr.heap.size = ob := ⟨_, rfl⟩
              obtain ⟨hh, hhh⟩ : ∃ l, (pnC s).h = l := ⟨_, rfl⟩
              have HPR : Hid (prB s = ⟨(outL hh).toArray⟩) := Lib.hid (by unfold prB; rw [hhh])
              have HX : Hid (∀ k, hh.getD k 0 < 4294967296) := Lib.hid fun k => by rw [← hhh]; exact (pnC_ok s).h32.get k
              have hbo : b < wr.heap.size := HR.out.2.1.lt
              have HCH : Hid (∀ (W : World) k, k < 8 → W.heap[b]? = wr.heap[b]? → W.cell? ⟨b, k, none⟩ = some (.int .u32 (hh.getD k 0 : Nat))) := Lib.hid fun W k hk hW => by
                have := (HR.out.2.1.of hW).ch HR.out.1.wk hk
                rwa [hhh] at this
              have R3 : Hid (∀ W, W = wr.alloc (.cells (outC hh 0).toArray 212) → OutAt w wr b ob hh 0 W) := Lib.hid fun W hW => by
                subst hW
                exact ⟨by rw [← hob]; exact heap_alloc_new _ _, heap_alloc_lt _ hbo, HR.out.2.2.1.alloc HR.out.2.2.1.size _, by omega, by have := HR.out.2.2.1.size; omega⟩
              have HBB : Hid (ob = wr.heap.size ∧ b < wr.heap.size ∧ w.heap.size ≤ wr.heap.size) := Lib.hid ⟨hob.symm, hbo, HR.out.2.2.1.size⟩
              clear HR hC hhh hj hlt kc km hbo
              go_wp2_with fail
              have R4 := Lib.hid (R3.out _ rfl)
              rw [show (outC hh 0).toArray = #[Value.int IntKind.u8 0, Value.int IntKind.u8 0, Value.int IntKind.u8 0, Value.int IntKind.u8 0, Value.int IntKind.u8 0, Value.int IntKind.u8 0, Value.int IntKind.u8 0, Value.int IntKind.u8 0, Value.int IntKind.u8 0, Value.int IntKind.u8 0, Value.int IntKind.u8 0, Value.int IntKind.u8 0, Value.int IntKind.u8 0, Value.int IntKind.u8 0, Value.int IntKind.u8 0, Value.int IntKind.u8 0, Value.int IntKind.u8 0, Value.int IntKind.u8 0, Value.int IntKind.u8 0, Value.int IntKind.u8 0, Value.int IntKind.u8 0, Value.int IntKind.u8 0, Value.int IntKind.u8 0, Value.int IntKind.u8 0, Value.int IntKind.u8 0, Value.int IntKind.u8 0, Value.int IntKind.u8 0, Value.int IntKind.u8 0, Value.int IntKind.u8 0, Value.int IntKind.u8 0, Value.int IntKind.u8 0, Value.int IntKind.u8 0] from rfl] at R4
              clear R3
              go_loopg [7, 44] 32 (fun g s7 s44 wq => ∃ (i : Nat), g = 32 - i ∧ i ≤ 32 ∧ s44 = .int .i64 (i : Int) ∧ Hid (OutAt w wr b ob hh i wq))
              case atStart => exact ⟨0, rfl, Nat.zero_le _, rfl, R4⟩
              case round =>
                obtain ⟨i, rfl, hi, rfl, HO⟩ := hrel
                clear R4
                by_cases hlt : i < 32
                · have cc := HCH.out _ (i / 4) (by omega) HO.out.2.1
                  have hx := HX.out (i / 4)
                  have HN := HO.out.set hlt
                  obtain ⟨f1, f2⟩ := HO.out.facts i
                  obtain ⟨v9, f3⟩ := HO.out.has hlt
                  have lb := HO.out.bl HBB.out.2.1
                  clear hi HO
                  generalize hh.getD (i / 4) 0 = x at *
                  obtain ⟨m, hm⟩ : ∃ m, 32 - (i + 1) = m := ⟨_, rfl⟩
                  have h32 : i = 0 ∨ i = 1 ∨ i = 2 ∨ i = 3 ∨ i = 4 ∨ i = 5 ∨ i = 6 ∨ i = 7 ∨ i = 8 ∨ i = 9 ∨ i = 10 ∨ i = 11 ∨ i = 12 ∨ i = 13 ∨ i = 14 ∨ i = 15 ∨ i = 16 ∨ i = 17 ∨ i = 18 ∨ i = 19 ∨ i = 20 ∨ i = 21 ∨ i = 22 ∨ i = 23 ∨ i = 24 ∨ i = 25 ∨ i = 26 ∨ i = 27 ∨ i = 28 ∨ i = 29 ∨ i = 30 ∨ i = 31 := by omega
                  clear hlt
                  rcases h32 with rfl | rfl | rfl | rfl | rfl | rfl | rfl | rfl | rfl | rfl | rfl | rfl | rfl | rfl | rfl | rfl | rfl | rfl | rfl | rfl | rfl | rfl | rfl | rfl | rfl | rfl | rfl | rfl | rfl | rfl | rfl | rfl
                  all_goals (
                    simp only [Nat.reduceDiv, Nat.zero_div] at cc
                    have HN2 := Lib.hid HN
                    clear HN
                    go_wp2_with fail
                    go_roundg m
                    case measure => omega
                    case rel =>
                      refine ⟨_, hm.symm, by decide, rfl, Lib.hid (HN2.out _ ?_)⟩
                      rw [UInt8.toNat_ofNat']
                      simp only [Nat.reduceMul, Nat.reduceSub, Nat.reducePow, Nat.reduceMod, Nat.reduceDiv]
                      omega)
                · obtain rfl : i = 32 := by omega
                  have hg := HO.out.1
                  have cv := fun W (hW : W.heap[ob]? = some (.cells (outC hh 32).toArray 212 (0, 0))) => conv_out hh W ob hW
                  have cv2 := cv _ hg
                  have HB := Lib.hid HO.out.2.2.1
                  have lo := lt_of_heap hg
                  clear hi hlt HO cv hg HCH
                  go_wp2_with fail
                  go_ret
                  exact ⟨by rw [HPR.out]; rfl, HB⟩
end Go.Proofs.YtdcjhpafipbpkaaGreatDoor
namespace Go.Proofs.YtdcjhpafipbpkaaGreatDoor
set_option linter.unusedVariables false
set_option maxRecDepth 100000
set_option maxHeartbeats 4000000
open Go.RowKit
section
variable (w1 w w0 : World) (K : Nat → Prop) (sb rb ti tl n N a nx : Nat) (C : List Ck) (L : List Lg) (X : List (Nat × ByteArray))
theorem Put_k (t : ByteArray) (h : Hid (Chs w1 w0 w K sb rb ti tl n N a C L nx X)) (hN : a + 2 ≤ N ∧ N ≤ 1000) (ht1 : 1 ≤ t.size) (ht2 : t.size ≤ 128) (hC : C.length ≤ 250) (hX : ∀ c ∈ C, (c.page, c.text) ∈ X) :
    Calls Tryz.prog 18 #[.pointer (some ⟨sb, 0, none⟩), .string t] w fun e w' => ∃ id fresh, e = .returned (.tuple #[.string id, .bool fresh, .int .i64 0]) ∧ Hid (PutRes w1 w0 w' K sb rb ti tl n N a C L nx X (prB t) t id fresh) := by
  obtain ⟨x, hx⟩ : ∃ x, w.heap.size = x := ⟨_, rfl⟩
  obtain ⟨wb, hwb⟩ : ∃ w0, w.alloc (.cells #[.int .i64 0] 34) = w0 := ⟨_, rfl⟩
  have HOK := Lib.hid h.out.ok.1
  have E0 : Hid (ChE w1 w x 0 wb K sb rb ti tl n N a C L nx X) := Lib.hid (by subst hx hwb; exact ChE.start h.out)
  obtain ⟨k, MK⟩ := Mark_k w1 wb wb _ sb rb ti tl n N a nx C L X (Lib.hid E0.out.st)
  have F0 := find_no ⟨#[]⟩ (Lib.hid E0.out.st) ⟨by omega, hN.2⟩ (by decide) (cAt_no fun c hc e => by have := (HOK.out c hc).id; rw [e] at this; cases this)
  rw [show ck0 = .agg #[.int .i64 0, .int .i64 0, .int .i64 0] from rfl] at F0
  have PR := fun W => Print_c t W (by omega)
  obtain ⟨p, hp⟩ : ∃ p, prB t = p := ⟨_, rfl⟩
  have hps : p.size = 32 := by rw [← hp]; exact prB_size t
  have HSZ : Hid (∀ k, (nameB p k).size = 33) := Lib.hid fun k => by rw [nameB_size, hps]
  rw [hp] at PR ⊢
  have NM : Hid (∀ W (k : Nat), k < 256 → Calls Tryz.prog 64 #[.string p, .int .i64 (k : Int)] W fun e w' => e = .returned (.string (nameB p k)) ∧ Hid (Below W.heap.size W w')) := Lib.hid fun W k hk => name_c p k W (by omega) hk
  have FN : Hid (∀ W (s : ByteArray), s.size = 33 → cAt C s = none → Hid (ChE w1 w x 0 W K sb rb ti tl n N a C L nx X) → Calls Tryz.prog 62 #[.pointer (some ⟨sb, 0, none⟩), .string s] W fun e w' => e = .returned (.tuple #[.agg #[.int .i64 0, .int .i64 0, .int .i64 0], .bool false, .int .i64 0]) ∧ Hid (ChE w1 w x 0 w' K sb rb ti tl n N a C L nx X)) := Lib.hid fun W s hs hc hW => by
    refine (find_no s (Lib.hid hW.out.st) ⟨by omega, hN.2⟩ (by omega) hc).mono ?_
    rintro e w' ⟨rfl, hE⟩
    exact ⟨rfl, Lib.hid (hW.out.step hE.out)⟩
  have FY : Hid (∀ W (s : ByteArray) (c : Ck), s.size = 33 → cAt C s = some c → Hid (ChE w1 w x 0 W K sb rb ti tl n N a C L nx X) → Calls Tryz.prog 62 #[.pointer (some ⟨sb, 0, none⟩), .string s] W fun e w' => e = .returned (.tuple #[.agg #[.int .i64 (c.page : Int), .int .i64 (c.text.size : Int), .int .i64 c.cnt], .bool true, .int .i64 0]) ∧ Hid (ChE w1 w x 0 w' K sb rb ti tl n N a C L nx X)) := Lib.hid fun W s c hs hc hW => by
    refine (find_yes s c (Lib.hid hW.out.st) ⟨by omega, hN.2⟩ (by omega) hc).mono ?_
    rintro e w' ⟨rfl, hE⟩
    exact ⟨rfl, Lib.hid (hW.out.step hE.out)⟩
  have LS : Hid (∀ W (k : Nat), k < 256 → Hid (ChE w1 w x 0 W K sb rb ti tl n N a C L nx X) → Calls Tryz.prog 65 #[.pointer (some ⟨sb, 0, none⟩), .string p, .int .i64 (k : Int)] W fun e w' => ∃ b : Bool, e = .returned (.tuple #[.bool b, .int .i64 0]) ∧ (b = true ↔ NoC C (nameB p k) (p ++ ffB)) ∧ Hid (ChE w1 w x 0 w' K sb rb ti tl n N a C L nx X)) := Lib.hid fun W k hk hW => by
    refine (last_k w1 W W _ sb rb ti tl n N a nx C L X p k (by omega) hk (Lib.hid hW.out.st) ⟨by omega, hN.2⟩ (by omega)).mono ?_
    rintro e w' ⟨b, rfl, hb, hE⟩
    exact ⟨b, rfl, hb, Lib.hid (hW.out.step hE.out)⟩
  have BG : Hid (∀ W WA g (c : Ck), c ∈ C → Hid (ChE w1 WA x 0 W (fun k => K k ∨ k = g) sb rb ti tl n N a C L nx X) → WA.cell? ⟨g, 0, none⟩ = some (.int .i64 (c.page : Int)) → Calls Tryz.prog 66 #[.pointer (some ⟨rb, 0, none⟩), .int .i64 (c.page : Int)] W fun e w' => e = .returned (.tuple #[.string c.text, .int .i64 0]) ∧ (w'.cell? ⟨sb, 0, none⟩ = some (.pointer (some ⟨rb, 0, none⟩)) ∧ w'.cell? ⟨g, 0, none⟩ = some (.int .i64 (c.page : Int))) ∧ Hid (ChE w1 WA x 0 w' (fun k => K k ∨ k = g) sb rb ti tl n N a C L nx X)) := Lib.hid fun W WA g c hc hW hg => by
    refine (blob_get w1 W W _ sb rb ti tl n N a nx C L X c.page c.text (hX c hc) (HOK.out c hc).t2 (Lib.hid hW.out.st) ⟨by omega, hN.2⟩).mono ?_
    rintro e w' ⟨rfl, hE⟩
    have hs := hW.out.step hE.out
    exact ⟨rfl, ⟨hs.st.sbk.cells.1, (World.cell?_of_block (hs.kp g (.inr rfl))).trans hg⟩, Lib.hid hs⟩
  have BP : Hid (∀ W, Hid (ChE w1 w x 0 W K sb rb ti tl n N a C L nx X) → Calls Tryz.prog 67 #[.pointer (some ⟨rb, 0, none⟩), .string t] W fun e w' => ∃ page : Nat, e = .returned (.tuple #[.int .i64 (page : Int), .int .i64 0]) ∧ Hid (page < 65536 ∧ ChE w1 w x 0 w' K sb rb ti tl n N (a + 1) C L nx ((page, t) :: X))) := Lib.hid fun W hW => by
    refine (blob_put w1 W W _ sb rb ti tl n N a nx C L X t ht2 (Lib.hid hW.out.st) ⟨by omega, hN.2⟩).mono ?_
    rintro e w' ⟨page, rfl, hE⟩
    exact ⟨page, rfl, Lib.hid ⟨hE.out.1, hW.out.step hE.out.2⟩⟩
  have KP : Hid (∀ W (page : Nat) (s : ByteArray), page < 65536 → s.size = 33 → Hid (ChE w1 w x 0 W K sb rb ti tl n N (a + 1) C L nx ((page, t) :: X)) → Calls Tryz.prog 68 #[.pointer (some ⟨sb, 0, none⟩), .string s, .agg #[.int .i64 (page : Int), .int .i64 (t.size : Int), .int .i64 0]] W fun e w' => e = .returned (.int .i64 0) ∧ Hid (∃ C', PutC ⟨s, page, 0, t⟩ C C' ∧ ChE w1 w x 0 w' K sb rb ti tl n N (a + 2) C' L nx ((page, t) :: X))) := Lib.hid fun W page s hpg hs hW => by
    refine (keep_k w1 W W _ sb rb ti tl n N (a + 1) nx C L ((page, t) :: X) ⟨s, page, 0, t⟩ ⟨hs, hpg, ht1, ht2, by show (-1000000000 : Int) ≤ 0; decide, by show (0 : Int) ≤ 1000000000; decide⟩ (Lib.hid hW.out.st) ⟨by omega, hN.2⟩).mono ?_
    rintro e w' ⟨rfl, hE⟩
    obtain ⟨C', h1, h2⟩ := hE.out
    exact ⟨rfl, Lib.hid ⟨C', h2, hW.out.step h1⟩⟩
  have HH := Lib.hid h.out
  have k1 : ((t.size : Int) < 1) = False := by simp; omega
  have k2 : ((128 : Int) < t.size) = False := by simp; omega
  have HCL : Hid (C.length < 256) := Lib.hid (by omega)
  clear h hN ht1 ht2 hC hX hp hps
  go_enter_defers Tryz.func18, Tryz.ntmps18
  go_wp2_with fail
  subst hx
  refine MK.mono ?_
  rintro e wm ⟨rfl, rfl⟩
  go_wp2_with fail
  refine F0.mono ?_
  rintro e w2 ⟨rfl, G2⟩
  have E2 := Lib.hid (E0.out.step G2.out)
  have E3 : Hid (∀ o, ChE w1 w w.heap.size 0 (w2.alloc o) K sb rb ti tl n N a C L nx X) := Lib.hid fun o => E2.out.below ((Below.refl _ _).alloc (Nat.le_refl _) o)
  clear F0 MK G2
  go_wp2_with fail
  refine (PR _).mono ?_
  rintro e w3 ⟨rfl, hb3⟩
  have R0 : Hid (FreeAt C p 0 (-1) ∧ NoHit C p t 0 ∧ ChE w1 w w.heap.size 0 w3 K sb rb ti tl n N a C L nx X) := Lib.hid ⟨FreeAt.zero C p, NoHit.zero C p t, (E3.out _).below hb3.out⟩
  clear E2 E3 hb3 PR k1 k2
  go_wp2_with fail
  go_loopg [11, 12, 13, 14, 15, 16, 17, 18, 43, 55, 59, 94, 98] 256 (fun g s11 s12 s13 s14 s15 s16 s17 s18 s43 s55 s59 s94 s98 wr => ∃ (i : Nat) (f : Int), g = 256 - i ∧ i ≤ 256 ∧ s43 = .int .i64 (i : Int) ∧ s11 = .int .i64 f ∧ Hid (FreeAt C p i f ∧ NoHit C p t i ∧ ChE w1 w w.heap.size 0 wr K sb rb ti tl n N a C L nx X))
  case atStart => exact ⟨0, -1, rfl, Nat.zero_le _, rfl, rfl, R0⟩
  case round =>
    obtain ⟨i, f, rfl, hi, rfl, rfl, HR⟩ := hrel
    clear R0
    have HE := Lib.hid HR.out.2.2
    have HFA := Lib.hid (And.intro HR.out.1 HR.out.2.1)
    clear HR
    by_cases hlt : i < 256
    · have NMi := NM.out wr i hlt
      have hsz := HSZ.out i
      have LSi : Hid (∀ W, Hid (ChE w1 w w.heap.size 0 W K sb rb ti tl n N a C L nx X) → Calls Tryz.prog 65 #[.pointer (some ⟨sb, 0, none⟩), .string p, .int .i64 (i : Int)] W fun e w' => ∃ b : Bool, e = .returned (.tuple #[.bool b, .int .i64 0]) ∧ (b = true ↔ NoC C (nameB p i) (p ++ ffB)) ∧ Hid (ChE w1 w w.heap.size 0 w' K sb rb ti tl n N a C L nx X)) := Lib.hid fun W hW => LS.out W i hlt hW
      have HLT := Lib.hid hlt
      have hltI : (i : Int) < 256 := by omega
      cases hf : cAt C (nameB p i) with
      | none =>
        have FNi := fun W => FN.out W _ hsz hf
        have HF := Lib.hid hf
        clear hf hlt hi hsz
        go_wp2_with fail
        refine NMi.mono ?_
        rintro e w4 ⟨rfl, hb4⟩
        go_wp2_with fail
        refine (FNi _ (Lib.hid (HE.out.below hb4.out))).mono ?_
        rintro e w5 ⟨rfl, HE5⟩
        have HE6 : Hid (∀ o, ChE w1 w w.heap.size 0 (w5.alloc o) K sb rb ti tl n N a C L nx X) := Lib.hid fun o => HE5.out.below ((Below.refl _ _).alloc (Nat.le_refl _) o)
        clear NMi FNi hb4
        by_cases hneg : f < 0
        · have HNG := Lib.hid hneg
          go_wp2_with fail
          refine (LSi.out _ (Lib.hid (HE6.out _))).mono ?_
          rintro e w6 ⟨bb, rfl, hbb, HE7⟩
          clear HE5 HE6
          cases bb with
          | false =>
            clear hbb
            go_wp2_with fail
            go_roundg (256 - (i + 1))
            case measure => have := HLT.out; omega
            case rel => exact ⟨i + 1, _, rfl, HLT.out, by congr 1, rfl, Lib.hid ⟨HFA.out.1.no HF.out HNG.out, HFA.out.2.no HF.out, HE7.out⟩⟩
          | true =>
            have HKF : Hid (i < 256 ∧ cAt C (nameB p i) = none ∧ (∀ j, j < i → cAt C (nameB p j) ≠ none) ∧ NoHit C p t 256) := Lib.hid (by
              obtain ⟨k', e1, e2, e3, e4⟩ := (HFA.out.1.no HF.out HNG.out).pos HLT.out (by omega)
              obtain rfl : k' = i := by omega
              exact ⟨e2, e3, e4, HFA.out.2.all HLT.out (hbb.1 rfl)⟩)
            clear hbb
            have CF := Lib.hid (HE7.out.st.sbk.cells)
            have BPw := BP.out _ HE7
            obtain ⟨s0, s1, s2⟩ := CF.out
            obtain ⟨cx, fx, lx⟩ := HE7.out.cell
            have lsb : sb < w6.heap.size := lt_of_heap HE7.out.st.sbk.1
            clear CF
            go_wp2_with fail
            refine BPw.mono ?_
            rintro e w5 ⟨page, rfl, HP5⟩
            have HPG : Hid (page < 65536) := Lib.hid HP5.out.1
            have E5 := Lib.hid HP5.out.2
            clear BPw cx fx lx s0 s1 s2 lsb HP5
            obtain ⟨cx, fx, lx⟩ := E5.out.cell
            have E6 := Lib.hid (E5.out.set 0)
            obtain ⟨w6, hw6⟩ : ∃ w6, w5.setCell ⟨w.heap.size, 0, none⟩ (.int .i64 0) = w6 := ⟨_, rfl⟩
            rw [hw6] at E6
            have lx6 := E6.out.cell.1
            obtain ⟨s0, s1, s2⟩ := E6.out.st.sbk.cells
            have NM6 := NM.out w6 i HKF.out.1
            go_wp2_with fail
            refine NM6.mono ?_
            rintro e w7 ⟨rfl, hb7⟩
            have E7 := Lib.hid (E6.out.below hb7.out)
            have KPw := KP.out _ page (nameB p i) HPG.out (HSZ.out _) E7
            clear NM6 hb7 lx6 s0 s1 s2 hw6
            obtain ⟨s0, s1, s2⟩ := E7.out.st.sbk.cells
            go_wp2_with fail
            refine KPw.mono ?_
            rintro e w8 ⟨rfl, HK8⟩
            obtain ⟨C', hpc, hE8⟩ := HK8.out
            have E8 := Lib.hid hE8
            have HPC := Lib.hid hpc
            clear KPw HK8 hE8 hpc cx fx lx s0 s1 s2
            have NM8 := NM.out w8 i HKF.out.1
            go_wp2_with fail
            refine NM8.mono ?_
            rintro e w9 ⟨rfl, hb9⟩
            have E9 := Lib.hid (E8.out.below hb9.out)
            clear NM8 hb9
            obtain ⟨cx, fx, lx⟩ := E9.out.cell
            have E10 := Lib.hid (E9.out.set 0)
            have hfin := E10.out.cell.1
            have HG : Hid (PutRes w1 w0 (w9.setCell ⟨w.heap.size, 0, none⟩ (.int .i64 0)) K sb rb ti tl n N a C L nx X p t (nameB p i) true) := Lib.hid (.inr ⟨rfl, i, page, C', HKF.out.1, rfl, HKF.out.2.1, HKF.out.2.2.1, HKF.out.2.2.2, HPC.out, ChE.end_ HH.out E10.out⟩)
            go_wp2_with fail
            refine leaves_cons (f := 60) (args := #[.pointer (some ⟨sb, 0, none⟩), .int .i64 (k : Int), .pointer (some ⟨w.heap.size, 0, none⟩)]) (by simp) (by simp [go_sem]) ?_
            refine (undo_d _ _ _ _ _ hfin).mono ?_
            rintro e u' wz ⟨rfl, rfl, rfl⟩
            simp [Leaves, settle, results, Tryz.results18, go_sem, hfin]
            exact HG
        · have hpos : Hid (∃ kf : Nat, f = (kf : Int) ∧ kf < 256 ∧ cAt C (nameB p kf) = none ∧ ∀ j, j < kf → cAt C (nameB p j) ≠ none) := Lib.hid (HFA.out.1.pos (Nat.le_of_lt HLT.out) hneg)
          have HNG := Lib.hid hneg
          go_wp2_with fail
          refine (LSi.out _ (Lib.hid (HE6.out _))).mono ?_
          rintro e w6 ⟨bb, rfl, hbb, HE7⟩
          clear HE5 HE6
          cases bb with
          | false =>
            clear hbb
            go_wp2_with fail
            go_roundg (256 - (i + 1))
            case measure => have := HLT.out; omega
            case rel => exact ⟨i + 1, _, rfl, HLT.out, by congr 1, rfl, Lib.hid ⟨HFA.out.1.no' (by have := HNG.out; omega), HFA.out.2.no HF.out, HE7.out⟩⟩
          | true =>
            obtain ⟨kf, hkf, q1, q2, q3⟩ := hpos.out
            have HKF : Hid (kf < 256 ∧ cAt C (nameB p kf) = none ∧ (∀ j, j < kf → cAt C (nameB p j) ≠ none) ∧ NoHit C p t 256) := Lib.hid ⟨q1, q2, q3, HFA.out.2.all HLT.out (hbb.1 rfl)⟩
            subst hkf
            clear hbb q1 q2 q3 hneg HFA HNG hpos
            have CF := Lib.hid (HE7.out.st.sbk.cells)
            have BPw := BP.out _ HE7
            obtain ⟨s0, s1, s2⟩ := CF.out
            obtain ⟨cx, fx, lx⟩ := HE7.out.cell
            have lsb : sb < w6.heap.size := lt_of_heap HE7.out.st.sbk.1
            clear CF
            go_wp2_with fail
            refine BPw.mono ?_
            rintro e w5 ⟨page, rfl, HP5⟩
            have HPG : Hid (page < 65536) := Lib.hid HP5.out.1
            have E5 := Lib.hid HP5.out.2
            clear BPw cx fx lx s0 s1 s2 lsb HP5
            obtain ⟨cx, fx, lx⟩ := E5.out.cell
            have E6 := Lib.hid (E5.out.set 0)
            obtain ⟨w6, hw6⟩ : ∃ w6, w5.setCell ⟨w.heap.size, 0, none⟩ (.int .i64 0) = w6 := ⟨_, rfl⟩
            rw [hw6] at E6
            have lx6 := E6.out.cell.1
            obtain ⟨s0, s1, s2⟩ := E6.out.st.sbk.cells
            have NM6 := NM.out w6 kf HKF.out.1
            go_wp2_with fail
            refine NM6.mono ?_
            rintro e w7 ⟨rfl, hb7⟩
            have E7 := Lib.hid (E6.out.below hb7.out)
            have KPw := KP.out _ page (nameB p kf) HPG.out (HSZ.out _) E7
            clear NM6 hb7 lx6 s0 s1 s2 hw6
            obtain ⟨s0, s1, s2⟩ := E7.out.st.sbk.cells
            go_wp2_with fail
            refine KPw.mono ?_
            rintro e w8 ⟨rfl, HK8⟩
            obtain ⟨C', hpc, hE8⟩ := HK8.out
            have E8 := Lib.hid hE8
            have HPC := Lib.hid hpc
            clear KPw HK8 hE8 hpc cx fx lx s0 s1 s2
            have NM8 := NM.out w8 kf HKF.out.1
            go_wp2_with fail
            refine NM8.mono ?_
            rintro e w9 ⟨rfl, hb9⟩
            have E9 := Lib.hid (E8.out.below hb9.out)
            clear NM8 hb9
            obtain ⟨cx, fx, lx⟩ := E9.out.cell
            have E10 := Lib.hid (E9.out.set 0)
            have hfin := E10.out.cell.1
            have HG : Hid (PutRes w1 w0 (w9.setCell ⟨w.heap.size, 0, none⟩ (.int .i64 0)) K sb rb ti tl n N a C L nx X p t (nameB p kf) true) := Lib.hid (.inr ⟨rfl, kf, page, C', HKF.out.1, rfl, HKF.out.2.1, HKF.out.2.2.1, HKF.out.2.2.2, HPC.out, ChE.end_ HH.out E10.out⟩)
            go_wp2_with fail
            refine leaves_cons (f := 60) (args := #[.pointer (some ⟨sb, 0, none⟩), .int .i64 (k : Int), .pointer (some ⟨w.heap.size, 0, none⟩)]) (by simp) (by simp [go_sem]) ?_
            refine (undo_d _ _ _ _ _ hfin).mono ?_
            rintro e u' wz ⟨rfl, rfl, rfl⟩
            simp [Leaves, settle, results, Tryz.results18, go_sem, hfin]
            exact HG
      | some c =>
        have hcm := (cAt_some hf).1
        have FYi := fun W => FY.out W _ c hsz hf
        have HF := Lib.hid hf
        have BGi : Hid (∀ W WA g, Hid (ChE w1 WA w.heap.size 0 W (fun k => K k ∨ k = g) sb rb ti tl n N a C L nx X) → WA.cell? ⟨g, 0, none⟩ = some (.int .i64 (c.page : Int)) → Calls Tryz.prog 66 #[.pointer (some ⟨rb, 0, none⟩), .int .i64 (c.page : Int)] W fun e w' => e = .returned (.tuple #[.string c.text, .int .i64 0]) ∧ (w'.cell? ⟨sb, 0, none⟩ = some (.pointer (some ⟨rb, 0, none⟩)) ∧ w'.cell? ⟨g, 0, none⟩ = some (.int .i64 (c.page : Int))) ∧ Hid (ChE w1 WA w.heap.size 0 w' (fun k => K k ∨ k = g) sb rb ti tl n N a C L nx X)) := Lib.hid fun W WA g h1 h2 => BG.out W WA g c hcm h1 h2
        clear hf hlt hi hsz hcm
        obtain ⟨tx, htx⟩ : ∃ tx, c.text = tx := ⟨_, rfl⟩
        have HTX := Lib.hid htx
        rw [htx] at BGi FYi
        generalize c.page = z0 at *
        generalize c.cnt = z2 at *
        generalize (tx.size : Int) = z1 at *
        clear htx
        go_wp2_with fail
        refine NMi.mono ?_
        rintro e w4 ⟨rfl, hb4⟩
        go_wp2_with fail
        refine (FYi _ (Lib.hid (HE.out.below hb4.out))).mono ?_
        rintro e w5 ⟨rfl, HE5⟩
        clear NMi FYi hb4
        have HE6 := Lib.hid (HE5.out.new (.cells #[.int .i64 (z0 : Int), .int .i64 z1, .int .i64 z2] 124))
        have HOLD : Hid (∀ W, ChE w1 (w5.alloc (.cells #[.int .i64 (z0 : Int), .int .i64 z1, .int .i64 z2] 124)) w.heap.size 0 W (fun k => K k ∨ k = w5.heap.size) sb rb ti tl n N a C L nx X → ChE w1 w w.heap.size 0 W K sb rb ti tl n N a C L nx X) := Lib.hid fun W h9 => ChE.old HE5.out h9
        obtain ⟨w6, hw6⟩ : ∃ w6, w5.alloc (.cells #[.int .i64 (z0 : Int), .int .i64 z1, .int .i64 z2] 124) = w6 := ⟨_, rfl⟩
        have g0 : w6.cell? ⟨w5.heap.size, 0, none⟩ = some (.int .i64 (z0 : Int)) := by rw [← hw6]; exact cell_lit (heap_alloc_new _ _) rfl
        rw [hw6] at HE6 HOLD
        obtain ⟨s0, s1, s2⟩ := HE6.out.st.sbk.cells
        have lsb : sb < w6.heap.size := lt_of_heap HE6.out.st.sbk.1
        have HE7 : Hid (ChE w1 w6 w.heap.size 0 w6.drew (fun k => K k ∨ k = w5.heap.size) sb rb ti tl n N a C L nx X) := Lib.hid (HE6.out.below (Below.refl _ _).drew)
        have HG0 := Lib.hid g0
        clear HE5
        go_wp2_with fail
        go_region_held3 (fun w' => w'.cell? ⟨sb, 0, none⟩ = some (.pointer (some ⟨rb, 0, none⟩)) ∧ w'.cell? ⟨w5.heap.size, 0, none⟩ = some (.int .i64 (z0 : Int))) (go_keep) ((first
          | (go_at_call 66
             refine Calls.at_args (BGi.out _ _ _ HE7 HG0.out) (by with_reducible rfl) ?_
             rintro e w7 ⟨rfl, hk7, HE8⟩)))
        all_goals (
          have HE9 := Lib.hid (HOLD.out _ HE8.out)
          clear HE6 HE7 HE8 HOLD s0 s1 s2 lsb g0 HG0 hk7 hw6 BGi
          by_cases he : tx = t
          · have q : (tx.toList == t.toList) = true := by rw [baK_eq]; simp [he]
            have NM2 := NM.out w7 i HLT.out
            have HQ := Lib.hid he
            clear he
            go_wp2_with fail
            refine NM2.mono ?_
            rintro e w9 ⟨rfl, hb9⟩
            have E9 := Lib.hid (HE9.out.below hb9.out)
            clear NM2 hb9
            obtain ⟨cx, fx, lx⟩ := E9.out.cell
            have E10 := Lib.hid (E9.out.set 0)
            have hfin := E10.out.cell.1
            have HG : Hid (PutRes w1 w0 (w9.setCell ⟨w.heap.size, 0, none⟩ (.int .i64 0)) K sb rb ti tl n N a C L nx X p t (nameB p i) false) := Lib.hid (.inl ⟨rfl, i, c, HLT.out, rfl, HF.out, HTX.out.trans HQ.out, HFA.out.2, ChE.end_ HH.out E10.out⟩)
            go_wp2_with fail
            refine leaves_cons (f := 60) (args := #[.pointer (some ⟨sb, 0, none⟩), .int .i64 (k : Int), .pointer (some ⟨w.heap.size, 0, none⟩)]) (by simp) (by simp [go_sem]) ?_
            refine (undo_d _ _ _ _ _ hfin).mono ?_
            rintro e u' wz ⟨rfl, rfl, rfl⟩
            simp [Leaves, settle, results, Tryz.results18, go_sem, hfin]
            exact HG
          · have q : (tx.toList == t.toList) = false := by rw [baK_eq]; simp [he]
            have HQ := Lib.hid he
            clear he
            go_wp2_with fail
            go_roundg (256 - (i + 1))
            case measure => have := HLT.out; omega
            case rel => exact ⟨i + 1, _, rfl, HLT.out, by congr 1, rfl, Lib.hid ⟨HFA.out.1.yes HF.out, HFA.out.2.yes HF.out (fun e => HQ.out (HTX.out.symm.trans e)), HE9.out⟩⟩)
    · obtain rfl : i = 256 := by omega
      obtain ⟨kf, hkf, q1, q2, q3⟩ := HFA.out.1.fin HCL.out
      have HKF : Hid (kf < 256 ∧ cAt C (nameB p kf) = none ∧ (∀ j, j < kf → cAt C (nameB p j) ≠ none) ∧ NoHit C p t 256) := Lib.hid ⟨q1, q2, q3, HFA.out.2⟩
      subst hkf
      clear q1 q2 q3 HFA hlt hi
      have CF := Lib.hid (HE.out.st.sbk.cells)
      have BPw := BP.out _ HE
      obtain ⟨s0, s1, s2⟩ := CF.out
      obtain ⟨cx, fx, lx⟩ := HE.out.cell
      have lsb : sb < wr.heap.size := lt_of_heap HE.out.st.sbk.1
      clear CF
      go_wp2_with fail
      refine BPw.mono ?_
      rintro e w5 ⟨page, rfl, HP5⟩
      have HPG : Hid (page < 65536) := Lib.hid HP5.out.1
      have E5 := Lib.hid HP5.out.2
      clear BPw cx fx lx s0 s1 s2 lsb HP5
      obtain ⟨cx, fx, lx⟩ := E5.out.cell
      have E6 := Lib.hid (E5.out.set 0)
      obtain ⟨w6, hw6⟩ : ∃ w6, w5.setCell ⟨w.heap.size, 0, none⟩ (.int .i64 0) = w6 := ⟨_, rfl⟩
      rw [hw6] at E6
      have lx6 := E6.out.cell.1
      obtain ⟨s0, s1, s2⟩ := E6.out.st.sbk.cells
      have NM6 := NM.out w6 kf HKF.out.1
      go_wp2_with fail
      refine NM6.mono ?_
      rintro e w7 ⟨rfl, hb7⟩
      have E7 := Lib.hid (E6.out.below hb7.out)
      have KPw := KP.out _ page (nameB p kf) HPG.out (HSZ.out _) E7
      clear NM6 hb7 lx6 s0 s1 s2 hw6
      obtain ⟨s0, s1, s2⟩ := E7.out.st.sbk.cells
      go_wp2_with fail
      refine KPw.mono ?_
      rintro e w8 ⟨rfl, HK8⟩
      obtain ⟨C', hpc, hE8⟩ := HK8.out
      have E8 := Lib.hid hE8
      have HPC := Lib.hid hpc
      clear KPw HK8 hE8 hpc cx fx lx s0 s1 s2
      have NM8 := NM.out w8 kf HKF.out.1
      go_wp2_with fail
      refine NM8.mono ?_
      rintro e w9 ⟨rfl, hb9⟩
      have E9 := Lib.hid (E8.out.below hb9.out)
      clear NM8 hb9
      obtain ⟨cx, fx, lx⟩ := E9.out.cell
      have E10 := Lib.hid (E9.out.set 0)
      have hfin := E10.out.cell.1
      have HG : Hid (PutRes w1 w0 (w9.setCell ⟨w.heap.size, 0, none⟩ (.int .i64 0)) K sb rb ti tl n N a C L nx X p t (nameB p kf) true) := Lib.hid (.inr ⟨rfl, kf, page, C', HKF.out.1, rfl, HKF.out.2.1, HKF.out.2.2.1, HKF.out.2.2.2, HPC.out, ChE.end_ HH.out E10.out⟩)
      go_wp2_with fail
      refine leaves_cons (f := 60) (args := #[.pointer (some ⟨sb, 0, none⟩), .int .i64 (k : Int), .pointer (some ⟨w.heap.size, 0, none⟩)]) (by simp) (by simp [go_sem]) ?_
      refine (undo_d _ _ _ _ _ hfin).mono ?_
      rintro e u' wz ⟨rfl, rfl, rfl⟩
      simp [Leaves, settle, results, Tryz.results18, go_sem, hfin]
      exact HG
end
end Go.Proofs.YtdcjhpafipbpkaaGreatDoor
namespace Go.Proofs.YtdcjhpafipbpkaaGreatDoor
set_option linter.unusedVariables false
set_option maxRecDepth 100000
set_option maxHeartbeats 1000000
open Go.RowKit
theorem PutC.nil {c : Ck} {C' : List Ck} (h : PutC c [] C') : C' = [c] := by
  obtain ⟨A, B, rfl, h', -, -⟩ := h
  rcases h' with h' | ⟨c0, -, h'⟩
  · have := List.append_eq_nil_iff.1 h'.symm
    rw [this.1, this.2]; rfl
  · simp at h'
theorem PutC.same {c c0 : Ck} {C' : List Ck} (h : PutC c [c0] C') (e : c0.id = c.id) : C' = [c] := by
  obtain ⟨A, B, rfl, h', hA, hB⟩ := h
  rcases h' with h' | ⟨c1, -, h'⟩
  · exfalso
    have hm : c0 ∈ A ++ B := by rw [← h']; simp
    rcases List.mem_append.1 hm with hm | hm
    · exact kless_ne (hA c0 hm) e
    · exact kless_ne (hB c0 hm) e.symm
  · cases A with
    | nil =>
      rw [List.nil_append] at h'
      have := (List.cons.inj h').2
      subst this; rfl
    | cons x A =>
      rw [List.cons_append] at h'
      have := (List.cons.inj h').2
      simp at this
theorem cAt_one {c : Ck} : cAt [c] c.id = some c := by simp [cAt]
theorem cAt_one_some {c d : Ck} {s : ByteArray} (h : cAt [c] s = some d) : d = c ∧ c.id = s := by
  obtain ⟨h1, h2⟩ := cAt_some h
  simp at h1
  subst h1
  exact ⟨rfl, h2⟩
theorem pend_app (A B : List Lg) (id : ByteArray) : pend (A ++ B) id = pend A id + pend B id := by
  induction A with
  | nil => simp [pend]
  | cons x A ih => simp only [List.cons_append, pend, ih]; omega
theorem pend_take (A : List Lg) (n : Nat) (id : ByteArray) : pend (A.take n) id + pend (A.drop n) id = pend A id := by
  rw [← pend_app, List.take_append_drop]
theorem Mg.one {c : Ck} {T : List Lg} {C' : List Ck} (h : Mg [c] T C') (hT : ∀ e ∈ T, e.id = c.id) : C' = [c.add (pend T c.id)] := by
  induction h with
  | nil => simp [pend, Ck.add]
  | @snoc T C1 C2 e h1 h2 ih =>
    have e1 := ih fun x hx => hT x (by simp [hx])
    have e2 := hT e (by simp)
    subst e1
    rcases h2 with ⟨h3, -⟩ | ⟨d, h3, h4⟩
    · exact absurd e2.symm (cAt_none h3 (c.add (pend T c.id)) (by simp))
    · obtain ⟨rfl, h5⟩ := cAt_one_some h3
      have := h4.same rfl
      rw [this, pend_snoc, if_pos e2]
      simp only [Ck.add, List.cons.injEq, Ck.mk.injEq, and_true, true_and]
      omega
section
variable {w1 w0 w : World} {K : Nat → Prop} {sb rb ti tl n N a nx : Nat} {C : List Ck} {L : List Lg} {X : List (Nat × ByteArray)} {p t id : ByteArray} {fresh : Bool}
theorem PutRes.empty (h : PutRes w1 w0 w K sb rb ti tl n N a [] L nx X p t id fresh) : fresh = true ∧ id = nameB p 0 ∧ ∃ page, Chs w1 w0 w K sb rb ti tl n N (a + 2) [⟨id, page, 0, t⟩] L nx ((page, t) :: X) := by
  rcases h with ⟨-, k, c, -, -, h, -⟩ | ⟨h1, k, page, C', -, h2, -, h3, -, h4, h5⟩
  · simp [cAt] at h
  · have hk : k = 0 := by
      rcases Nat.eq_zero_or_pos k with h | h
      · exact h
      · exact absurd rfl (h3 0 h)
    subst hk
    rw [h4.nil] at h5
    exact ⟨h1, h2, page, h5⟩
theorem PutRes.one {c : Ck} (h : PutRes w1 w0 w K sb rb ti tl n N a [c] L nx X p t id fresh) (hi : c.id = nameB p 0) (ht : c.text = t) : fresh = false ∧ id = c.id ∧ Chs w1 w0 w K sb rb ti tl n N a [c] L nx X := by
  rcases h with ⟨h1, k, d, -, h2, h, -, -, h5⟩ | ⟨-, k, page, C', -, -, -, -, h4, -⟩
  · obtain ⟨rfl, h6⟩ := cAt_one_some h
    exact ⟨h1, h6.symm, h5⟩
  · exact absurd ht (h4 0 (by decide) c (by rw [← hi]; exact cAt_one))
end
end Go.Proofs.YtdcjhpafipbpkaaGreatDoor
namespace Go.Proofs.YtdcjhpafipbpkaaGreatDoor
set_option linter.unusedVariables false
set_option maxRecDepth 100000
set_option maxHeartbeats 4000000
open Go.RowKit
def aB : ByteArray := ⟨#[97]⟩
theorem awake11_c (w : World) : Calls Tryz.prog 13 #[] w fun e w' => e = .returned (.bool true) ∧ Hid (Below w.heap.size w w') := by
  have WD := Wide_c 3000 w (by decide) (by decide)
  rw [show ((3000 : Nat) : Int) = 3000 from rfl] at WD
  go_enter Tryz.func13, Tryz.ntmps13
  go_wp2_with fail
  refine WD.mono ?_
  rintro e wb ⟨db, lb, FL, rfl, H1⟩
  clear WD
  go_wp2_with fail
  refine (Begin_c lb wb).mono ?_
  rintro e wc ⟨rfl, H2⟩
  have OF := Of_c _ lb 3000 FL _ [] wc (chg_new H1.out H2.out) (by decide)
  go_wp2_with fail
  refine OF.mono ?_
  rintro e wd ⟨rb, G, rfl, H3⟩
  have NR := Lib.hid (NewRoom.of (w1 := w) (Below.refl _ _) H1.out H2.out H3.out)
  clear OF H1 H2 H3
  have AT := At_k rb wd
  go_wp2_with fail
  refine AT.mono ?_
  rintro e we ⟨sb, ti, tl, rfl, HT⟩
  have M0 := Lib.hid (Chs.start (N := 20) NR.out (by decide) (by decide) HT.out.1 HT.out.2.1 HT.out.2.2)
  clear NR HT AT
  have P1 := Put_k w we we (fun _ => False) sb rb ti tl 3000 20 0 0 [] [] [] aB M0 (by decide) (by decide) (by decide) (by decide) (fun c hc => by cases hc)
  rw [show aB = ⟨#[97]⟩ from rfl] at P1
  clear M0
  go_wp2_with fail
  refine P1.mono ?_
  rintro e w3 ⟨id, fresh, rfl, HP⟩
  obtain ⟨rfl, hid, page, HC⟩ := PutRes.empty HP.out
  have M1 := Lib.hid HC
  have hsz : id.size = 33 := by rw [hid, nameB_size, prB_size]
  have HI := Lib.hid hid
  clear HP HC P1 hid
  have P2 := Put_k w w3 we (fun _ => False) sb rb ti tl 3000 20 2 0 [⟨id, page, 0, ⟨#[97]⟩⟩] [] [(page, ⟨#[97]⟩)] aB M1 (by decide) (by decide) (by decide) (show 1 ≤ 250 by decide) (fun c hc => by simp at hc; subst hc; simp)
  rw [show aB = ⟨#[97]⟩ from rfl] at P2
  clear M1
  go_wp2_with fail
  refine P2.mono ?_
  rintro e w4 ⟨id2, fresh, rfl, HP⟩
  obtain ⟨rfl, hid, HC⟩ := PutRes.one HP.out HI.out rfl
  obtain rfl : id2 = id := hid
  have M2 := Lib.hid HC
  clear HP HC P2
  have AD := Add_yes w w4 we (fun _ => False) sb rb ti tl 3000 20 2 0 [⟨id2, page, 0, ⟨#[97]⟩⟩] [] [(page, ⟨#[97]⟩)] id2 true ⟨id2, page, 0, ⟨#[97]⟩⟩ M2 (by decide) hsz cAt_one
  rw [show byI true = 1 from rfl] at AD
  clear M2
  go_wp2_with fail
  refine AD.mono ?_
  rintro e w5 ⟨rfl, M3⟩
  clear AD
  have MG := Merge_k w w5 we (fun _ => False) sb rb ti tl 3000 20 3 1 [⟨id2, page, 0, ⟨#[97]⟩⟩] ([] ++ [Lg.mk 0 true id2]) [(page, ⟨#[97]⟩)] 9 9 rfl (by decide) M3 (show 3 + 2 * 1 ≤ 20 ∧ 20 ≤ 1000 by decide) (fun c hc => by simp at hc; subst hc; exact ⟨by show (-1000000 : Int) ≤ 0; decide, by show (0 : Int) ≤ 1000000; decide⟩)
  have e9 : (List.take 9 (([] : List Lg) ++ [(⟨0, true, id2⟩ : Lg)])).length = 1 := rfl
  rw [e9, show ((1 : Nat) : Int) = 1 from rfl] at MG
  clear M3
  go_wp2_with fail
  refine MG.mono ?_
  rintro e w6 ⟨rfl, HM⟩
  have M4 : Hid (Chs w we w6 (fun _ => False) sb rb ti tl 3000 20 5 [⟨id2, page, 1, ⟨#[97]⟩⟩] [] 1 [(page, ⟨#[97]⟩)]) := Lib.hid (by
    obtain ⟨C', h1, h2⟩ := HM.out
    have := Mg.one h1 (fun e he => by simp at he; subst he; rfl)
    rw [this] at h2
    simpa [Ck.add, pend, Lg.by] using h2)
  clear HM MG
  have CT := Count_yes w w6 we (fun _ => False) sb rb ti tl 3000 20 5 1 [⟨id2, page, 1, ⟨#[97]⟩⟩] [] [(page, ⟨#[97]⟩)] id2 ⟨id2, page, 1, ⟨#[97]⟩⟩ M4 (by decide) (by omega) cAt_one (by decide)
  simp only [pend] at CT
  clear M4
  go_wp2_with fail
  refine CT.mono ?_
  rintro e w7 ⟨rfl, M5⟩
  clear CT
  have GT := Get_yes w w7 we (fun _ => False) sb rb ti tl 3000 20 5 1 [⟨id2, page, 1, ⟨#[97]⟩⟩] [] [(page, ⟨#[97]⟩)] id2 ⟨id2, page, 1, ⟨#[97]⟩⟩ M5 (by decide) (by omega) cAt_one (by simp)
  simp only at GT
  have HB : Hid (∀ w8, Hid (Chs w we w8 (fun _ => False) sb rb ti tl 3000 20 5 [⟨id2, page, 1, ⟨#[97]⟩⟩] [] 1 [(page, ⟨#[97]⟩)]) → Below w.heap.size w w8) := Lib.hid fun w8 h => h.out.bel
  have hse : ((id2.size : Int) == 33) = true := by rw [hsz]; rfl
  clear M5 hsz
  go_wp2_with fail
  refine GT.mono ?_
  rintro e w8 ⟨rfl, M6⟩
  clear GT
  go_wp2_with fail
  go_ret
  exact ⟨rfl, Lib.hid (HB.out _ M6)⟩
end Go.Proofs.YtdcjhpafipbpkaaGreatDoor
namespace Go.Proofs.YtdcjhpafipbpkaaGreatDoor
set_option linter.unusedVariables false
set_option maxRecDepth 100000
set_option maxHeartbeats 4000000
open Go.RowKit
/-- Where the law is: one chunk; its count and what waits come to the sum. -/
def SumSt (w1 w0 w : World) (sb rb ti tl : Nat) (id : ByteArray) (page : Nat) (t : ByteArray) (i : Nat) (sum : Int) : Prop :=
  ∃ cnt L nx a, Chs w1 w0 w (fun _ => False) sb rb ti tl 30000 200 a [⟨id, page, cnt, t⟩] L nx [(page, t)] ∧ (∀ e ∈ L, e.id = id) ∧ cnt + pend L id = sum ∧ a + 2 * L.length ≤ 2 + 3 * i ∧ -(i : Int) ≤ cnt - L.length ∧ cnt + L.length ≤ i
section
variable {w1 w0 w : World} {sb rb ti tl page i : Nat} {id t : ByteArray} {sum : Int}
theorem SumSt.sum_b (h : SumSt w1 w0 w sb rb ti tl id page t i sum) : -(i : Int) ≤ sum ∧ sum ≤ i := by
  obtain ⟨cnt, L, nx, a, h1, h2, h3, h4, h5, h6⟩ := h
  have := pend_abs L id
  omega
theorem SumSt.bel (h : SumSt w1 w0 w sb rb ti tl id page t i sum) : Below w1.heap.size w1 w := by
  obtain ⟨cnt, L, nx, a, h1, h2⟩ := h
  exact h1.bel
theorem sum_add (h : SumSt w1 w0 w sb rb ti tl id page t i sum) (hi : i < 60) (hs : id.size = 33) (up : Bool) :
    Calls Tryz.prog 19 #[.pointer (some ⟨sb, 0, none⟩), .string id, .int .i64 (byI up)] w fun e w' => e = .returned (.int .i64 0) ∧ Hid (SumSt w1 w0 w' sb rb ti tl id page t (i + 1) (sum + byI up)) := by
  obtain ⟨cnt, L, nx, a, h1, h2, h3, h4, h5, h6⟩ := h
  refine (Add_yes w1 w w0 _ sb rb ti tl 30000 200 a nx _ L _ id up ⟨id, page, cnt, t⟩ (Lib.hid h1) (by omega) hs cAt_one).mono ?_
  rintro e w' ⟨rfl, hE⟩
  refine ⟨rfl, Lib.hid ⟨cnt, _, _, _, hE.out, fun e he => ?_, ?_, ?_, ?_, ?_⟩⟩
  · rcases List.mem_append.1 he with he | he
    · exact h2 e he
    · simp at he; subst he; rfl
  · rw [pend_snoc, if_pos rfl]
    show cnt + (pend L id + byI up) = _
    omega
  all_goals (simp only [List.length_append, List.length_singleton]; omega)
theorem sum_merge (h : SumSt w1 w0 w sb rb ti tl id page t i sum) (hi : i < 60) (x : Int) (hx : x ≤ 1000) :
    Calls Tryz.prog 20 #[.pointer (some ⟨sb, 0, none⟩), .int .i64 x] w fun e w' => ∃ m : Int, e = .returned (.tuple #[.int .i64 m, .int .i64 0]) ∧ Hid (SumSt w1 w0 w' sb rb ti tl id page t (i + 1) sum) := by
  obtain ⟨cnt, L, nx, a, h1, h2, h3, h4, h5, h6⟩ := h
  refine (Merge_k w1 w w0 _ sb rb ti tl 30000 200 a nx _ L _ x x.toNat (by omega) (by omega) (Lib.hid h1) (by omega) (fun c hc => by simp at hc; subst hc; exact ⟨by show _ ≤ cnt; omega, by show cnt ≤ _; omega⟩)).mono ?_
  rintro e w' ⟨rfl, hE⟩
  obtain ⟨C', hm, hc⟩ := hE.out
  have ht : ∀ e ∈ L.take x.toNat, e.id = id := fun e he => h2 e (List.mem_of_mem_take he)
  have hC := hm.one ht
  subst hC
  have hp := pend_take L x.toNat id
  have ha := pend_abs (L.take x.toNat) id
  have hl : (L.take x.toNat).length + (L.drop x.toNat).length = L.length := by rw [← List.length_append, List.take_append_drop]
  exact ⟨_, rfl, Lib.hid ⟨cnt + pend (L.take x.toNat) id, _, _, _, hc, fun e he => h2 e (List.mem_of_mem_drop he), by omega, by omega, by omega, by omega⟩⟩
theorem sum_count (h : SumSt w1 w0 w sb rb ti tl id page t i sum) (hi : i ≤ 60) (hs : id.size = 33) :
    Calls Tryz.prog 21 #[.pointer (some ⟨sb, 0, none⟩), .string id] w fun e w' => ∃ c p : Int, e = .returned (.tuple #[.int .i64 c, .int .i64 p, .int .i64 0]) ∧ IntKind.i64.wrap (c + p) = sum ∧ Hid (SumSt w1 w0 w' sb rb ti tl id page t i sum) := by
  have hsb := h.sum_b
  obtain ⟨cnt, L, nx, a, h1, h2, h3, h4, h5, h6⟩ := h
  refine (Count_yes w1 w w0 _ sb rb ti tl 30000 200 a nx _ L _ id ⟨id, page, cnt, t⟩ (Lib.hid h1) (by omega) (by omega) cAt_one (by omega)).mono ?_
  rintro e w' ⟨rfl, hE⟩
  exact ⟨_, _, rfl, by rw [show cnt + pend L id = sum from h3]; exact wrap_sgn (by omega) (by omega), Lib.hid ⟨cnt, L, nx, a, hE.out, h2, h3, h4, h5, h6⟩⟩
theorem sum_put (h : SumSt w1 w0 w sb rb ti tl id page t i sum) (hi : i ≤ 60) (hid : id = nameB (prB t) 0) (h1 : 1 ≤ t.size) (h2 : t.size ≤ 128) :
    Calls Tryz.prog 18 #[.pointer (some ⟨sb, 0, none⟩), .string t] w fun e w' => e = .returned (.tuple #[.string id, .bool false, .int .i64 0]) ∧ Hid (SumSt w1 w0 w' sb rb ti tl id page t i sum) := by
  obtain ⟨cnt, L, nx, a, g1, g2, g3, g4, g5, g6⟩ := h
  refine (Put_k w1 w w0 _ sb rb ti tl 30000 200 a nx _ L _ t (Lib.hid g1) (by omega) h1 h2 (show 1 ≤ 250 by decide) (fun c hc => by simp at hc; subst hc; simp)).mono ?_
  rintro e w' ⟨id2, fresh, rfl, hE⟩
  obtain ⟨rfl, h3, h4⟩ := PutRes.one hE.out hid rfl
  obtain rfl : id2 = id := h3
  exact ⟨rfl, Lib.hid ⟨cnt, L, nx, a, h4, g2, g3, g4, g5, g6⟩⟩
end
/-- .. at arguments out of the law's bounds. -/
theorem sums_out (a : Option Addr) (cap len : Nat) (t : ByteArray) (w : World) (h : t.size < 1 ∨ 128 < t.size ∨ 60 < len) :
    Calls Tryz.prog 3 #[.string t, .slice a len cap] w fun e w' => e = .returned (.bool true) ∧ Hid (Below w.heap.size w w') := by
  have AW := awake11_c
  rcases Nat.lt_or_ge t.size 1 with q1 | q1
  · have k1 : ((t.size : Int) < 1) = True := by simp; omega
    clear h q1
    go_enter Tryz.func3, Tryz.ntmps3
    go_wp2_with fail
    refine (AW _).mono ?_
    rintro e w1 ⟨rfl, hb⟩
    go_wp2_with fail
    go_ret
    exact ⟨rfl, hb⟩
  have k1 : ((t.size : Int) < 1) = False := by simp; omega
  rcases Nat.lt_or_ge 128 t.size with q2 | q2
  · have k2 : ((128 : Int) < t.size) = True := by simp; omega
    clear h q1 q2
    go_enter Tryz.func3, Tryz.ntmps3
    go_wp2_with fail
    refine (AW _).mono ?_
    rintro e w1 ⟨rfl, hb⟩
    go_wp2_with fail
    go_ret
    exact ⟨rfl, hb⟩
  have k2 : ((128 : Int) < t.size) = False := by simp; omega
  have k3 : ((60 : Int) < (len : Int)) = True := by simp; omega
  clear h q1 q2
  go_enter Tryz.func3, Tryz.ntmps3
  go_wp2_with fail
  refine (AW _).mono ?_
  rintro e w1 ⟨rfl, hb⟩
  go_wp2_with fail
  go_ret
  exact ⟨rfl, hb⟩
theorem sums_in (a : Option Addr) (cap : Nat) (t : ByteArray) (l : List Int) (w : World) (h1 : 1 ≤ t.size) (h2 : t.size ≤ 128) (h3 : l.length ≤ 60) (hx : ∀ x ∈ l, -128 ≤ x ∧ x ≤ 127)
    (hcell : ∀ k, (h : k < l.length) → ∃ b off, a = some ⟨b, off, none⟩ ∧ b < w.heap.size ∧ w.cell? ⟨b, off + k, none⟩ = some (.int .i8 l[k])) :
    Calls Tryz.prog 3 #[.string t, .slice a l.length cap] w fun e w' => e = .returned (.bool true) ∧ Hid (Below w.heap.size w w') := by
  have AW := awake11_c
  have WD := fun w => Wide_c 30000 w (by decide) (by decide)
  rw [show ((30000 : Nat) : Int) = 30000 from rfl] at WD
  have BE := Begin_c
  have k1 : ((t.size : Int) < 1) = False := by simp; omega
  have k2 : ((128 : Int) < t.size) = False := by simp; omega
  have k3 : ((60 : Int) < (l.length : Int)) = False := by simp; omega
  have HT := Lib.hid (And.intro h1 h2)
  have HL := Lib.hid h3
  have HX := Lib.hid hx
  have HC := Lib.hid hcell
  clear h1 h2 h3 hx hcell
  go_enter Tryz.func3, Tryz.ntmps3
  go_wp2_with fail
  refine (AW _).mono ?_
  rintro e wa ⟨rfl, hb⟩
  go_wp2_with fail
  refine (WD _).mono ?_
  rintro e wb ⟨db, lb, FL, rfl, H1⟩
  go_wp2_with fail
  refine (BE lb wb).mono ?_
  rintro e wc ⟨rfl, H2⟩
  have OF := Of_c _ lb 30000 FL _ [] wc (chg_new H1.out H2.out) (by decide)
  go_wp2_with fail
  refine OF.mono ?_
  rintro e wd ⟨rb, G, rfl, H3⟩
  have NR := Lib.hid (NewRoom.of hb.out H1.out H2.out H3.out)
  clear OF H1 H2 H3 hb WD BE AW k1 k2 k3
  have AT := At_k rb wd
  go_wp2_with fail
  refine AT.mono ?_
  rintro e we ⟨sb, ti, tl, rfl, HA⟩
  have M0 := Lib.hid (Chs.start (N := 200) NR.out (by decide) (by decide) HA.out.1 HA.out.2.1 HA.out.2.2)
  clear NR HA AT
  have P1 := Put_k w we we (fun _ => False) sb rb ti tl 30000 200 0 0 [] [] [] t M0 (by decide) HT.out.1 HT.out.2 (by decide) (fun c hc => by cases hc)
  clear M0
  go_wp2_with fail
  refine P1.mono ?_
  rintro e w3 ⟨id, fresh, rfl, HP⟩
  obtain ⟨rfl, hid, page, HCS⟩ := PutRes.empty HP.out
  have hsz : Hid (id.size = 33 ∧ id = nameB (prB t) 0) := Lib.hid ⟨by rw [hid, nameB_size, prB_size], hid⟩
  have S0 : Hid (SumSt w we w3 sb rb ti tl id page t 0 0) := Lib.hid ⟨0, [], 0, 2, HCS, (fun e he => by cases he), rfl, by decide, by decide, by decide⟩
  clear HP HCS P1 hid
  go_wp2_with fail
  go_loopg [11, 13, 14, 15, 16, 17, 18, 60, 73] l.length (fun g s11 s13 s14 s15 s16 s17 s18 s60 s73 wr => ∃ (i : Nat) (sum : Int), g = l.length - i ∧ i ≤ l.length ∧ s60 = .int .i64 (i : Int) ∧ s11 = .int .i64 sum ∧ Hid (SumSt w we wr sb rb ti tl id page t i sum))
  case atStart => exact ⟨0, 0, rfl, Nat.zero_le _, rfl, rfl, S0⟩
  case round =>
    obtain ⟨i, sum, rfl, hi, rfl, rfl, HM⟩ := hrel
    clear S0
    by_cases hlt : i < l.length
    · obtain ⟨b, off, rfl, hbl, hc⟩ := HC.out i hlt
      have hc2 : wr.cell? ⟨b, off + i, none⟩ = some (.int .i8 l[i]) := (HM.out.bel.cell (p := ⟨b, off + i, none⟩) hbl).trans hc
      obtain ⟨x1, x2⟩ := HX.out _ (List.getElem_mem hlt)
      have HLT := Lib.hid hlt
      have hi60 : Hid (i < 60) := Lib.hid (by have := HL.out; omega)
      have CNT : Hid (∀ W sum, Hid (SumSt w we W sb rb ti tl id page t (i + 1) sum) → Calls Tryz.prog 21 #[.pointer (some ⟨sb, 0, none⟩), .string id] W fun e w' => ∃ c p : Int, e = .returned (.tuple #[.int .i64 c, .int .i64 p, .int .i64 0]) ∧ IntKind.i64.wrap (c + p) = sum ∧ Hid (SumSt w we w' sb rb ti tl id page t (i + 1) sum)) := Lib.hid fun W sum h => sum_count h.out (by have := hi60.out; omega) hsz.out.1
      have sb1 := HM.out.sum_b
      generalize l[i] = x at hc2 x1 x2
      have hi3 : i ≤ 1000 := by have := hi60.out; omega
      clear hlt hi hc hbl
      by_cases q1 : x = 1
      · subst q1
        have AD := sum_add HM.out hi60.out hsz.out.1 true
        rw [show byI true = 1 from rfl] at AD
        have kw : IntKind.i64.wrap (sum + 1) = sum + 1 := wrap_sgn (by omega) (by omega)
        clear HM sb1 x1 x2
        go_wp2_with fail
        refine AD.mono ?_
        rintro e w4 ⟨rfl, HM⟩
        go_wp2_with fail
        refine (CNT.out _ _ HM).mono ?_
        rintro e w5 ⟨cc, pp, rfl, hcp, HM5⟩
        go_wp2_with fail
        go_roundg (l.length - (i + 1))
        case measure => have := HLT.out; omega
        case rel => exact ⟨i + 1, _, rfl, HLT.out, by congr 1, rfl, HM5⟩
      · by_cases q2 : x = -1
        · subst q2
          have AD := sum_add HM.out hi60.out hsz.out.1 false
          rw [show byI false = -1 from rfl] at AD
          have kw : IntKind.i64.wrap (sum + -1) = sum + -1 := wrap_sgn (by omega) (by omega)
          clear HM sb1 x1 x2
          go_wp2_with fail
          refine AD.mono ?_
          rintro e w4 ⟨rfl, HM⟩
          go_wp2_with fail
          refine (CNT.out _ _ HM).mono ?_
          rintro e w5 ⟨cc, pp, rfl, hcp, HM5⟩
          go_wp2_with fail
          go_roundg (l.length - (i + 1))
          case measure => have := HLT.out; omega
          case rel => exact ⟨i + 1, _, rfl, HLT.out, by congr 1, rfl, HM5⟩
        · have MG := sum_merge HM.out hi60.out x (by omega)
          have kx : IntKind.i64.wrap x = x := wrap_sgn (by omega) (by omega)
          have r1 : (x == 1) = false := by simp [q1]
          have r2 : (x == -1) = false := by simp [q2]
          clear HM sb1 x1 x2 q1 q2
          go_wp2_with fail
          refine MG.mono ?_
          rintro e w4 ⟨mm, rfl, HM⟩
          go_wp2_with fail
          refine (CNT.out _ _ HM).mono ?_
          rintro e w5 ⟨cc, pp, rfl, hcp, HM5⟩
          go_wp2_with fail
          go_roundg (l.length - (i + 1))
          case measure => have := HLT.out; omega
          case rel => exact ⟨i + 1, _, rfl, HLT.out, by congr 1, rfl, HM5⟩
    · obtain rfl : i = l.length := by omega
      have P2 := sum_put HM.out HL.out hsz.out.2 HT.out.1 HT.out.2
      have HB : Hid (∀ w8, SumSt w we w8 sb rb ti tl id page t l.length sum → Below w.heap.size w w8) := Lib.hid fun w8 h => h.bel
      clear HM hlt hi
      go_wp2_with fail
      refine P2.mono ?_
      rintro e w5 ⟨rfl, HM5⟩
      go_wp2_with fail
      go_ret
      exact ⟨rfl, Lib.hid (HB.out _ HM5.out)⟩
theorem ChunksSums_w (v0 v1 : Value) (w : World) (g0 : Reads w 9 v0) (g1 : Reads w 22 v1) : Calls Tryz.prog 3 #[v0, v1] w fun e w' => e = .returned (.bool true) ∧ Below w.heap.size w w' := by
  obtain ⟨t, rfl, -⟩ := reads_string Tryz.underlying9 g0
  obtain ⟨l, hl, hwf⟩ := reads_ints Tryz.underlying22 (by kernel_rfl) Tryz.underlying37 g1
  obtain ⟨a, cap, rfl, -, -, hc⟩ := hl
  rw [List.length_map] at *
  by_cases h : t.size < 1 ∨ 128 < t.size ∨ 60 < l.length
  · exact (sums_out a cap l.length t w h).mono fun e w' h => ⟨h.1, h.2.out⟩
  · refine (sums_in a cap t l w (by omega) (by omega) (by omega) (fun x hx => ?_) (fun k hk => ?_)).mono fun e w' h => ⟨h.1, h.2.out⟩
    · have := hwf x hx
      have e1 : IntKind.i8.min = -128 := rfl
      have e2 : IntKind.i8.max = 127 := rfl
      simp [Lit.wf] at this
      omega
    · obtain ⟨b, off, h1, h2, h3⟩ := hc k (by simpa using hk)
      exact ⟨b, off, h1, h3, by simpa using h2⟩
end Go.Proofs.YtdcjhpafipbpkaaGreatDoor
