/- Parts of the proof of TreeMany, joined: ManyC, ManyD, Read, ManyE. No condition. -/
import Derived.Test.YtaibjcjphmhgmaaGreatDoorTm8
import Derived.Test.YtaibjcjphmhgmaaGreatDoorRows
import Derived.ProofKit
import Derived.OpenShut
import Derived.ChangeOld
import Derived.Below
import Derived.Deep.Slices
set_option linter.unusedSimpArgs false
set_option linter.unusedVariables false
set_option linter.unusedSectionVars false
namespace Go.Proofs.YtaibjcjphmhgmaaGreatDoor
set_option linter.unusedVariables false
set_option maxRecDepth 100000
set_option maxHeartbeats 4000000
open Go.RowKit
theorem TreeSt.hgt {S : RS} {place : Nat} {o : Option TT} (k : Nat) (h : TreeSt S place o) (hs : singO o = 0) (hl : (entsO o).length < 2 ^ (k + 1)) : hgtO o ≤ k := hgt_o h hs hl
theorem awake9_c (w : World) : Calls Tryz.prog 28 #[] w fun e w' => e = .returned (.bool true) ∧ Hid (Below w.heap.size w w') := by
  have WD := Wide_c 3000 w (by decide) (by decide)
  rw [show ((3000 : Nat) : Int) = 3000 from rfl] at WD
  go_enter Tryz.func28, Tryz.ntmps28
  go_wp2_with fail
  refine WD.mono ?_
  rintro e wb ⟨db, lb, FL, rfl, H1⟩
  clear WD
  go_wp2_with fail
  refine (Begin_c lb wb).mono ?_
  rintro e wc ⟨rfl, H2⟩
  have OF := Of_c _ lb 3000 FL _ [] wc (chg_new H1.out H2.out) (by decide)
  go_wp2_with fail
  refine OF.mono ?_
  rintro e wd ⟨rb, G, rfl, H3⟩
  have NR := Lib.hid (NewRoom.of (w1 := w) (Below.refl _ _) H1.out H2.out H3.out)
  clear OF H1 H2 H3
  have AT := At_c rb 2 wd
  rw [show ((2 : Nat) : Int) = 2 from rfl] at AT
  go_wp2_with fail
  refine AT.mono ?_
  rintro e we ⟨rfl, HT⟩
  have M0 := Lib.hid (MSt.start (c := 40) NR.out (by decide) (by decide) HT.out.1 HT.out.2)
  generalize wd.heap.size = tb at *
  clear NR HT AT
  have P1 := Lib.hid (put_m w we tb rb 2 3000 0 36 none 2 ⟨#[98]⟩ ⟨#[50]⟩ M0.out (by decide) (by decide) (by decide) (by decide) (by decide) (by decide))
  clear M0
  go_wp2_with fail
  refine P1.out.mono ?_
  rintro e w3 ⟨rfl, HP1⟩
  have HX1 : Hid (∃ o, MSt w w3 tb rb 2 3000 100 o 36 ∧ entsO o = [(⟨#[98]⟩, ⟨#[50]⟩)] ∧ singO o = 0) := Lib.hid (by
    obtain ⟨o, a, b, c, d⟩ := HP1.out
    exact ⟨o, a, ins_nil b, Nat.le_zero.1 c⟩)
  clear P1 HP1
  have P2 : Hid (Calls Tryz.prog 31 #[.pointer (some ⟨tb, 0, none⟩), .string ⟨#[97]⟩, .string ⟨#[49]⟩] w3 fun e w' => e = .returned (.int .i64 0) ∧ Hid (∃ o, MSt w w' tb rb 2 3000 200 o 32 ∧ entsO o = [(⟨#[97]⟩, ⟨#[49]⟩), (⟨#[98]⟩, ⟨#[50]⟩)] ∧ singO o = 0)) := Lib.hid (by
    obtain ⟨o, a, b, c⟩ := HX1.out
    refine (put_m w w3 tb rb 2 3000 100 32 o 2 ⟨#[97]⟩ ⟨#[49]⟩ a (by decide) (by decide) (by decide) (by decide) (by decide) (a.hgt 2 c (by rw [b]; decide))).mono ?_
    rintro e w' ⟨rfl, HP⟩
    obtain ⟨o', a', b', c', d'⟩ := HP.out
    rw [b] at b'
    exact ⟨rfl, Lib.hid ⟨o', a', ins_before b' (by decide +kernel) (by decide +kernel), by omega⟩⟩)
  clear HX1
  go_wp2_with fail
  refine P2.out.mono ?_
  rintro e w4 ⟨rfl, HX2⟩
  clear P2
  have SC : Hid (Calls Tryz.prog 44 #[.pointer (some ⟨tb, 0, none⟩), .string ⟨#[]⟩, .string ⟨#[]⟩, .int .i64 9] w4 fun e w' => ∃ g cap, e = .returned (.tuple #[.slice (some ⟨g, 0, none⟩) 2 cap, .int .i64 0]) ∧ Hid (∃ S o, RSt w w' (fun k => k = tb ∨ k = g) rb 3000 200 S ∧ TB w' tb rb 2 ∧ TreeSt S 2 o ∧ entsO o = [(⟨#[97]⟩, ⟨#[49]⟩), (⟨#[98]⟩, ⟨#[50]⟩)] ∧ singO o = 0 ∧ w'.cell? ⟨g, 0, none⟩ = some (.string ⟨#[97]⟩) ∧ w'.cell? ⟨g, 1, none⟩ = some (.string ⟨#[49]⟩))) := Lib.hid (by
    obtain ⟨o, ⟨S, a1, a2, a3, a4⟩, b, c⟩ := HX2.out
    have hs := scan_r w w4 _ tb rb 2 3000 200 S o 9 a1 a2 rfl a3 (by decide) (by decide) (Nat.le_trans (a3.hgt 2 c (by rw [b]; decide)) (by decide)) (by rw [b]; decide) (by decide) (by decide)
    refine hs.mono ?_
    rintro e w' ⟨v, rfl, H⟩
    obtain ⟨hr, hk⟩ := H.out
    rw [b] at hr
    rcases hr.2 with ⟨rfl, h0⟩ | ⟨g, cap, cur, rfl, h1, h2, h3, h4, h5, h6⟩
    · cases h0
    · have k0 := hr.cellAt 0 (by decide)
      have k1 := hr.cellAt 1 (by decide)
      refine ⟨g, cap, rfl, Lib.hid ⟨S, o, hk.1.mono fun k hk => ?_, hk.2.tb a2 rfl, a3, b, c, ?_, ?_⟩⟩
      · rcases hk with rfl | rfl
        · exact .inl rfl
        · exact .inr ⟨by omega, lt_of_heap h2⟩
      · exact k0
      · exact k1)
  clear HX2
  go_wp2_with fail
  refine SC.out.mono ?_
  rintro e w5 ⟨g, cap, rfl, HX3⟩
  clear SC
  have DE : Hid (Calls Tryz.prog 33 #[.pointer (some ⟨tb, 0, none⟩), .string ⟨#[97]⟩] w5 fun e w' => e = .returned (.tuple #[.bool true, .int .i64 0]) ∧ Hid (∃ S o, RSt w w' (fun k => k = tb ∨ k = g) rb 3000 500 S ∧ TB w' tb rb 2 ∧ TreeSt S 2 o ∧ (entsO o).length = 1 ∧ hgtO o ≤ 2 ∧ w'.cell? ⟨g, 0, none⟩ = some (.string ⟨#[97]⟩) ∧ w'.cell? ⟨g, 1, none⟩ = some (.string ⟨#[49]⟩))) := Lib.hid (by
    obtain ⟨S, o, a1, a2, a3, b, c, k0, k1⟩ := HX3.out
    have hh := a3.hgt 2 c (by rw [b]; decide)
    refine (del_r w w5 _ tb rb 2 3000 200 S o ⟨#[97]⟩ a1 a2 (.inl rfl) a3 (by decide) (by decide) (by omega)).mono ?_
    rintro e w' ⟨was, rfl, H⟩
    obtain ⟨S', o', r1, r2, r3⟩ := H.out
    rcases r3 with ⟨rfl, r3⟩ | ⟨rfl, -, -, r3⟩
    · have hd := r3.2.1
      rw [b] at hd
      have he := del_first hd (by decide +kernel)
      exact ⟨rfl, Lib.hid ⟨S', o', r1, r2.tb a2 (.inl rfl), r3.1.st, by rw [he]; rfl, Nat.le_trans r3.2.2.1 hh, (World.cell?_of_block (r2 g (.inr rfl))).trans k0, (World.cell?_of_block (r2 g (.inr rfl))).trans k1⟩⟩
    · exact absurd rfl (r3 (⟨#[97]⟩, ⟨#[49]⟩) (by rw [b]; simp)))
  clear HX3
  go_wp2_with fail
  refine DE.out.mono ?_
  rintro e w6 ⟨rfl, HX4⟩
  clear DE
  have CN : Hid (Calls Tryz.prog 32 #[.pointer (some ⟨tb, 0, none⟩)] w6 fun e w' => e = .returned (.tuple #[.int .i64 1, .int .i64 0]) ∧ w'.cell? ⟨g, 0, none⟩ = some (.string ⟨#[97]⟩) ∧ w'.cell? ⟨g, 1, none⟩ = some (.string ⟨#[49]⟩) ∧ Hid (Below w.heap.size w w')) := Lib.hid (by
    obtain ⟨S, o, a1, a2, a3, b, c, k0, k1⟩ := HX4.out
    have := count_r w w6 _ tb rb 2 3000 500 S o a1 a2 (.inl rfl) a3 (by decide) (by decide) (by omega) (by omega)
    rw [b] at this
    refine this.mono ?_
    rintro e w' ⟨rfl, H⟩
    exact ⟨rfl, (World.cell?_of_block (H.out.2 g (.inr rfl))).trans k0, (World.cell?_of_block (H.out.2 g (.inr rfl))).trans k1, Lib.hid H.out.1.bel⟩)
  clear HX4
  go_wp2_with fail
  refine CN.out.mono ?_
  rintro e w7 ⟨rfl, k0, k1, HB⟩
  clear CN
  go_wp2_with fail
  go_ret
  exact ⟨rfl, HB⟩
end Go.Proofs.YtaibjcjphmhgmaaGreatDoor
namespace Go.Proofs.YtaibjcjphmhgmaaGreatDoor
set_option linter.unusedVariables false
set_option maxRecDepth 100000
set_option maxHeartbeats 4000000
open Go.RowKit
/-- .. at numbers out of the law's bounds. -/
theorem many_out (n step size : Int) (w : World) (h : n < 0 ∨ 400 < n ∨ step < 1 ∨ 1000 < step ∨ size < 0 ∨ 56 < size) :
    Calls Tryz.prog 5 #[.int .i64 n, .int .i64 step, .int .i64 size] w fun e w' => e = .returned (.bool true) ∧ Hid (Below w.heap.size w w') := by
  have AW := awake9_c
  have fin : ∀ w1, Below (w.alloc (.cells #[.int .i64 step] 3)).heap.size (w.alloc (.cells #[.int .i64 step] 3)) w1 → w1.cell? ⟨w.heap.size, 0, none⟩ = some (.int .i64 step) ∧ Hid (Below w.heap.size w w1) := fun w1 hb =>
    ⟨(hb.cell (p := ⟨w.heap.size, 0, none⟩) (by simp)).trans (cell_lit (heap_alloc_new _ _) rfl), Lib.hid (((Below.refl w.heap.size w).alloc (Nat.le_refl _) _).trans (hb.mono (by simp)))⟩
  rcases Int.lt_or_le n 0 with q1 | q1
  · go_enter Tryz.func5, Tryz.ntmps5
    go_wp2_with fail
    refine (AW _).mono ?_
    rintro e w1 ⟨rfl, hb⟩
    obtain ⟨k0, HB⟩ := fin w1 hb.out
    go_wp2_with fail
    go_ret
    exact ⟨rfl, HB⟩
  rcases Int.lt_or_le 400 n with q2 | q2
  · go_enter Tryz.func5, Tryz.ntmps5
    go_wp2_with fail
    refine (AW _).mono ?_
    rintro e w1 ⟨rfl, hb⟩
    obtain ⟨k0, HB⟩ := fin w1 hb.out
    go_wp2_with fail
    go_ret
    exact ⟨rfl, HB⟩
  rcases Int.lt_or_le step 1 with q3 | q3
  · go_enter Tryz.func5, Tryz.ntmps5
    go_wp2_with fail
    refine (AW _).mono ?_
    rintro e w1 ⟨rfl, hb⟩
    obtain ⟨k0, HB⟩ := fin w1 hb.out
    go_wp2_with fail
    go_ret
    exact ⟨rfl, HB⟩
  rcases Int.lt_or_le 1000 step with q4 | q4
  · go_enter Tryz.func5, Tryz.ntmps5
    go_wp2_with fail
    refine (AW _).mono ?_
    rintro e w1 ⟨rfl, hb⟩
    obtain ⟨k0, HB⟩ := fin w1 hb.out
    go_wp2_with fail
    go_ret
    exact ⟨rfl, HB⟩
  have q0 : 0 ≤ step := by omega
  have q5 : (step % 1009 == 0) = false := by simp; omega
  rcases Int.lt_or_le size 0 with q6 | q6
  · clear h
    go_enter Tryz.func5, Tryz.ntmps5
    go_wp2_with fail
    refine (AW _).mono ?_
    rintro e w1 ⟨rfl, hb⟩
    obtain ⟨k0, HB⟩ := fin w1 hb.out
    go_wp2_with fail
    go_ret
    exact ⟨rfl, HB⟩
  have q7 : 56 < size := by omega
  clear h
  go_enter Tryz.func5, Tryz.ntmps5
  go_wp2_with fail
  refine (AW _).mono ?_
  rintro e w1 ⟨rfl, hb⟩
  obtain ⟨k0, HB⟩ := fin w1 hb.out
  go_wp2_with fail
  go_ret
  exact ⟨rfl, HB⟩
/-- The state of the law: the keys that are there. -/
def ManyS (w1 w : World) (tb rb m step : Nat) (c k : Nat) (P : Nat → Prop) : Prop :=
  ∃ o, MSt w1 w tb rb 0 30000 m o c ∧ KeysAre (mkey step) P (entsO o) ∧ (entsO o).length = k
theorem many_put {w1 w : World} {tb rb step i n c : Nat} {val : ByteArray} (h : ∃ o, MSt w1 w tb rb 0 30000 (100 * i) o (c + 12) ∧ KeysAre (mkey step) (fun j => j < i) (entsO o) ∧ (entsO o).length = i ∧ singO o = 0) (hi : i < 400) (h1 : 0 < step) (h2 : step < 1009) (hv : val.size ≤ 56) :
    Calls Tryz.prog 31 #[.pointer (some ⟨tb, 0, none⟩), .string (mkey step i), .string val] w fun e w' => e = .returned (.int .i64 0) ∧ Hid (∃ o, MSt w1 w' tb rb 0 30000 (100 * (i + 1)) o c ∧ KeysAre (mkey step) (fun j => j < i + 1) (entsO o) ∧ (entsO o).length = i + 1 ∧ singO o = 0) := by
  obtain ⟨o, a, b, d, e⟩ := h
  refine (put_m w1 w tb rb 0 30000 (100 * i) c o 10 (mkey step i) val a (by decide) (by omega) (mkey_size step i) hv (by decide) (a.hgt 10 e (by rw [d]; omega))).mono ?_
  rintro e' w' ⟨rfl, H⟩
  obtain ⟨o', a', b', c', d'⟩ := H.out
  obtain ⟨k1, k2⟩ := b.ins (fun j hj he => by
    have := mkey_inj h1 h2 (by omega) (by omega) he
    omega) b'
  refine ⟨rfl, Lib.hid ⟨o', a', ⟨fun e he => ?_, fun j hj => k1.all j (by omega)⟩, by omega, by omega⟩⟩
  obtain ⟨j, hj, h3⟩ := k1.of e he
  exact ⟨j, by omega, h3⟩
theorem many_del {w1 w : World} {tb rb step j n c : Nat} (h : ∃ o, MSt w1 w tb rb 0 30000 (100 * n + 300 * j) o c ∧ KeysAre (mkey step) (fun i => i < n ∧ (i % 2 = 1 ∨ 2 * j ≤ i)) (entsO o) ∧ (entsO o).length + j = n ∧ hgtO o ≤ 10) (hj : 2 * j < n) (hn : n ≤ 400) (h1 : 0 < step) (h2 : step < 1009) :
    Calls Tryz.prog 33 #[.pointer (some ⟨tb, 0, none⟩), .string (mkey step (2 * j))] w fun e w' => e = .returned (.tuple #[.bool true, .int .i64 0]) ∧ Hid (∃ o, MSt w1 w' tb rb 0 30000 (100 * n + 300 * (j + 1)) o c ∧ KeysAre (mkey step) (fun i => i < n ∧ (i % 2 = 1 ∨ 2 * (j + 1) ≤ i)) (entsO o) ∧ (entsO o).length + (j + 1) = n ∧ hgtO o ≤ 10) := by
  obtain ⟨o, a, b, d, e⟩ := h
  refine (del_m w1 w tb rb 0 30000 (100 * n + 300 * j) c o (mkey step (2 * j)) a (by decide) (by omega) (by omega)).mono ?_
  rintro e' w' ⟨was, rfl, H⟩
  obtain ⟨o', a', H'⟩ := H.out
  rcases H' with ⟨rfl, b', c', d'⟩ | ⟨rfl, rfl, b'⟩
  · obtain ⟨k1, k2⟩ := b.del a.srt b' (fun i hi hne he => hne (mkey_inj h1 h2 (by omega) (by omega) he))
    refine ⟨rfl, Lib.hid ⟨o', by rw [show 100 * n + 300 * (j + 1) = 100 * n + 300 * j + 300 by omega]; exact a', ⟨fun e he => ?_, fun i hi => k1.all i (by omega)⟩, by omega, by omega⟩⟩
    obtain ⟨i, hi, h3⟩ := k1.of e he
    exact ⟨i, by omega, h3⟩
  · obtain ⟨v, hv⟩ := b.all (2 * j) (by omega)
    exact absurd rfl (b' _ hv)
theorem many_get {w1 w : World} {tb rb step i n c m : Nat} (h : ∃ o, MSt w1 w tb rb 0 30000 m o c ∧ KeysAre (mkey step) (fun i => i < n ∧ i % 2 = 1) (entsO o) ∧ (entsO o).length = n / 2 ∧ hgtO o ≤ 10) (hi : i < n) (hn : n ≤ 400) (hm : m ≤ 3900000) (h1 : 0 < step) (h2 : step < 1009) :
    Calls Tryz.prog 35 #[.pointer (some ⟨tb, 0, none⟩), .string (mkey step i)] w fun e w' => ∃ v ok, e = .returned (.tuple #[.string v, .bool ok, .int .i64 0]) ∧ ((i : Int) % 2 == 1) = ok ∧ Hid (∃ o, MSt w1 w' tb rb 0 30000 m o c ∧ KeysAre (mkey step) (fun i => i < n ∧ i % 2 = 1) (entsO o) ∧ (entsO o).length = n / 2 ∧ hgtO o ≤ 10) := by
  obtain ⟨o, a, b, d, e⟩ := h
  refine (get_m w1 w tb rb 0 30000 m c o (mkey step i) a (by decide) hm (by omega)).mono ?_
  rintro e' w' ⟨v, ok, rfl, g, H⟩
  refine ⟨v, ok, rfl, ?_, Lib.hid ⟨o, H.out, b, d, e⟩⟩
  rcases g with ⟨rfl, g⟩ | ⟨rfl, -, g⟩
  · obtain ⟨j, hj, h3⟩ := b.of _ g
    have := mkey_inj h1 h2 (by omega) (by omega) h3
    simp; omega
  · have : i % 2 ≠ 1 := fun h => by
      obtain ⟨v', hv⟩ := b.all i ⟨hi, h⟩
      exact g _ hv rfl
    simp; omega
theorem many_count {w1 w : World} {tb rb step c m k : Nat} {P : Nat → Prop} (h : ∃ o, MSt w1 w tb rb 0 30000 m o c ∧ KeysAre (mkey step) P (entsO o) ∧ (entsO o).length = k ∧ hgtO o ≤ 10) (hm : m ≤ 3900000) (hk : k ≤ 400) :
    Calls Tryz.prog 32 #[.pointer (some ⟨tb, 0, none⟩)] w fun e w' => e = .returned (.tuple #[.int .i64 (k : Int), .int .i64 0]) ∧ Hid (∃ o, MSt w1 w' tb rb 0 30000 m o c ∧ KeysAre (mkey step) P (entsO o) ∧ (entsO o).length = k ∧ hgtO o ≤ 10) := by
  obtain ⟨o, a, b, d, e⟩ := h
  refine (count_m w1 w tb rb 0 30000 m c o a (by decide) hm (by omega) (by omega)).mono ?_
  rintro e' w' ⟨rfl, H⟩
  exact ⟨by rw [d], Lib.hid ⟨o, H.out, b, d, e⟩⟩
theorem many_check {w1 w : World} {tb rb step c m k : Nat} {P : Nat → Prop} (h : ∃ o, MSt w1 w tb rb 0 30000 m o c ∧ KeysAre (mkey step) P (entsO o) ∧ (entsO o).length = k ∧ hgtO o ≤ 10) (hm : m ≤ 3900000) :
    Calls Tryz.prog 34 #[.pointer (some ⟨tb, 0, none⟩)] w fun e w' => ∃ p : Nat, e = .returned (.tuple #[.int .i64 (p : Int), .int .i64 0]) ∧ Hid (∃ o, MSt w1 w' tb rb 0 30000 m o c ∧ KeysAre (mkey step) P (entsO o) ∧ (entsO o).length = k ∧ hgtO o ≤ 10) := by
  obtain ⟨o, a, b, d, e⟩ := h
  refine (check_m w1 w tb rb 0 30000 m c o a (by decide) hm (by omega)).mono ?_
  rintro e' w' ⟨rfl, H⟩
  exact ⟨_, rfl, Lib.hid ⟨o, H.out, b, d, e⟩⟩
theorem make_val (w : World) (n : Nat) (h : n ≤ 56) : ∃ (w' : World) (v : Value) (val : ByteArray), (Instr.makeSlice 72 (.int .i64 (n : Int)) (.int .i64 (n : Int))).run Tryz.prog w = .ok v w' ∧ (convert 72 9 v).run Tryz.prog w' = .ok (.string val) w' ∧ val.size ≤ 56 ∧ Below w.heap.size w w' := by
  obtain ⟨j0, hj, hz0, hz1, hz2⟩ := info_parts infoB
  obtain ⟨w1, hr, ho, hg⟩ := run_makeSlice_full (P := Tryz.prog) w w.heap.size 72 5 j0 _ 1 Tryz.underlying72 hj hz0 hz1 .i64 .i64 n (by omega) (by rw [hz2]; omega) (by unfold maxLen; omega) (Nat.le_refl _)
  have e : (madeCells (Value.int .u8 0).cells (n * 1)).toList = bytesC (List.replicate n 0) := by
    rw [show (Value.int .u8 0).cells = #[Value.int .u8 0] from rfl, toList_madeCells_one]
    simp [bytesC]
  rw [e] at ho
  refine ⟨w1, _, _, hr, conv_rowC ho, ?_, (Below.refl _ _).grown hg (Nat.le_refl _) (fun _ e => by cases e)⟩
  show (⟨(List.replicate n (0 : UInt8)).toArray⟩ : ByteArray).size ≤ 56
  rw [Lib.size_eq]; simp; omega
theorem many_in (n step size : Nat) (w : World) (hn : n ≤ 400) (h1 : 1 ≤ step) (h2 : step ≤ 1000) (hs : size ≤ 56) :
    Calls Tryz.prog 5 #[.int .i64 (n : Int), .int .i64 (step : Int), .int .i64 (size : Int)] w fun e w' => e = .returned (.bool true) ∧ Hid (Below w.heap.size w w') := by
  have AW := awake9_c
  have WD := fun w => Wide_c 30000 w (by decide) (by decide)
  rw [show ((30000 : Nat) : Int) = 30000 from rfl] at WD
  have BE := Begin_c
  obtain ⟨w0, hw0⟩ : ∃ w0, w.alloc (.cells #[.int .i64 (step : Int)] 3) = w0 := ⟨_, rfl⟩
  have fin : Hid (∀ w1, Below w0.heap.size w0 w1 → w1.cell? ⟨w.heap.size, 0, none⟩ = some (.int .i64 (step : Int)) ∧ Hid (Below w.heap.size w w1)) := Lib.hid fun w1 hb => by
    subst hw0
    exact ⟨(hb.cell (p := ⟨w.heap.size, 0, none⟩) (by simp)).trans (cell_lit (heap_alloc_new _ _) rfl), Lib.hid (((Below.refl w.heap.size w).alloc (Nat.le_refl _) _).trans (hb.mono (by simp)))⟩
  obtain ⟨N, hN⟩ : ∃ N : Int, (n : Int) = N := ⟨_, rfl⟩
  obtain ⟨ST, hST⟩ : ∃ N : Int, (step : Int) = N := ⟨_, rfl⟩
  obtain ⟨SZ, hSZ⟩ : ∃ N : Int, (size : Int) = N := ⟨_, rfl⟩
  have HNN := Lib.hid hN
  have HSS := Lib.hid hST
  have HZZ := Lib.hid hSZ
  have HLIM : Hid (n ≤ 400 ∧ 0 < step ∧ step ≤ 1000 ∧ step < 1009 ∧ size ≤ 56) := Lib.hid (by omega)
  have q1 : ¬ N < 0 := by omega
  have q2 : ¬ 400 < N := by omega
  have q3 : ¬ ST < 1 := by omega
  have q4 : ¬ 1000 < ST := by omega
  have q0 : 0 ≤ ST := by omega
  have q5 : (ST % 1009 == 0) = false := by simp; omega
  have q6 : ¬ SZ < 0 := by omega
  have q7 : ¬ 56 < SZ := by omega
  rw [hST] at fin hw0 ⊢
  rw [hN, hSZ]
  clear hn h1 h2 hs hST hN hSZ
  go_enter Tryz.func5, Tryz.ntmps5
  go_wp2_with fail
  refine (AW _).mono ?_
  rintro e w1 ⟨rfl, hb⟩
  obtain ⟨k0, -⟩ := fin.out w1 hb.out
  go_wp2_with fail
  refine (WD _).mono ?_
  rintro e wb ⟨db, lb, FL, rfl, H1⟩
  go_wp2_with fail
  refine (BE lb wb).mono ?_
  rintro e wc ⟨rfl, H2⟩
  have OF := Of_c _ lb 30000 FL _ [] wc (chg_new H1.out H2.out) (by decide)
  go_wp2_with fail
  refine OF.mono ?_
  rintro e wd ⟨rb, G, rfl, H3⟩
  have NR := Lib.hid (NewRoom.of hb.out H1.out H2.out H3.out)
  clear OF H1 H2 H3 k0 hb WD BE AW
  have AT := At_c rb 0 wd
  rw [show ((0 : Nat) : Int) = 0 from rfl] at AT
  go_wp2_with fail
  refine AT.mono ?_
  rintro e we ⟨rfl, HT⟩
  have M0 := Lib.hid (MSt.start (c := 12 * 400) NR.out (by decide) (by decide) HT.out.1 HT.out.2)
  generalize wd.heap.size = tb at *
  clear NR HT AT
  have hmf : ∀ (fn : Fn) (first cap : Array Value) (w : World), (Instr.makeFunc fn first cap).run Tryz.prog w = .ok (.func fn first cap) w := fun _ _ _ _ => rfl
  obtain ⟨wf, mv, val, hmk, hcv, hval, hbf⟩ := make_val we size HLIM.out.2.2.2.2
  rw [HZZ.out] at hmk
  have HV := Lib.hid hval
  have M1 : Hid (∃ o, MSt w0 wf tb rb 0 30000 (100 * 0) o (12 * (400 - 0)) ∧ KeysAre (mkey step) (fun j => j < 0) (entsO o) ∧ (entsO o).length = 0 ∧ singO o = 0) := Lib.hid ⟨none, M0.out.below hbf, ⟨fun e he => (by cases he), fun j hj => absurd hj (by omega)⟩, rfl, rfl⟩
  clear hval hbf M0
  have KEY : Hid (∀ (i : Nat) (wr : World), i ≤ 400 → Below w0.heap.size w0 wr → Calls Tryz.prog 30 #[.int .i64 (i : Int), .pointer (some ⟨w.heap.size, 0, none⟩)] wr fun e w' => e = .returned (.string (mkey step i)) ∧ Hid (Below wr.heap.size wr w')) := Lib.hid fun i wr hi hb =>
    Key_c w.heap.size step i wr (by rw [HSS.out]; exact (fin.out wr hb).1) HLIM.out.2.2.1 hi
  go_wp2_with fail
  go_loopg [70] n (fun g s70 wr => ∃ i : Nat, g = n - i ∧ i ≤ n ∧ s70 = .int .i64 (i : Int) ∧ Hid (∃ o, MSt w0 wr tb rb 0 30000 (100 * i) o (12 * (400 - i)) ∧ KeysAre (mkey step) (fun j => j < i) (entsO o) ∧ (entsO o).length = i ∧ singO o = 0))
  case atStart => exact ⟨0, by omega, Nat.zero_le _, rfl, M1.out⟩
  case round =>
    obtain ⟨i, rfl, hi, rfl, HM⟩ := hrel
    by_cases hlt : i < n
    · have hltI : (i : Int) < N := by rw [← HNN.out]; omega
      have hi4 : i ≤ 400 := by have := HLIM.out; omega
      have KY := KEY.out i wr hi4 (by obtain ⟨o, a, -⟩ := HM.out; exact a.bel)
      have HLT := Lib.hid hlt
      clear hlt hi M1
      go_wp2_with fail
      refine KY.mono ?_
      rintro e w5 ⟨rfl, hb⟩
      have PT := many_put (w1 := w0) (w := w5) (tb := tb) (rb := rb) (step := step) (i := i) (n := n) (c := 12 * (400 - (i + 1))) (val := val) (by
        have h4 := HLT.out
        have h5 := HLIM.out
        obtain ⟨o, a, b, d, e⟩ := HM.out
        refine ⟨o, ?_, b, d, e⟩
        have := a.below hb.out
        rwa [show 12 * (400 - i) = 12 * (400 - (i + 1)) + 12 by omega] at this) (by have := HLT.out; have := HLIM.out; omega) HLIM.out.2.1 HLIM.out.2.2.2.1 HV.out
      clear KY hb
      go_wp2_with fail
      refine PT.mono ?_
      rintro e w6 ⟨rfl, HM6⟩
      clear PT
      go_wp2_with fail
      go_roundg (n - (i + 1))
      case measure => have := HLT.out; omega
      case rel => exact ⟨i + 1, rfl, HLT.out, by congr 1, HM6.out⟩
    · obtain rfl : i = n := by omega
      have hltI : ¬ (i : Int) < N := by rw [← HNN.out]; omega
      have HM2 : Hid (∃ o, MSt w0 wr tb rb 0 30000 (100 * i) o (12 * (400 - i)) ∧ KeysAre (mkey step) (fun j => j < i) (entsO o) ∧ (entsO o).length = i ∧ hgtO o ≤ 10) := Lib.hid (by
        obtain ⟨o, a, b, d, e⟩ := HM.out
        exact ⟨o, a, b, d, a.hgt 10 e (by rw [d]; have := HLIM.out; omega)⟩)
      have CT := many_count HM2.out (by have := HLIM.out; omega) HLIM.out.1
      rw [HNN.out] at CT
      clear HM M1 hi hlt HM2
      go_wp2_with fail
      refine CT.mono ?_
      rintro e w5 ⟨rfl, HM5⟩
      clear CT
      have D0 : Hid (∃ o, MSt w0 w5 tb rb 0 30000 (100 * i + 300 * 0) o (12 * (400 - i)) ∧ KeysAre (mkey step) (fun k => k < i ∧ (k % 2 = 1 ∨ 2 * 0 ≤ k)) (entsO o) ∧ (entsO o).length + 0 = i ∧ hgtO o ≤ 10) := Lib.hid (by
        obtain ⟨o, a, b, d, e⟩ := HM5.out
        refine ⟨o, a, ⟨fun x hx => ?_, fun k hk => b.all k hk.1⟩, by omega, e⟩
        obtain ⟨k, hk, h3⟩ := b.of x hx
        exact ⟨k, ⟨hk, .inr (by omega)⟩, h3⟩)
      clear HM5
      go_wp2_with fail
      go_loopg [16] i (fun g s16 wr => ∃ j : Nat, g = i - j ∧ 2 * j ≤ i + 1 ∧ s16 = .int .i64 (2 * (j : Int)) ∧ Hid (∃ o, MSt w0 wr tb rb 0 30000 (100 * i + 300 * j) o (12 * (400 - i)) ∧ KeysAre (mkey step) (fun k => k < i ∧ (k % 2 = 1 ∨ 2 * j ≤ k)) (entsO o) ∧ (entsO o).length + j = i ∧ hgtO o ≤ 10))
      case atStart => exact ⟨0, by omega, by omega, rfl, D0.out⟩
      case round =>
        obtain ⟨j, rfl, hj, rfl, HM⟩ := hrel
        clear D0
        by_cases hlt : 2 * j < i
        · have hltI : 2 * (j : Int) < N := by rw [← HNN.out]; omega
          have KY := KEY.out (2 * j) wr (by have := HLIM.out; omega) (by obtain ⟨o, a, -⟩ := HM.out; exact a.bel)
          rw [show ((2 * j : Nat) : Int) = 2 * (j : Int) by omega] at KY
          have HLT := Lib.hid hlt
          have hj4 : j ≤ 400 := by have := HLIM.out; omega
          clear hlt hj
          go_wp2_with fail
          refine KY.mono ?_
          rintro e w7 ⟨rfl, hb⟩
          have DT := many_del (w1 := w0) (w := w7) (tb := tb) (rb := rb) (step := step) (j := j) (n := i) (c := 12 * (400 - i)) (by
            obtain ⟨o, a, b, d, e⟩ := HM.out
            exact ⟨o, a.below hb.out, b, d, e⟩) HLT.out HLIM.out.1 HLIM.out.2.1 HLIM.out.2.2.2.1
          clear KY hb
          go_wp2_with fail
          refine DT.mono ?_
          rintro e w8 ⟨rfl, HM8⟩
          clear DT
          go_wp2_with fail
          go_roundg (i - (j + 1))
          case measure => have := HLT.out; omega
          case rel => exact ⟨j + 1, rfl, by have := HLT.out; omega, by congr 1, HM8.out⟩
        · have hltI : ¬ 2 * (j : Int) < N := by rw [← HNN.out]; omega
          have D2 : Hid (∃ o, MSt w0 wr tb rb 0 30000 (100 * i + 300 * j) o (12 * (400 - i)) ∧ KeysAre (mkey step) (fun k => k < i ∧ k % 2 = 1) (entsO o) ∧ (entsO o).length = i / 2 ∧ hgtO o ≤ 10) := Lib.hid (by
            obtain ⟨o, a, b, d, e⟩ := HM.out
            refine ⟨o, a, ⟨fun x hx => ?_, fun k hk => b.all k ⟨hk.1, .inl hk.2⟩⟩, by omega, e⟩
            obtain ⟨k, hk, h3⟩ := b.of x hx
            exact ⟨k, ⟨hk.1, by have := hk.1; have := hk.2; omega⟩, h3⟩)
          have hmm : Hid (100 * i + 300 * j ≤ 3900000) := Lib.hid (by have := HLIM.out; omega)
          have CK := many_check D2.out hmm.out
          clear HM hlt hj
          generalize 100 * i + 300 * j = mm at *
          go_wp2_with fail
          refine CK.mono ?_
          rintro e w9 ⟨p, rfl, HM9⟩
          clear CK D2
          go_wp2_with fail
          go_loopg [120] i (fun g s120 wr => ∃ q : Nat, g = i - q ∧ q ≤ i ∧ s120 = .int .i64 (q : Int) ∧ Hid (∃ o, MSt w0 wr tb rb 0 30000 mm o (12 * (400 - i)) ∧ KeysAre (mkey step) (fun k => k < i ∧ k % 2 = 1) (entsO o) ∧ (entsO o).length = i / 2 ∧ hgtO o ≤ 10))
          case atStart => exact ⟨0, by omega, Nat.zero_le _, rfl, HM9.out⟩
          case round =>
            obtain ⟨q, rfl, hq, rfl, HM⟩ := hrel
            clear HM9
            by_cases hlt : q < i
            · have hltJ : (q : Int) < N := by rw [← HNN.out]; omega
              have hq4 : q ≤ 400 := by have := HLIM.out; omega
              have KY := KEY.out q wr hq4 (by obtain ⟨o, a, -⟩ := HM.out; exact a.bel)
              have HLT := Lib.hid hlt
              clear hlt hq
              go_wp2_with fail
              refine KY.mono ?_
              rintro e w7 ⟨rfl, hb⟩
              have GT := many_get (w1 := w0) (w := w7) (tb := tb) (rb := rb) (step := step) (i := q) (n := i) (c := 12 * (400 - i)) (m := mm) (by
                obtain ⟨o, a, b, d, e⟩ := HM.out
                exact ⟨o, a.below hb.out, b, d, e⟩) HLT.out HLIM.out.1 hmm.out HLIM.out.2.1 HLIM.out.2.2.2.1
              clear KY hb
              go_wp2_with fail
              refine GT.mono ?_
              rintro e w8 ⟨v, ok, rfl, hok, HM8⟩
              clear GT
              cases ok with
              | false =>
                go_wp2_with fail
                go_roundg (i - (q + 1))
                case measure => have := HLT.out; omega
                case rel => exact ⟨q + 1, rfl, HLT.out, by congr 1, HM8.out⟩
              | true =>
                go_wp2_with fail
                go_roundg (i - (q + 1))
                case measure => have := HLT.out; omega
                case rel => exact ⟨q + 1, rfl, HLT.out, by congr 1, HM8.out⟩
            · have hltJ : ¬ (q : Int) < N := by rw [← HNN.out]; omega
              have CT := many_count HM.out hmm.out (by have := HLIM.out; omega)
              have HBE : Hid (∀ w', (∃ o, MSt w0 w' tb rb 0 30000 mm o (12 * (400 - i)) ∧ KeysAre (mkey step) (fun k => k < i ∧ k % 2 = 1) (entsO o) ∧ (entsO o).length = i / 2 ∧ hgtO o ≤ 10) → Below w.heap.size w w') := Lib.hid (by
                rintro w' ⟨o, a, -⟩
                exact (fin.out w' a.bel).2.out)
              have hdiv : Int.tdiv N 2 = ((i / 2 : Nat) : Int) := by rw [← HNN.out, Int.tdiv_eq_ediv_of_nonneg (by omega)]; omega
              have hdiv2 : N / 2 = ((i / 2 : Nat) : Int) := by rw [← HNN.out]; omega
              clear HM hlt hq
              generalize i / 2 = half at *
              go_wp2_with fail
              refine CT.mono ?_
              rintro e w10 ⟨rfl, HM10⟩
              clear CT
              go_wp2_with fail
              go_ret
              exact ⟨rfl, HBE.out _ HM10.out⟩
end Go.Proofs.YtaibjcjphmhgmaaGreatDoor
namespace Go.Proofs.YtaibjcjphmhgmaaGreatDoor
set_option maxRecDepth 100000
open Go.RowKit

theorem ownK : ownKnob Tryz.prog.godebug = none := by kernel_rfl
theorem laidOut : laidOutB Tryz.prog = true := by kernel_rfl
/-- The value v of type T can be read in the world w. -/
def Reads (w : World) (T : TypeId) (v : Value) : Prop :=
  ∃ (H : Type) (enc : TypeId × Value → H) (d : DataW H) (p : List MemPlace) (base : Nat), Value.okWide Tryz.prog w .any base T v ∧ DataW.Trod enc Tryz.prog w 0 (fun _ => true) true T v d p
theorem reads_int {w : World} {T : TypeId} {k : IntKind} {v : Value} (ht : Tryz.prog.underlying T = some (.int k)) (h : Reads w T v) : ∃ n, v = .int k n ∧ (Lit.int k n).wf = true := by
  obtain ⟨H, enc, d, p, base, h1, h2⟩ := h
  obtain ⟨n, rfl, _, _, hw⟩ := ChangeShapes.open_int ht h1 h2
  exact ⟨n, rfl, hw⟩
theorem reads_bool {w : World} {T : TypeId} {v : Value} (ht : Tryz.prog.underlying T = some .bool) (h : Reads w T v) : ∃ n, v = .bool n := by
  obtain ⟨H, enc, d, p, base, h1, h2⟩ := h
  obtain ⟨n, rfl, _, _⟩ := RowKit.open_bool ht h1 h2
  exact ⟨n, rfl⟩
theorem reads_string {w : World} {T : TypeId} {v : Value} (ht : Tryz.prog.underlying T = some .string) (h : Reads w T v) : ∃ s, v = .string s ∧ s.size ≤ maxLen := by
  obtain ⟨H, enc, d, p, base, h1, h2⟩ := h
  obtain ⟨n, rfl, _, _, hs⟩ := ChangeMaps.open_string ht h1 h2
  exact ⟨n, rfl, hs⟩
/-- A slice of cells of one cell each. -/
def SliceAt (w : World) (v : Value) (l : List Value) : Prop :=
  ∃ a cap, v = .slice a l.length cap ∧ l.length ≤ cap ∧ cap ≤ maxLen ∧ ∀ k, (h : k < l.length) → ∃ b off, a = some ⟨b, off, none⟩ ∧ w.cell? ⟨b, off + k, none⟩ = some l[k] ∧ b < w.heap.size
theorem addr_add {w : World} {a : Addr} {i : Nat} {u : Value} (h : w.cell? (a.add i) = some u) : a.add i = ⟨a.block, a.off + i, none⟩ ∧ a.block < w.heap.size := by
  have h1 := World.cell?_spot h
  have h2 := World.block_lt_of_cell? w _ h
  unfold Addr.add at h1 h2 ⊢
  split at h1
  · rename_i h0
    subst h0
    simp only [if_true] at h2 ⊢
    obtain ⟨b, o, s⟩ := a
    simp only at h1 h2 ⊢
    subst h1
    exact ⟨rfl, h2⟩
  · rename_i h0
    simp only [h0, if_false] at h2 ⊢
    exact ⟨trivial, h2⟩
theorem choose_list {α : Type} {n : Nat} {p : Nat → α → Prop} (h : ∀ i, i < n → ∃ x, p i x) : ∃ l : List α, l.length = n ∧ ∀ i, (hi : i < l.length) → p i l[i] := by
  induction n with
  | zero => exact ⟨[], rfl, fun i hi => absurd hi (by simp)⟩
  | succ n ih =>
    obtain ⟨l, hl, hp⟩ := ih (fun i hi => h i (by omega))
    obtain ⟨x, hx⟩ := h n (by omega)
    refine ⟨l ++ [x], by simp [hl], fun i hi => ?_⟩
    by_cases e : i < l.length
    · rw [List.getElem_append_left e]; exact hp i e
    · have : i = n := by simp at hi; omega
      subst this
      rw [List.getElem_append_right (by omega)]
      simpa [hl] using hx
/-- The value x, xs one cell of type e, can be read in the world w. -/
def Reads1 (w : World) (e : TypeId) (x : Value) : Prop := ∃ (H : Type) (enc : TypeId × Value → H) (m : Nat) (y : DataW H × List MemPlace), DataW.trod enc Tryz.prog w 0 (fun _ => true) true m e [x] = some y
/-- A slice whose elements are of one cell. -/
theorem reads_slice1 {w : World} {T e : TypeId} {v : Value} (ht : Tryz.prog.underlying T = some (.slice e)) (hc : Tryz.prog.cellsOf e = 1) (h : Reads w T v) : ∃ l, SliceAt w v l ∧ ∀ x ∈ l, Reads1 w e x := by
  obtain ⟨H, enc, d, p, base, h1, h2⟩ := h
  obtain ⟨a, len, cap, rfl⟩ := WideShapes.okWide_slice ht h1
  obtain ⟨fuel, hf⟩ := h2
  rcases Deep.open_slice1 ht hc hf with ⟨hcs, _⟩ | ⟨x, l, c, m, n, V, D, Pl, hcs, _, hl, hm, hmm, _, hel⟩
  · simp [Value.cells] at hcs
    obtain ⟨rfl, rfl, rfl⟩ := hcs
    exact ⟨[], ⟨none, 0, rfl, Nat.zero_le _, Nat.zero_le _, fun i hi => absurd hi (by simp)⟩, by simp⟩
  · simp [Value.cells] at hcs
    obtain ⟨rfl, rfl, rfl⟩ := hcs
    simp only [if_true] at hmm
    subst hmm
    have hlen : ((List.range len).map V).length = len := by simp
    refine ⟨(List.range len).map V, ⟨_, _, by rw [hlen], by rw [hlen]; exact hl, hm, fun k hk => ?_⟩, ?_⟩
    · rw [hlen] at hk
      obtain ⟨g1, _⟩ := hel k (by omega)
      obtain ⟨g2, g3⟩ := addr_add g1
      have e0 : x.spot = none ∨ k ≠ 0 := by
        by_cases hk0 : k = 0
        · subst hk0
          have := World.cell?_spot g1
          exact .inl (by simpa [Addr.add] using this)
        · exact .inr hk0
      obtain ⟨g4, _⟩ := hel 0 (by omega)
      have hs := World.cell?_spot g4
      have hs : x.spot = none := by simpa [Addr.add] using hs
      obtain ⟨b, o, sp⟩ := x
      simp only at hs
      subst hs
      rw [g2] at g1
      exact ⟨b, o, rfl, by simpa using g1, g3⟩
    · intro u hu
      obtain ⟨k, hk, rfl⟩ := List.mem_map.1 hu
      obtain ⟨_, g2⟩ := hel k (by have := List.mem_range.1 hk; omega)
      exact ⟨H, enc, n, _, g2⟩
theorem reads1_bool {w : World} {e : TypeId} {x : Value} (ht : Tryz.prog.underlying e = some .bool) (h : Reads1 w e x) : ∃ b, x = .bool b := by
  obtain ⟨H, enc, m, y, h⟩ := h
  obtain ⟨b, hb, _⟩ := DataW.trod_bool ht h
  exact ⟨b, by simpa using hb⟩
theorem reads1_int {w : World} {e : TypeId} {k : IntKind} {x : Value} (ht : Tryz.prog.underlying e = some (.int k)) (h : Reads1 w e x) : ∃ n, x = .int k n ∧ (Lit.int k n).wf = true := by
  obtain ⟨H, enc, m, y, h⟩ := h
  obtain ⟨b, hb, _, hw⟩ := DataW.trod_int ht h
  exact ⟨b, by simpa using hb, hw⟩
theorem reads1_string {w : World} {e : TypeId} {x : Value} (ht : Tryz.prog.underlying e = some .string) (h : Reads1 w e x) : ∃ s, x = .string s ∧ s.size ≤ maxLen := by
  obtain ⟨H, enc, m, y, h⟩ := h
  obtain ⟨b, hb, _, hw⟩ := DataW.trod_string ht h
  exact ⟨b, by simpa using hb, hw⟩
theorem list_of {α : Type} {f : α → Value} {q : α → Prop} : ∀ {l : List Value}, (∀ x ∈ l, ∃ a, x = f a ∧ q a) → ∃ xs : List α, l = xs.map f ∧ ∀ a ∈ xs, q a
  | [], _ => ⟨[], rfl, by simp⟩
  | x :: l, h => by
    obtain ⟨a, rfl, ha⟩ := h x (List.mem_cons_self ..)
    obtain ⟨xs, rfl, hxs⟩ := list_of (l := l) (fun y hy => h y (List.mem_cons_of_mem _ hy))
    exact ⟨a :: xs, rfl, by intro b hb; rcases List.mem_cons.1 hb with rfl | hb; exact ha; exact hxs b hb⟩
theorem reads_bools {w : World} {T e : TypeId} {v : Value} (ht : Tryz.prog.underlying T = some (.slice e)) (hc : Tryz.prog.cellsOf e = 1) (he : Tryz.prog.underlying e = some .bool) (h : Reads w T v) : ∃ l : List Bool, SliceAt w v (l.map Value.bool) := by
  obtain ⟨l, h1, h2⟩ := reads_slice1 ht hc h
  obtain ⟨xs, rfl, _⟩ := list_of (f := Value.bool) (q := fun _ => True) (fun x hx => by obtain ⟨b, hb⟩ := reads1_bool he (h2 x hx); exact ⟨b, hb, trivial⟩)
  exact ⟨xs, h1⟩
theorem reads_ints {w : World} {T e : TypeId} {k : IntKind} {v : Value} (ht : Tryz.prog.underlying T = some (.slice e)) (hc : Tryz.prog.cellsOf e = 1) (he : Tryz.prog.underlying e = some (.int k)) (h : Reads w T v) :
    ∃ l : List Int, SliceAt w v (l.map (Value.int k)) ∧ ∀ n ∈ l, (Lit.int k n).wf = true := by
  obtain ⟨l, h1, h2⟩ := reads_slice1 ht hc h
  obtain ⟨xs, rfl, h3⟩ := list_of (f := Value.int k) (q := fun n => (Lit.int k n).wf = true) (fun x hx => reads1_int he (h2 x hx))
  exact ⟨xs, h1, h3⟩
theorem reads_strings {w : World} {T e : TypeId} {v : Value} (ht : Tryz.prog.underlying T = some (.slice e)) (hc : Tryz.prog.cellsOf e = 1) (he : Tryz.prog.underlying e = some .string) (h : Reads w T v) :
    ∃ l : List ByteArray, SliceAt w v (l.map Value.string) ∧ ∀ s ∈ l, s.size ≤ maxLen := by
  obtain ⟨l, h1, h2⟩ := reads_slice1 ht hc h
  obtain ⟨xs, rfl, h3⟩ := list_of (f := Value.string) (q := fun s => s.size ≤ maxLen) (fun x hx => reads1_string he (h2 x hx))
  exact ⟨xs, h1, h3⟩
end Go.Proofs.YtaibjcjphmhgmaaGreatDoor
namespace Go.Proofs.YtaibjcjphmhgmaaGreatDoor
set_option maxRecDepth 100000
open Go.RowKit
theorem TreeMany_w (v0 v1 v2 : Value) (w : World) (g0 : Reads w 3 v0) (g1 : Reads w 3 v1) (g2 : Reads w 3 v2) : Calls Tryz.prog 5 #[v0, v1, v2] w fun e w' => e = .returned (.bool true) ∧ Below w.heap.size w w' := by
  obtain ⟨n, rfl, -⟩ := reads_int Tryz.underlying3 g0
  obtain ⟨step, rfl, -⟩ := reads_int Tryz.underlying3 g1
  obtain ⟨size, rfl, -⟩ := reads_int Tryz.underlying3 g2
  by_cases h : n < 0 ∨ 400 < n ∨ step < 1 ∨ 1000 < step ∨ size < 0 ∨ 56 < size
  · exact (many_out n step size w h).mono fun e w' h => ⟨h.1, h.2.out⟩
  · obtain ⟨a, rfl⟩ : ∃ k : Nat, n = k := ⟨n.toNat, by omega⟩
    obtain ⟨b, rfl⟩ : ∃ k : Nat, step = k := ⟨step.toNat, by omega⟩
    obtain ⟨c, rfl⟩ : ∃ k : Nat, size = k := ⟨size.toNat, by omega⟩
    exact (many_in a b c w (by omega) (by omega) (by omega) (by omega)).mono fun e w' h => ⟨h.1, h.2.out⟩
end Go.Proofs.YtaibjcjphmhgmaaGreatDoor
