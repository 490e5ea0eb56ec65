/- SectorRuns: the walk. -/
import Derived.Test.YtjgihpabbogpjaaRunsY
import Derived.Test.YtjgihpabbogpjaaRunsR
namespace Go.Proofs.Ytjgihpabbogpjaa
set_option linter.unusedVariables false
set_option maxRecDepth 100000
set_option maxHeartbeats 4000000
open Go.RowKit
theorem Write_nil (i : Int) (s : ByteArray) (w : World) : Calls Try.prog 9 #[.pointer none, .int .i64 i, .string s] w fun e w' => e = .returned (.int .i64 3) ∧ w = w' := by
  go_enter Try.func9, Try.ntmps9
  go_wp2_with (first | (go_at_call 14; refine (Down_nil _).mono ?_; rintro e w' ⟨rfl, rfl⟩))
  go_ret
  exact ⟨rfl, rfl⟩
theorem both_start {w0 w1 w2 w3 : World} {b rb : Nat} {D : Dk} {R : Rk} (hb : Below w0.heap.size w0 w1) (hd : ∃ F, IsDisk w2 F b D ∧ (∀ k, F k → w1.heap.size ≤ k) ∧ Below w1.heap.size w1 w2)
    (hr : ∃ G, IsRdisk w3 G rb R ∧ (∀ k, G k → w2.heap.size ≤ k) ∧ Below w2.heap.size w2 w3) : Both w0 b rb D R [] w3 := by
  obtain ⟨F, d1, d2, d3⟩ := hd
  obtain ⟨G, r1, r2, r3⟩ := hr
  have lt := disk_lt d1
  exact ⟨F, G, disk_frame d1 (r3.upd' (Nat.le_refl _)) (fun _ _ e => e), r1, fun k hk => Nat.le_trans hb.size (d2 k hk), fun k hk => Nat.le_trans (Nat.le_trans hb.size d3.size) (r2 k hk), fun k hf hg => by have := lt k hf; have := r2 k hg; omega,
    (hb.trans (d3.mono hb.size)).trans (r3.mono (Nat.le_trans hb.size d3.size)), fun p hp => by cases hp⟩
def RuRel (w0 : World) (b rb n N : Nat) (g : Nat) (s : Value) (wr : World) : Prop := ∃ (k : Nat) (D : Dk), g = N - k ∧ k ≤ N ∧ k ≤ 60 ∧ s = .int .i64 k ∧ Both w0 b rb D (refOf D) [] wr ∧ Good n k D
theorem SectorRuns_c (n : Int) (v : Value) (N : Nat) (w : World) (hv : ActsAt w v N) :
    Calls Try.prog 6 #[.int .i64 n, v] w fun e w' => e = .returned (.bool true) ∧ Below w.heap.size w w' := by
  have aw := awake_c w
  obtain ⟨a, cap, rfl, hN, hcell⟩ := hv
  have HC := Lib.hid hcell
  clear hcell
  by_cases h1 : n < 1
  · have HN := Lib.hid (fun w => New_bad n w (.inl h1))
    go_enter Try.func6, Try.ntmps6
    go_wp2_with (first
      | (go_at_call 7; refine aw.mono ?_; rintro e w1 ⟨rfl, hb⟩)
      | (go_at_call 8; refine (HN.out _).mono ?_; rintro e w2 ⟨rfl, rfl⟩)
      | (go_at_call 14; refine (Down_nil _).mono ?_; rintro e w2 ⟨rfl, rfl⟩)
      | (go_at_call 9; refine (Write_nil _ _ _).mono ?_; rintro e w2 ⟨rfl, rfl⟩))
    go_ret
    exact ⟨rfl, hb⟩
  by_cases h2 : 65536 < n
  · have HN := Lib.hid (fun w => New_bad n w (.inr h2))
    go_enter Try.func6, Try.ntmps6
    go_wp2_with (first
      | (go_at_call 7; refine aw.mono ?_; rintro e w1 ⟨rfl, hb⟩)
      | (go_at_call 8; refine (HN.out _).mono ?_; rintro e w2 ⟨rfl, rfl⟩)
      | (go_at_call 14; refine (Down_nil _).mono ?_; rintro e w2 ⟨rfl, rfl⟩)
      | (go_at_call 9; refine (Write_nil _ _ _).mono ?_; rintro e w2 ⟨rfl, rfl⟩))
    go_ret
    exact ⟨rfl, hb⟩
  have HN := Lib.hid (fun w => New_r n w (by omega) (by omega))
  by_cases h3 : 30 < n
  · go_enter Try.func6, Try.ntmps6
    go_wp2_with (go_at_call 7; refine aw.mono ?_; rintro e w1 ⟨rfl, hb⟩)
    have Hb := Lib.hid hb
    clear hb
    refine (HN.out w1).mono ?_
    rintro e w2 ⟨b, rfl, H2⟩
    have c0 : w2.cell? ⟨b, 0, none⟩ = some (.int .i64 n) := by
      obtain ⟨F, ⟨mf, mn, lv, hd⟩, -, -⟩ := H2.out
      exact hd.c.1
    have HL := Lib.hid (show Below w.heap.size w w2 by obtain ⟨F, -, -, h⟩ := H2.out; exact (Hb.out).trans (h.mono (Hb.out).size))
    clear H2
    go_wp2_with (go_at_call 17; refine (Size_c b n _ c0).mono ?_; rintro e w3 ⟨rfl, rfl⟩)
    go_ret
    exact ⟨rfl, HL.out⟩
  obtain ⟨m, rfl⟩ : ∃ m : Nat, n = m := ⟨n.toNat, by omega⟩
  have hm : m ≤ 30 := by omega
  obtain ⟨r1, r2⟩ := new_ref m
  have R1 := Lib.hid r1
  have R2 := Lib.hid r2
  clear r1 r2
  go_enter Try.func6, Try.ntmps6
  go_wp2_with (go_at_call 7; refine aw.mono ?_; rintro e w1 ⟨rfl, hb⟩)
  have Hb := Lib.hid hb
  clear hb aw
  refine (HN.out w1).mono ?_
  rintro e w2 ⟨b, rfl, H2⟩
  go_wp2_with fail
  refine (RNew_c m w2 (by omega)).mono ?_
  rintro e w3 ⟨rfl, H3⟩
  have RS : Hid (RuRel w b w2.heap.size m N N (.int .i64 0) w3) := Lib.hid ⟨0, dkNew m, by omega, Nat.zero_le _, by omega, rfl, by rw [R1.out]; exact both_start Hb.out H2.out H3.out, R2.out⟩
  generalize w2.heap.size = rb at *
  clear H2 H3 Hb R1 R2 HN
  go_wp2_with fail
  go_loopg [52] N (fun g s52 wr => RuRel w b rb m N g s52 wr)
  case atStart => exact RS.out
  case round =>
    obtain ⟨k, D, rfl, hk, hk60, rfl, hB, hG⟩ := hrel
    clear RS
    have HB := Lib.hid hB
    have HG := Lib.hid hG
    have hbl := hB.below
    have HBL := Lib.hid hbl
    clear hB hG
    by_cases hlt : k < N
    · obtain ⟨g, off, rfl, hg, wh, ix, s, va, keep, vc, c0, c1, c2, c3, hv, hkl, a0, a1⟩ := HC.out k hlt
      have d0 : wr.cell? ⟨g, off + k * 4, none⟩ = some (.int .i64 wh) := (hbl.cell (p := ⟨g, off + k * 4, none⟩) hg).trans c0
      have d1 : wr.cell? ⟨g, off + k * 4 + 1, none⟩ = some (.int .i64 ix) := (hbl.cell (p := ⟨g, off + k * 4 + 1, none⟩) hg).trans c1
      have d2 : wr.cell? ⟨g, off + k * 4 + 2, none⟩ = some (.string s) := (hbl.cell (p := ⟨g, off + k * 4 + 2, none⟩) hg).trans c2
      have d3 : wr.cell? ⟨g, off + k * 4 + 3, none⟩ = some (.slice va keep.length vc) := (hbl.cell (p := ⟨g, off + k * 4 + 3, none⟩) hg).trans c3
      have lg := Nat.lt_of_lt_of_le hg hbl.size
      have HV := Lib.hid hv
      have HD : ∀ W, Both w b rb D (refOf D) [] W → k < 60 → Calls Try.prog 19 #[.pointer (some ⟨b, 0, none⟩), .pointer (some ⟨rb, 0, none⟩), .agg #[.int .i64 wh, .int .i64 ix, .string s, .slice va keep.length vc]] W fun e w' => e = .returned (.bool true) ∧ Hid (DoPost w b rb m (k + 1) [] w') :=
        fun W h hk => Do_c w b rb m k D [] wh ix s _ keep W h HG.out hm (by omega) HV.out hkl a0 a1
      have HDO := Lib.hid HD
      clear HD c0 c1 c2 c3 hv hbl
      by_cases h60 : k = 60
      · have HA := Lib.hid (fun W h => Agree_c w b rb m k D [] W h HG.out hm hk60)
        subst h60
        go_wp2_with (go_at_call 20; refine (HA.out _ (HB.out.more ((Upd.refl _ _).alloc _))).mono ?_; rintro e w5 ⟨rfl, hb5⟩)
        go_ret
        exact ⟨rfl, hb5⟩
      · have hk1 : k < 60 := by omega
        have e60 : ((k : Int) == 60) = false := by simp; omega
        by_cases hs : 600 < s.size
        · have HX := Lib.hid (HB.out.more ((Upd.refl _ _).alloc (.cells #[.int .i64 wh, .int .i64 ix, .string s, .slice va keep.length vc] 48))).below
          go_wp2_with fail
          go_ret
          exact ⟨rfl, HX.out⟩
        · go_wp2_with fail
          refine (HDO.out _ (HB.out.more ((Upd.refl _ _).alloc _)) hk1).mono ?_
          rintro e w5 ⟨rfl, h5⟩
          go_wp2_with fail
          go_roundg (N - (k + 1))
          case measure => omega
          case rel =>
            obtain ⟨D5, hB5, hG5⟩ := h5.out
            exact ⟨k + 1, D5, rfl, by omega, by omega, by simp, hB5, hG5⟩
    · have HA := Lib.hid (fun W h => Agree_c w b rb m k D [] W h HG.out hm hk60)
      obtain rfl : k = N := by omega
      clear hlt hbl
      go_wp2_with (go_at_call 20; refine (HA.out _ HB.out).mono ?_; rintro e w5 ⟨rfl, hb5⟩)
      go_ret
      exact ⟨rfl, hb5⟩
theorem SectorRuns_walk (v0 v1 : Value) (w : World) (g0 : Reads w 3 v0) (g1 : Reads w 43 v1) :
    Calls Try.prog 6 #[v0, v1] w fun e w' => e = .returned (.bool true) ∧ Below w.heap.size w w' := by
  obtain ⟨n, rfl, -⟩ := reads_int Try.underlying3 g0
  obtain ⟨N, h⟩ := reads_acts g1
  exact SectorRuns_c n v1 N w h
end Go.Proofs.Ytjgihpabbogpjaa
