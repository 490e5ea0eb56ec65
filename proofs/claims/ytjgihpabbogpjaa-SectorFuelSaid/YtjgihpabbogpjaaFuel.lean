/- SectorFuel: the walk. -/
import Derived.Test.YtjgihpabbogpjaaSecE
import Derived.Test.YtjgihpabbogpjaaRead
namespace Go.Proofs.Ytjgihpabbogpjaa
open Go.RowKit

theorem total_c (n : Int) (w : World) (h0 : 0 ≤ n) (h1 : n ≤ 50) : Calls Try.prog 15 #[.int .i64 n] w fun e w' => e = .returned (.int .i64 (n + n / 5)) ∧ w = w' := by
  go_enter Try.func15, Try.ntmps15
  go_wp2
  go_ret
  exact ⟨rfl, rfl⟩

def bX : ByteArray := ⟨#[120]⟩
/-- What holds of the disk and the count ahead of round k. -/
structure FuelInv (n : Int) (k : Nat) (D : Dk) (done : Int) : Prop where
  size : D.size = 2
  bound : D.bound = true
  len : D.loose.length ≤ k
  l512 : ∀ p ∈ D.loose, p.2.size = 512
  case : (((k : Int) + k / 5 ≤ n ∧ D.down = false ∧ D.fuel = n - (k + k / 5) ∧ done = k + k / 5) ∨ (n < (k : Int) + k / 5 ∧ D.down = true ∧ 0 ≤ done ∧ done ≤ n))

theorem padX_size : (pad bX).size = 512 := pad_size (by decide)
theorem mem_snoc512 {l : List (Int × ByteArray)} (h : ∀ p ∈ l, p.2.size = 512) (i : Int) : ∀ p ∈ l ++ [(i, pad bX)], p.2.size = 512 := by
  intro p hp
  rcases List.mem_append.1 hp with hp | hp
  · exact h p hp
  · simp at hp; rw [hp]; exact padX_size
/-- A write that is no refusal, of a disk with so much fuel. -/
theorem write_some {D : Dk} {i : Int} (hd : D.down = false) (hb : D.bound = true) (hs : D.size = 2) (i0 : 0 ≤ i) (i1 : i < 2) (hf : 1 ≤ D.fuel) :
    dkWrite D i bX = (0, { D with fuel := D.fuel - 1, loose := D.loose ++ [(i, pad bX)], now := put D.now i (pad bX) }) := by
  have h1 : (D.fuel == 0) = false := by simp; omega
  have h2 : ¬ (i < 0 ∨ (2 : Int) ≤ i) := by omega
  have h3 : ¬ (512 < bX.size) := by decide
  simp [dkWrite, dkStep, hd, hb, hs, h1, h2, h3]
theorem write_none {D : Dk} {i : Int} (hd : D.down = false) (hb : D.bound = true) (hs : D.size = 2) (i0 : 0 ≤ i) (i1 : i < 2) (hf : D.fuel = 0) :
    dkWrite D i bX = (3, { D with down := true }) := by
  have h2 : ¬ (i < 0 ∨ (2 : Int) ≤ i) := by omega
  have h3 : ¬ (512 < bX.size) := by decide
  simp [dkWrite, dkStep, hd, hb, hs, hf, h2, h3]
theorem write_down {D : Dk} {i : Int} (s : ByteArray) (hd : D.down = true) : dkWrite D i s = (3, D) := by simp [dkWrite, hd]
theorem flush_down {D : Dk} (hd : D.down = true) : dkFlush D = (3, D) := by simp [dkFlush, hd]
theorem flush_some {D : Dk} (hd : D.down = false) (hb : D.bound = true) (hf : 1 ≤ D.fuel) :
    dkFlush D = (0, { D with fuel := D.fuel - 1, firm := mrg D.now D.firm, loose := [], now := [] }) := by
  have h1 : (D.fuel == 0) = false := by simp; omega
  simp [dkFlush, dkStep, hd, hb, h1]
theorem flush_none {D : Dk} (hd : D.down = false) (hb : D.bound = true) (hf : D.fuel = 0) : dkFlush D = (3, { D with down := true }) := by
  simp [dkFlush, dkStep, hd, hb, hf]

theorem fuel_round {n : Int} {k : Nat} {D : Dk} {done : Int} (h : FuelInv n k D done) (h5 : k % 5 ≠ 4) :
    ∃ r D1, dkWrite D ((k : Int) % 2) bX = (r, D1) ∧ ((r = 0 ∧ FuelInv n (k + 1) D1 (done + 1)) ∨ (r = 3 ∧ FuelInv n (k + 1) D1 done)) := by
  have e : (((k + 1 : Nat) : Int)) + ((k + 1 : Nat) : Int) / 5 = (k : Int) + k / 5 + 1 := by omega
  obtain ⟨h1, h2, h3, h4, h6⟩ := h
  rcases h6 with ⟨c1, c2, c3, c4⟩ | ⟨c1, c2, c3, c4⟩
  · by_cases hf : 1 ≤ D.fuel
    · exact ⟨_, _, write_some c2 h2 h1 (by omega) (by omega) hf, .inl ⟨rfl, h1, h2, by simp; omega, mem_snoc512 h4 _, .inl ⟨by omega, c2, by simp only; omega, by omega⟩⟩⟩
    · exact ⟨_, _, write_none c2 h2 h1 (by omega) (by omega) (by omega), .inr ⟨rfl, h1, h2, by simp only; omega, h4, .inr ⟨by omega, rfl, by omega, by omega⟩⟩⟩
  · exact ⟨_, _, write_down _ c2, .inr ⟨rfl, h1, h2, by omega, h4, .inr ⟨by omega, c2, c3, c4⟩⟩⟩
theorem fuel_round5 {n : Int} {k : Nat} {D : Dk} {done : Int} (h : FuelInv n k D done) (h5 : k % 5 = 4) :
    ∃ r D1 r2 D2, dkWrite D ((k : Int) % 2) bX = (r, D1) ∧ dkFlush D1 = (r2, D2) ∧ D1.loose.length ≤ k + 1 ∧ ((r2 = 0 ∧ FuelInv n (k + 1) D2 (done + 2)) ∨ (r2 = 3 ∧ FuelInv n (k + 1) D2 done)) := by
  have e : (((k + 1 : Nat) : Int)) + ((k + 1 : Nat) : Int) / 5 = (k : Int) + k / 5 + 2 := by omega
  obtain ⟨h1, h2, h3, h4, h6⟩ := h
  rcases h6 with ⟨c1, c2, c3, c4⟩ | ⟨c1, c2, c3, c4⟩
  · by_cases hf : 1 ≤ D.fuel
    · by_cases hf2 : 2 ≤ D.fuel
      · exact ⟨_, _, _, _, write_some c2 h2 h1 (by omega) (by omega) hf, flush_some c2 h2 (by simp only; omega), by simp; omega, .inl ⟨rfl, h1, h2, by simp, by simp, .inl ⟨by omega, c2, by simp only; omega, by omega⟩⟩⟩
      · exact ⟨_, _, _, _, write_some c2 h2 h1 (by omega) (by omega) hf, flush_none c2 h2 (by simp only; omega), by simp; omega, .inr ⟨rfl, h1, h2, by simp; omega, mem_snoc512 h4 _, .inr ⟨by omega, rfl, by omega, by omega⟩⟩⟩
    · exact ⟨_, _, _, _, write_none c2 h2 h1 (by omega) (by omega) (by omega), flush_down rfl, by simp only; omega, .inr ⟨rfl, h1, h2, by simp only; omega, h4, .inr ⟨by omega, rfl, by omega, by omega⟩⟩⟩
  · exact ⟨_, _, _, _, write_down _ c2, flush_down c2, by omega, .inr ⟨rfl, h1, h2, by omega, h4, .inr ⟨by omega, c2, c3, c4⟩⟩⟩

def FuelRel (w0 : World) (b : Nat) (n : Int) (m : Nat) (g : Nat) (s7 s34 : Value) (wr : World) : Prop :=
  ∃ (k : Nat) (D : Dk) (done : Int), g = m - k ∧ k ≤ m ∧ s34 = .int .i64 k ∧ s7 = .int .i64 done ∧ FuelInv n k D done ∧ Own w0 b D wr

set_option maxHeartbeats 1000000 in
theorem SectorFuel_out (n m : Int) (w : World) (h : n < 0 ∨ 50 < n ∨ m < 0 ∨ 50 < m) : Calls Try.prog 4 #[.int .i64 n, .int .i64 m] w fun e w' => e = .returned (.bool true) ∧ Below w.heap.size w w' := by
  have aw := awake_c w
  by_cases h1 : n < 0
  · clear h
    go_enter Try.func4, Try.ntmps4
    go_wp2_with (go_at_call 7; refine aw.mono ?_; rintro e w1 ⟨rfl, hb⟩)
    go_ret
    exact ⟨rfl, hb⟩
  · by_cases h2 : 50 < n
    · clear h
      go_enter Try.func4, Try.ntmps4
      go_wp2_with (go_at_call 7; refine aw.mono ?_; rintro e w1 ⟨rfl, hb⟩)
      go_ret
      exact ⟨rfl, hb⟩
    · by_cases h3 : m < 0
      · clear h
        go_enter Try.func4, Try.ntmps4
        go_wp2_with (go_at_call 7; refine aw.mono ?_; rintro e w1 ⟨rfl, hb⟩)
        go_ret
        exact ⟨rfl, hb⟩
      · have h4 : 50 < m := by omega
        clear h
        go_enter Try.func4, Try.ntmps4
        go_wp2_with (go_at_call 7; refine aw.mono ?_; rintro e w1 ⟨rfl, hb⟩)
        go_ret
        exact ⟨rfl, hb⟩

theorem fuel_end {n : Int} {k : Nat} {D : Dk} {done : Int} (h : FuelInv n k D done) : ∃ D2, dkWrite (dkFall D []) 0 ⟨#[121]⟩ = (0, D2) := by
  have h3 : ¬ (512 < (⟨#[121]⟩ : ByteArray).size) := by decide
  exact ⟨_, by simp [dkWrite, dkFall, dkStep, h.size, h3]; rfl⟩

set_option maxHeartbeats 2000000 in
theorem SectorFuel_in (n : Int) (m : Nat) (w : World) (n0 : 0 ≤ n) (n1 : n ≤ 50) (m1 : m ≤ 50) : Calls Try.prog 4 #[.int .i64 n, .int .i64 m] w fun e w' => e = .returned (.bool true) ∧ Below w.heap.size w w' := by
  have aw := awake_c w
  go_enter Try.func4, Try.ntmps4
  go_wp2_with (go_at_call 7; refine aw.mono ?_; rintro e w1 ⟨rfl, hb⟩)
  have Hb := Lib.hid hb
  clear hb aw
  refine (New_r 2 w1 (by decide) (by decide)).mono ?_
  rintro e w2 ⟨b, rfl, h2⟩
  have h2 := Own.new h2
  go_wp2_with fail
  refine (Fuel_o w1 b (dkNew 2) n w2 h2 (by omega) (by omega)).mono ?_
  rintro e w3 ⟨rfl, h3⟩
  clear h2
  have hd0 : decide (0 ≤ n) = true := by simpa using n0
  rw [hd0] at h3
  have R0 : FuelRel w1 b n m m (.int .i64 0) (.int .i64 0) w3 := ⟨0, _, 0, by omega, Nat.zero_le _, rfl, rfl, ⟨rfl, rfl, by simp [dkNew], by simp [dkNew], .inl ⟨by simpa using n0, rfl, by simp, by simp⟩⟩, h3⟩
  have HR := Lib.hid R0
  clear R0 h3 hd0
  go_wp2_with fail
  go_loopg [7, 34] m (fun g s7 s34 wr => FuelRel w1 b n m g s7 s34 wr)
  case atStart => exact HR.out
  case round =>
    obtain ⟨k, D, done, rfl, hkm, rfl, rfl, hinv, hown⟩ := hrel
    clear HR
    by_cases hk : k < m
    · have hlen : D.loose.length ≤ 4000000000 := by have := hinv.len; omega
      have hdone : 0 ≤ done ∧ done ≤ 200 := by rcases hinv.case with c | c <;> omega
      obtain ⟨hd1, hd2⟩ := hdone
      by_cases h5 : k % 5 = 4
      · have t5 : ((k : Int) % 5 == 4) = true := by simp; omega
        obtain ⟨r, D1, r2, D2, e1, e2, hl1, hr⟩ := fuel_round5 hinv h5
        have hl1' : D1.loose.length ≤ 4000000000 := by omega
        have W1 := Lib.hid e1
        have W2 := Lib.hid e2
        clear e1 e2 hinv hl1
        rcases hr with ⟨rfl, hi⟩ | ⟨rfl, hi⟩
        all_goals
          have Hi := Lib.hid hi
          clear hi h5
          go_wp2_with fail
          refine (Write_o w1 b D D1 _ r bX wr hown hlen W1.out).mono ?_
          rintro e w4 ⟨rfl, h4⟩
          clear hown
          go_wp2_with fail
          refine (Flush_o w1 b D1 D2 _ w4 h4 W2.out).mono ?_
          rintro e w5 ⟨rfl, h5⟩
          clear h4
          go_wp2_with fail
          go_roundg (m - (k + 1))
          case measure => omega
          case rel => exact ⟨k + 1, D2, _, rfl, by omega, by simp, rfl, Hi.out, h5⟩
      · have t5 : ((k : Int) % 5 == 4) = false := by simp; omega
        obtain ⟨r, D1, e1, hr⟩ := fuel_round hinv h5
        have W1 := Lib.hid e1
        clear e1 hinv
        rcases hr with ⟨rfl, hi⟩ | ⟨rfl, hi⟩
        all_goals
          have Hi := Lib.hid hi
          clear hi h5
          go_wp2_with fail
          refine (Write_o w1 b D D1 _ _ bX wr hown hlen W1.out).mono ?_
          rintro e w4 ⟨rfl, h4⟩
          clear hown
          go_wp2_with fail
          go_roundg (m - (k + 1))
          case measure => omega
          case rel => exact ⟨k + 1, D1, _, rfl, by omega, by simp, rfl, Hi.out, h4⟩
    · obtain rfl : k = m := by omega
      have hlen : D.loose.length ≤ 4000000000 := by have := hinv.len; omega
      have hdone : 0 ≤ done ∧ done ≤ n := by rcases hinv.case with c | c <;> omega
      obtain ⟨hd1, hd2⟩ := hdone
      have h512 := Lib.hid hinv.l512
      have E1 := Lib.hid (fuel_end hinv)
      rcases hinv.case with ⟨c1, c2, c3, c4⟩ | ⟨c1, c2, c3, c4⟩
      all_goals
        have C2 := Lib.hid c2
        clear hinv c2
        go_wp2_with fail
        refine (Down_o w1 b D _ wr hown C2.out).mono ?_
        rintro e w4 ⟨rfl, rfl⟩
        go_wp2_with fail
        refine (total_c _ _ (by omega) (by omega)).mono ?_
        rintro e w4 ⟨rfl, rfl⟩
        clear c3 c4
        go_wp2_with fail
        refine (Fall_o w1 b D _ [] _ hown (boolsAt_nil _) hlen h512.out (by decide)).mono ?_
        rintro e w5 ⟨rfl, h5⟩
        clear hown
        go_wp2_with fail
        refine (Down_o w1 b _ false _ h5 rfl).mono ?_
        rintro e w6 ⟨rfl, rfl⟩
        go_wp2_with fail
        obtain ⟨D2, E2⟩ := E1.out
        refine (Write_o w1 b _ D2 0 0 ⟨#[121]⟩ _ h5 (Nat.zero_le _) E2).mono ?_
        rintro e w6 ⟨rfl, h6⟩
        clear h5 E2
        have HB := Lib.hid ((Hb.out).trans (h6.below.mono (Hb.out).size))
        clear h6
        go_wp2_with fail
        go_ret
        exact ⟨rfl, HB.out⟩
theorem SectorFuel_c (n m : Int) (w : World) : Calls Try.prog 4 #[.int .i64 n, .int .i64 m] w fun e w' => e = .returned (.bool true) ∧ Below w.heap.size w w' := by
  by_cases h : n < 0 ∨ 50 < n ∨ m < 0 ∨ 50 < m
  · exact SectorFuel_out n m w h
  · obtain ⟨k, rfl⟩ := Int.eq_ofNat_of_zero_le (show 0 ≤ m by omega)
    exact SectorFuel_in n k w (by omega) (by omega) (by omega)
theorem SectorFuel_walk (v0 v1 : Value) (w : World) (g0 : Reads w 3 v0) (g1 : Reads w 3 v1) : Calls Try.prog 4 #[v0, v1] w fun e w' => e = .returned (.bool true) ∧ Below w.heap.size w w' := by
  obtain ⟨n, rfl, _⟩ := reads_int Try.underlying3 g0
  obtain ⟨m, rfl, _⟩ := reads_int Try.underlying3 g1
  exact SectorFuel_c n m w
end Go.Proofs.Ytjgihpabbogpjaa
