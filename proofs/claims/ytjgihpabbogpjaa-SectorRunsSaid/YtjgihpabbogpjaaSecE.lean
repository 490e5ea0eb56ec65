/- sector: contracts by results; awake. -/
import Derived.Test.YtjgihpabbogpjaaSecD
namespace Go.Proofs.Ytjgihpabbogpjaa
open Go.RowKit

theorem Write_r (b : Nat) (D D' : Dk) (F : Nat → Prop) (i r : Int) (s : ByteArray) (w : World) (h : IsDisk w F b D) (hl : D.loose.length ≤ 4000000000) (e : dkWrite D i s = (r, D')) :
    Calls Try.prog 9 #[.pointer (some ⟨b, 0, none⟩), .int .i64 i, .string s] w fun e w' => e = .returned (.int .i64 r) ∧ Hid (∃ F', IsDisk w' F' b D' ∧ Turn F F' w w') := by
  have := Write_c b D F i s w h hl
  rw [e] at this; exact this
theorem Flush_r (b : Nat) (D D' : Dk) (F : Nat → Prop) (r : Int) (w : World) (h : IsDisk w F b D) (e : dkFlush D = (r, D')) :
    Calls Try.prog 10 #[.pointer (some ⟨b, 0, none⟩)] w fun e w' => e = .returned (.int .i64 r) ∧ Hid (∃ F', IsDisk w' F' b D' ∧ Turn F F' w w') := by
  have := Flush_c b D F w h
  rw [e] at this; exact this
theorem Read_r (b : Nat) (D : Dk) (F : Nat → Prop) (i r : Int) (s : ByteArray) (w : World) (h : IsDisk w F b D) (e : dkRead D i = (s, r)) :
    Calls Try.prog 11 #[.pointer (some ⟨b, 0, none⟩), .int .i64 i] w fun e w' => e = .returned (.tuple #[.string s, .int .i64 r]) ∧ Hid (IsDisk w' F b D ∧ Below w.heap.size w w') := by
  obtain ⟨mf, mn, lv, h⟩ := h
  refine (Read_c b D F mf mn lv i w h).mono ?_
  rintro e' w' ⟨rfl, hb⟩
  rw [e]
  exact ⟨rfl, ⟨mf, mn, lv, h.frame (hb.upd' (Nat.le_refl _)) (fun _ _ e => e)⟩, hb⟩
theorem Fall_r (b : Nat) (D : Dk) (F : Nat → Prop) (v : Value) (keep : List Bool) (w : World) (h : IsDisk w F b D) (hv : BoolsAt w v keep) (hl : D.loose.length ≤ 4000000000) (h512 : ∀ p ∈ D.loose, p.2.size = 512) (hkl : keep.length ≤ 9223372036854775807) :
    Calls Try.prog 12 #[.pointer (some ⟨b, 0, none⟩), v] w fun e w' => e = .returned (.tuple #[]) ∧ Hid (∃ F', IsDisk w' F' b (dkFall D keep) ∧ Turn F F' w w') := by
  obtain ⟨mf, mn, lv, h⟩ := h
  exact Fall_c b D F mf mn lv v keep w h hv hl h512 hkl
theorem Fuel_r (b : Nat) (D : Dk) (F : Nat → Prop) (n : Int) (w : World) (h : IsDisk w F b D) (n0 : -9223372036854775808 ≤ n) (n1 : n ≤ 9223372036854775807) :
    Calls Try.prog 13 #[.pointer (some ⟨b, 0, none⟩), .int .i64 n] w fun e w' => e = .returned (.tuple #[]) ∧ Hid (∃ F', IsDisk w' F' b { D with fuel := n, bound := decide (0 ≤ n) } ∧ Turn F F' w w') := by
  obtain ⟨mf, mn, lv, h⟩ := h
  refine (Fuel_c b D F mf mn lv n w h n0 n1).mono ?_
  rintro e w' ⟨rfl, h1, hu⟩
  exact ⟨rfl, F, ⟨mf, mn, lv, h1⟩, hu.mono (fun k _ e => (h.own k).2 (.inl e)), fun _ e => .inl e⟩
theorem Down_r (b : Nat) (D : Dk) (F : Nat → Prop) (x : Bool) (w : World) (h : IsDisk w F b D) (e : D.down = x) :
    Calls Try.prog 14 #[.pointer (some ⟨b, 0, none⟩)] w fun e w' => e = .returned (.bool x) ∧ w = w' := by
  obtain ⟨mf, mn, lv, h⟩ := h
  obtain ⟨-, -, -, -, -, -, c6⟩ := h.c
  rw [e] at c6
  exact Down_c b x w c6
theorem New_r (n : Int) (w : World) (h1 : 1 ≤ n) (h2 : n ≤ 65536) :
    Calls Try.prog 8 #[.int .i64 n] w fun e w' => ∃ b, e = .returned (.tuple #[.pointer (some ⟨b, 0, none⟩), .int .i64 0]) ∧
      Hid (∃ F, IsDisk w' F b (dkNew n) ∧ (∀ k, F k → w.heap.size ≤ k) ∧ Below w.heap.size w w') := by
  refine (New_ok n w h1 h2).mono ?_
  rintro e w' ⟨rfl, hd, hu⟩
  exact ⟨_, rfl, _, hd, fun k hk => by omega, hu.below (Nat.le_refl _) (fun _ _ e => e)⟩
/-- A thing that the call owns: new since the world w. -/
def Own (w : World) (b : Nat) (D : Dk) (w' : World) : Prop := ∃ F, IsDisk w' F b D ∧ (∀ k, F k → w.heap.size ≤ k) ∧ Below w.heap.size w w'
theorem own_step {w0 w w' : World} {F F' : Nat → Prop} {b : Nat} {D' : Dk} (hF : ∀ k, F k → w0.heap.size ≤ k) (hb : Below w0.heap.size w0 w) (hd' : IsDisk w' F' b D') (ht : Turn F F' w w') : Own w0 b D' w' :=
  ⟨F', hd', fun k hk => (ht.sub k hk).elim (hF k) (fun h => Nat.le_trans hb.size h),
    hb.trans ⟨ht.upd.os, ht.upd.tape, ht.upd.output, ht.upd.size, fun k hk => ht.upd.block k (Nat.lt_of_lt_of_le hk hb.size) (fun hx => by have := hF k hx; omega)⟩⟩
theorem Own.new {w w1 : World} {b : Nat} {D : Dk} (h : Hid (∃ F, IsDisk w1 F b D ∧ (∀ k, F k → w.heap.size ≤ k) ∧ Below w.heap.size w w1)) : Own w b D w1 := h
theorem Own.below {w w1 : World} {b : Nat} {D : Dk} (h : Own w b D w1) : Below w.heap.size w w1 := by obtain ⟨F, _, _, hb⟩ := h; exact hb
theorem Own.more {w w1 w2 : World} {b : Nat} {D : Dk} (h : Own w b D w1) (hu : Upd (fun _ => False) w1 w2) : Own w b D w2 := by
  obtain ⟨F, ⟨mf, mn, lv, hd⟩, hF, hb⟩ := h
  exact ⟨F, ⟨mf, mn, lv, hd.frame hu (fun _ _ e => e)⟩, hF, hb.trans (hu.below hb.size (fun _ _ e => e))⟩
theorem boolsAt_nil (w : World) : BoolsAt w (.slice none 0 0) [] := ⟨none, 0, rfl, fun k h => absurd h (by simp)⟩
theorem boolsAt_below {w w' : World} {v : Value} {l : List Bool} (h : BoolsAt w v l) (hu : Below w.heap.size w w') : BoolsAt w' v l := boolsAt_upd h (hu.upd' (Nat.le_refl _)) (fun _ _ _ _ e => e)

theorem Write_o (w0 : World) (b : Nat) (D D' : Dk) (i r : Int) (s : ByteArray) (w : World) (h : Own w0 b D w) (hl : D.loose.length ≤ 4000000000) (e : dkWrite D i s = (r, D')) :
    Calls Try.prog 9 #[.pointer (some ⟨b, 0, none⟩), .int .i64 i, .string s] w fun e w' => e = .returned (.int .i64 r) ∧ Own w0 b D' w' := by
  obtain ⟨F, hd, hF, hb⟩ := h
  refine (Write_r b D D' F i r s w hd hl e).mono ?_
  rintro e' w' ⟨rfl, F', hd', ht⟩
  exact ⟨rfl, own_step hF hb hd' ht⟩
theorem Flush_o (w0 : World) (b : Nat) (D D' : Dk) (r : Int) (w : World) (h : Own w0 b D w) (e : dkFlush D = (r, D')) :
    Calls Try.prog 10 #[.pointer (some ⟨b, 0, none⟩)] w fun e w' => e = .returned (.int .i64 r) ∧ Own w0 b D' w' := by
  obtain ⟨F, hd, hF, hb⟩ := h
  refine (Flush_r b D D' F r w hd e).mono ?_
  rintro e' w' ⟨rfl, F', hd', ht⟩
  exact ⟨rfl, own_step hF hb hd' ht⟩
theorem Read_o (w0 : World) (b : Nat) (D : Dk) (i r : Int) (s : ByteArray) (w : World) (h : Own w0 b D w) (e : dkRead D i = (s, r)) :
    Calls Try.prog 11 #[.pointer (some ⟨b, 0, none⟩), .int .i64 i] w fun e w' => e = .returned (.tuple #[.string s, .int .i64 r]) ∧ Own w0 b D w' := by
  obtain ⟨F, hd, hF, hb⟩ := h
  refine (Read_r b D F i r s w hd e).mono ?_
  rintro e' w' ⟨rfl, hd', hb'⟩
  exact ⟨rfl, Own.more ⟨F, hd, hF, hb⟩ (hb'.upd' (Nat.le_refl _))⟩
theorem Fall_o (w0 : World) (b : Nat) (D : Dk) (v : Value) (keep : List Bool) (w : World) (h : Own w0 b D w) (hv : BoolsAt w v keep) (hl : D.loose.length ≤ 4000000000) (h512 : ∀ p ∈ D.loose, p.2.size = 512) (hkl : keep.length ≤ 9223372036854775807) :
    Calls Try.prog 12 #[.pointer (some ⟨b, 0, none⟩), v] w fun e w' => e = .returned (.tuple #[]) ∧ Own w0 b (dkFall D keep) w' := by
  obtain ⟨F, hd, hF, hb⟩ := h
  refine (Fall_r b D F v keep w hd hv hl h512 hkl).mono ?_
  rintro e' w' ⟨rfl, F', hd', ht⟩
  exact ⟨rfl, own_step hF hb hd' ht⟩
theorem Fuel_o (w0 : World) (b : Nat) (D : Dk) (n : Int) (w : World) (h : Own w0 b D w) (n0 : -9223372036854775808 ≤ n) (n1 : n ≤ 9223372036854775807) :
    Calls Try.prog 13 #[.pointer (some ⟨b, 0, none⟩), .int .i64 n] w fun e w' => e = .returned (.tuple #[]) ∧ Own w0 b { D with fuel := n, bound := decide (0 ≤ n) } w' := by
  obtain ⟨F, hd, hF, hb⟩ := h
  refine (Fuel_r b D F n w hd n0 n1).mono ?_
  rintro e' w' ⟨rfl, F', hd', ht⟩
  exact ⟨rfl, own_step hF hb hd' ht⟩
theorem Down_o (w0 : World) (b : Nat) (D : Dk) (x : Bool) (w : World) (h : Own w0 b D w) (e : D.down = x) :
    Calls Try.prog 14 #[.pointer (some ⟨b, 0, none⟩)] w fun e w' => e = .returned (.bool x) ∧ w = w' := by
  obtain ⟨F, hd, hF, hb⟩ := h
  exact Down_r b D F x w hd e

theorem pad_eq (s : ByteArray) : (pad s).data.toList = s.data.toList ++ List.replicate (512 - s.size) 0 := by unfold pad; simp
def zA : ByteArray := pad ⟨#[97]⟩
theorem zA_size : ((zA.size : Int) == 512) = true := by decide +kernel
theorem zA_head : (zA.extract 0 2).toList = [97, 0] := by decide +kernel
theorem zA_two : 2 ≤ (zA.size : Int) := by decide +kernel
theorem zA_size' : zA.size = 512 := by decide +kernel
def awD1 : Dk := ⟨4, [], [(1, zA)], [(1, zA)], 0, false, false⟩
def awD2 : Dk := ⟨4, [(1, zA)], [], [], 0, false, false⟩
def awD3 : Dk := ⟨4, [(1, zA)], [(1, pad ⟨#[98]⟩)], [(1, pad ⟨#[98]⟩)], 0, false, false⟩

set_option maxHeartbeats 1000000 in
theorem awake_c (w : World) : Calls Try.prog 7 #[] w fun e w' => e = .returned (.bool true) ∧ Below w.heap.size w w' := by
  go_enter Try.func7, Try.ntmps7
  go_wp2_with fail
  refine (New_r 4 w (by decide) (by decide)).mono ?_
  rintro e w1 ⟨b, rfl, h1⟩
  have h1 := Own.new h1
  go_wp2_with fail
  refine (Write_o w b (dkNew 4) awD1 1 0 ⟨#[97]⟩ w1 h1 (by decide) rfl).mono ?_
  rintro e w2 ⟨rfl, h2⟩
  clear h1
  go_wp2_with fail
  refine (Flush_o w b awD1 awD2 0 w2 h2 rfl).mono ?_
  rintro e w3 ⟨rfl, h3⟩
  clear h2
  go_wp2_with fail
  refine (Write_o w b awD2 awD3 1 0 ⟨#[98]⟩ w3 h3 (by decide) rfl).mono ?_
  rintro e w4 ⟨rfl, h4⟩
  clear h3
  go_wp2_with fail
  refine (Fall_o w b awD3 _ [] w4 h4 (boolsAt_nil _) (by decide) (by decide +kernel) (by decide)).mono ?_
  rintro e w5 ⟨rfl, h5⟩
  have h5 : Own w b awD2 w5 := h5
  clear h4
  go_wp2_with fail
  refine (Read_o w b awD2 1 0 zA w5 h5 rfl).mono ?_
  rintro e w6 ⟨rfl, h6⟩
  clear h5
  go_wp2_with fail
  refine (Read_o w b awD2 4 2 ByteArray.empty w6 h6 rfl).mono ?_
  rintro e w7 ⟨rfl, h7⟩
  clear h6
  have z1 := zA_size
  have z2 := zA_head
  have z3 := zA_two
  generalize zA = z at *
  go_wp2_with fail
  go_ret
  exact ⟨rfl, h7.below⟩
end Go.Proofs.Ytjgihpabbogpjaa
