/- SectorRuns: what both disks have, compared. -/
import Derived.Test.YtjgihpabbogpjaaRunsX
namespace Go.Proofs.Ytjgihpabbogpjaa
set_option linter.unusedVariables false
set_option maxRecDepth 100000
set_option maxHeartbeats 4000000
open Go.RowKit
variable {w0 w w' : World} {b rb : Nat} {D D' : Dk} {R R' : Rk} {X : List (Nat × Obj)}
theorem BLoose (w0 : World) (b rb : Nat) (D : Dk) (R : Rk) (X : List (Nat × Obj)) (w : World) (h : Both w0 b rb D R X w) (hl : D.loose.length ≤ 4000000000) :
    Calls Try.prog 16 #[.pointer (some ⟨b, 0, none⟩)] w fun e w' => Hid (∃ v, e = .returned v ∧ w'.ownsRow w.heap.size 3 1 v D.loose.length (ints (D.loose.map Prod.fst)) ∧ Both w0 b rb D R X w') := by
  have h' := h
  obtain ⟨F, G, ⟨mf, mn, lv, hd⟩, hr, hF, hG, hn, hb, hX⟩ := h
  refine (Loose_c b D F mf mn lv w hd hl).mono ?_
  intro e w' hh
  obtain ⟨v, rfl, ho, hb'⟩ := hh.out
  exact Lib.hid ⟨v, rfl, ho, h'.more (hb'.upd' (Nat.le_refl _))⟩
theorem BDown (w0 : World) (b rb : Nat) (D : Dk) (R : Rk) (X : List (Nat × Obj)) (x : Bool) (w : World) (h : Both w0 b rb D R X w) (e : D.down = x) :
    Calls Try.prog 14 #[.pointer (some ⟨b, 0, none⟩)] w fun e w' => e = .returned (.bool x) ∧ w = w' := by
  obtain ⟨F, G, hd, hr, hF, hG, hn, hb, hX⟩ := h
  exact Down_r b D F x w hd e
theorem BSize (w0 : World) (b rb : Nat) (D : Dk) (R : Rk) (X : List (Nat × Obj)) (x : Int) (w : World) (h : Both w0 b rb D R X w) (e : D.size = x) :
    Calls Try.prog 17 #[.pointer (some ⟨b, 0, none⟩)] w fun e w' => e = .returned (.int .i64 x) ∧ w = w' := by
  obtain ⟨F, G, ⟨mf, mn, lv, hd⟩, hr, hF, hG, hn, hb, hX⟩ := h
  obtain ⟨c0, -⟩ := hd.c
  rw [e] at c0
  exact Size_c b x w c0
theorem intsAt_get {w : World} {base : Nat} {a : Option Addr} {m c : Nat} {l : List Int} (h : w.ownsRow base 3 1 (.slice a m c) l.length (ints l)) {k : Nat} (hk : k < l.length) : ∃ g, a = some ⟨g, 0, none⟩ ∧ w.cell? ⟨g, k, none⟩ = some (.int .i64 l[k]) := by
  obtain ⟨gg, cap, he, hgg, hgl⟩ := h.form (by omega)
  cases he
  have t0 := h.cellAt k (by omega)
  exact ⟨gg, rfl, by rw [t0]; simp [ints, hk]⟩
theorem Both.rd (h : Both w0 b rb D R X w) : ∃ fa fc la lc, w.cell? ⟨rb, 0, none⟩ = some (.slice fa R.firm.length fc) ∧ w.cell? ⟨rb, 1, none⟩ = some (.slice la R.loose.length lc) ∧ w.cell? ⟨rb, 3, none⟩ = some (.bool R.off) ∧ WrsAt w (.slice la R.loose.length lc) R.loose := by
  obtain ⟨F, G, hd, ⟨fv, lv, hr⟩, hF, hG, hn, hb, hX⟩ := h
  obtain ⟨c0, c1, -, c3⟩ := hr.c
  obtain ⟨fa, fm, fc, rfl⟩ := slice_form hr.firm
  obtain ⟨la, lm, lc, rfl⟩ := slice_form hr.loose
  obtain rfl := rlen hr.firm
  obtain rfl := rlen hr.loose
  exact ⟨fa, fc, la, lc, c0, c1, c3, wrsAt_of_own hr.loose⟩
def AgRel (w0 : World) (b rb n : Nat) (D : Dk) (R : Rk) (X : List (Nat × Obj)) (g : Nat) (s : Value) (wr : World) : Prop := ∃ k : Nat, g = n - k ∧ k ≤ n ∧ s = .int .i64 k ∧ Both w0 b rb D R X wr
theorem Agree_c (w0 : World) (b rb n m : Nat) (D : Dk) (X : List (Nat × Obj)) (w : World) (h : Both w0 b rb D (refOf D) X w) (g : Good n m D) (hn : n ≤ 30) (hm : m ≤ 60) :
    Calls Try.prog 20 #[.pointer (some ⟨b, 0, none⟩), .pointer (some ⟨rb, 0, none⟩)] w fun e w' => e = .returned (.bool true) ∧ Below w0.heap.size w0 w' := by
  have CL := BLoose w0 b rb D (refOf D) X w h (by have := g.len; omega)
  have gf := good_firm g hn
  have gl := good_loose g hm
  have lll := g.len
  have HDN := Lib.hid (fun w h => BDown w0 b rb D (refOf D) X D.down w h rfl)
  have HSZ := Lib.hid (fun w h => BSize w0 b rb D (refOf D) X n w h g.size)
  have HRD := Lib.hid (fun (i : Int) w h => BRead w0 b rb D (refOf D) X i w h)
  have HRR : Hid (∀ (i : Int) (W : World), Both w0 b rb D (refOf D) X W → Calls Try.prog 28 #[.pointer (some ⟨rb, 0, none⟩), .int .i64 i] W fun e w' => e = .returned (.tuple #[.string (dkRead D i).1, .int .i64 (dkRead D i).2]) ∧ W = w') :=
    Lib.hid (fun i W h => by have := BRRead w0 b rb D (refOf D) X i W h gf gl; rw [read_ref g i] at this; exact this)
  have e1 : (refOf D).firm.length = n := refFirm_length g
  have e2 : (refOf D).loose = D.loose := rfl
  have e3 : (refOf D).off = D.down := rfl
  clear g h gf gl
  generalize refOf D = R at *
  generalize hx : D.down = x at *
  generalize hL : D.loose = L at *
  go_enter Try.func20, Try.ntmps20
  go_wp2_with fail
  refine CL.mono ?_
  intro e w1 hh
  obtain ⟨v, rfl, ho, hB⟩ := hh.out
  clear CL hh
  have HB0 := Lib.hid hB
  have HB1 := Lib.hid (hB.more (((Below.refl _ _).drew).upd' (Nat.le_refl _)))
  obtain ⟨fa, fc, la, lc, c0, c1, c3, hw⟩ := hB.rd
  rw [e2] at c1 hw
  rw [e1] at c0
  rw [e3] at c3
  have HW := Lib.hid hw
  have HO := Lib.hid ho
  obtain ⟨va, vm, vc, rfl⟩ := slice_form ho
  obtain rfl := rlen ho
  have R2 : Hid (AgRel w0 b rb n D R X n (.int .i64 0) w1.drew) := Lib.hid ⟨0, by omega, Nat.zero_le _, rfl, HB1.out⟩
  clear ho hw hB e1 e2 e3 hx hL
  go_wp2_with fail
  go_region_held3 (fun w' => w'.cell? ⟨rb, 0, none⟩ = some (.slice fa n fc) ∧ w'.cell? ⟨rb, 1, none⟩ = some (.slice la L.length lc) ∧ w'.cell? ⟨rb, 3, none⟩ = some (.bool x)) (go_keep) ((first
    | (go_at_call 14; refine (HDN.out _ HB1.out).mono ?_; rintro e W1 ⟨rfl, rfl⟩)
    | (go_at_call 17; refine (HSZ.out _ HB1.out).mono ?_; rintro e W2 ⟨rfl, rfl⟩)))
  go_wp2_with fail
  go_loopg [44] L.length (fun g s44 wr => ∃ k : Nat, g = L.length - k ∧ k ≤ L.length ∧ s44 = .int .i64 k ∧ wr = w1.drew)
  case atStart => exact ⟨0, by omega, Nat.zero_le _, rfl, rfl⟩
  case round =>
    obtain ⟨k, rfl, hk, rfl, rfl⟩ := hrel
    by_cases hlt : k < L.length
    · obtain ⟨g, rfl, d0, -, lg⟩ := (HW.out).get k hlt
      obtain ⟨g2, rfl, i0⟩ := intsAt_get (l := L.map Prod.fst) (by simpa using HO.out) (k := k) (by simpa using hlt)
      simp only [List.getElem_map] at i0
      generalize L[k] = p at *
      go_wp2_with fail
      go_roundg (L.length - (k + 1))
      case measure => omega
      case rel => exact ⟨k + 1, rfl, by omega, by simp, rfl⟩
    · obtain rfl : k = L.length := by omega
      clear hlt hk
      go_wp2_with fail
      go_loopg [65] n (fun g s65 wr => AgRel w0 b rb n D R X g s65 wr)
      case atStart => exact R2.out
      case round =>
        obtain ⟨k, rfl, hk, rfl, hB2⟩ := hrel
        have HB2 := Lib.hid hB2
        clear hB2
        by_cases hlt : k < n
        · have C1 := Lib.hid (HRD.out k wr HB2.out)
          have C2 := Lib.hid (fun w => HRR.out k w)
          generalize dkRead D k = p at *
          obtain ⟨t, r⟩ := p
          go_wp2_with fail
          refine C1.out.mono ?_
          rintro e w2 ⟨rfl, HB3⟩
          go_wp2_with fail
          refine (C2.out _ HB3.out).mono ?_
          rintro e w3 ⟨rfl, rfl⟩
          go_wp2_with fail
          go_roundg (n - (k + 1))
          case measure => omega
          case rel => exact ⟨k + 1, rfl, by omega, by simp, HB3.out⟩
        · go_wp2_with fail
          go_ret
          exact ⟨rfl, HB2.out.below⟩
end Go.Proofs.Ytjgihpabbogpjaa
