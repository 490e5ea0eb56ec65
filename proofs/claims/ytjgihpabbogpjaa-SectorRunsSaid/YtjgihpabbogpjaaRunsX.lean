/- SectorRuns: one act, by both. -/
import Derived.Test.YtjgihpabbogpjaaRunsW
import Derived.Test.YtjgihpabbogpjaaReadC
namespace Go.Proofs.Ytjgihpabbogpjaa
set_option linter.unusedVariables false
set_option maxRecDepth 100000
set_option maxHeartbeats 4000000
open Go.RowKit
variable {w0 w w' : World} {b rb : Nat} {D D' : Dk} {R R' : Rk} {X : List (Nat × Obj)}
theorem Both.fuel (h : Both w0 b rb D R X w) (k : Int) (k0 : -1 ≤ k) (k1 : k ≤ 9223372036854775807) : Both w0 b rb D { R with fuel := k } X (w.setCell ⟨rb, 2, none⟩ (.int .i64 k)) := by
  obtain ⟨F, G, hd, ⟨fv, lv, hr⟩, hF, hG, hn, hb, hX⟩ := h
  have hu : Upd (· = rb) w (w.setCell ⟨rb, 2, none⟩ (.int .i64 k)) := upd_setCell _ _ _ _
  refine both_turnG hd ⟨fv, lv, hr⟩ hF hG hn hb hX (G' := G) ⟨fv, lv, heap_set_lit hr.cells _, ownsRow_upd hr.firm hu (fun k hk e => hr.nf (by rw [hk, e])), ownsRow_upd hr.loose hu (fun k hk e => hr.nl (by rw [hk, e])), hr.own, k0, k1⟩ ⟨hu.mono (fun k _ e => (hr.own k).2 (.inl e)), fun _ e => .inl e⟩
theorem Both.rcells (h : Both w0 b rb D R X w) : ∃ fv lv, w.heap[rb]? = some (.cells #[fv, lv, .int .i64 R.fuel, .bool R.off] 64 (0, 0)) := by
  obtain ⟨F, G, hd, ⟨fv, lv, hr⟩, hF, hG, hn, hb, hX⟩ := h
  exact ⟨fv, lv, hr.cells⟩
theorem good_firm {n m : Nat} (g : Good n m D) (hn : n ≤ 30) : (refOf D).firm.length ≤ 100000 := by
  have := refFirm_length g; show (refFirm D).length ≤ _; omega
theorem good_loose {n m : Nat} (g : Good n m D) (hm : m ≤ 60) : (refOf D).loose.length ≤ 100000 := by
  have := g.len; show D.loose.length ≤ _; omega
theorem good_in {n m : Nat} (g : Good n m D) : ∀ p ∈ (refOf D).loose, 0 ≤ p.1 ∧ p.1 < (refOf D).firm.length := by
  have := refFirm_length g; intro p hp; have := g.inR p hp; show 0 ≤ p.1 ∧ p.1 < ((refFirm D).length : Int); omega
theorem Good.more {n m m' : Nat} (g : Good n m D) (h : m ≤ m') : Good n m' D := ⟨g.size, g.fuel0, Nat.le_trans g.len h, g.inR, g.l512, g.now⟩
def DoPost (w0 : World) (b rb n m : Nat) (X : List (Nat × Obj)) (w' : World) : Prop := ∃ D, Both w0 b rb D (refOf D) X w' ∧ Good n m D
theorem doPost (h : Both w0 b rb D (refOf D) X w) {n m m' : Nat} (g : Good n m D) (hm : m ≤ m') : DoPost w0 b rb n m' X w := ⟨D, h, g.more hm⟩
theorem Do_c (w0 : World) (b rb n m : Nat) (D : Dk) (X : List (Nat × Obj)) (wh ix : Int) (s : ByteArray) (v : Value) (keep : List Bool) (w : World) (h : Both w0 b rb D (refOf D) X w) (g : Good n m D) (hn : n ≤ 30) (hm : m ≤ 60)
    (hv : BoolsAt w0 v keep) (hk : keep.length ≤ 9223372036854775807) (a0 : -9223372036854775808 ≤ ix) (a1 : ix ≤ 9223372036854775807) :
    Calls Try.prog 19 #[.pointer (some ⟨b, 0, none⟩), .pointer (some ⟨rb, 0, none⟩), .agg #[.int .i64 wh, .int .i64 ix, .string s, v]] w fun e w' => e = .returned (.bool true) ∧ Hid (DoPost w0 b rb n (m + 1) X w') := by
  obtain ⟨va, vc, rfl, hvc⟩ := hv
  have HV := Lib.hid (show BoolsAt w0 (.slice va keep.length vc) keep from ⟨va, vc, rfl, hvc⟩)
  have gf := good_firm g hn
  have gl := good_loose g hm
  have gi := good_in g
  have ll : D.loose.length ≤ 4000000000 := by have := g.len; omega
  have HB0 := Lib.hid (h.box (.cells #[.int .i64 wh, .int .i64 ix, .string s, .slice va keep.length vc] 48))
  clear h hvc
  by_cases h0 : wh = 0
  · subst h0
    obtain ⟨e, g1⟩ := write_ref g ix s
    have CW : ∀ R X W, Both w0 b rb D R X W → Calls Try.prog 9 #[.pointer (some ⟨b, 0, none⟩), .int .i64 ix, .string s] W fun e w' => e = .returned (.int .i64 (dkWrite D ix s).1) ∧ Hid (Both w0 b rb (dkWrite D ix s).2 R X w') :=
      fun R X W h => BWrite w0 b rb D R X ix s W h ll
    have CR : ∀ E X W, Both w0 b rb E (refOf D) X W → Calls Try.prog 26 #[.pointer (some ⟨rb, 0, none⟩), .int .i64 ix, .string s] W fun e w' => e = .returned (.int .i64 (dkWrite D ix s).1) ∧ Hid (Both w0 b rb E (refOf (dkWrite D ix s).2) X w') :=
      fun E X W h => by have := BRWrite w0 b rb E (refOf D) X ix s W h gf gl; rw [e] at this; exact this
    have HCW := Lib.hid CW
    have HCR := Lib.hid CR
    have HG := Lib.hid g1
    clear CW CR e g1 gf gl gi ll g
    generalize dkWrite D ix s = p at *
    obtain ⟨r, D1⟩ := p
    simp only at HCW HCR HG
    go_enter Try.func19, Try.ntmps19
    go_wp2_with fail
    have HD0 := Lib.hid (HB0.out.more (((Below.refl _ _).drew).upd' (Nat.le_refl _)))
    have k1 := cell_lit (HB0.out.at (List.mem_cons_self ..)) (i := 1) rfl
    have k2 := cell_lit (HB0.out.at (List.mem_cons_self ..)) (i := 2) rfl
    go_region_held3 (fun w' => w'.cell? ⟨w.heap.size, 1, none⟩ = some (.int .i64 ix) ∧ w'.cell? ⟨w.heap.size, 2, none⟩ = some (.string s)) (go_keep) ((first
      | (go_at_call 9; refine (HCW.out _ _ _ HD0.out).mono ?_; rintro e W1 ⟨rfl, HB1⟩; have c1 := cell_lit (HB1.out.at (List.mem_cons_self ..)) (i := 1) rfl; have c2 := cell_lit (HB1.out.at (List.mem_cons_self ..)) (i := 2) rfl)
      | (go_at_call 26; refine (HCR.out _ _ _ HB1.out).mono ?_; rintro e W2 ⟨rfl, HB2⟩; have c1 := cell_lit (HB2.out.at (List.mem_cons_self ..)) (i := 1) rfl; have c2 := cell_lit (HB2.out.at (List.mem_cons_self ..)) (i := 2) rfl)))
    go_wp2_with fail
    go_ret
    exact ⟨rfl, Lib.hid (doPost HB2.out.drop HG.out (Nat.le_refl _))⟩
  by_cases h1 : wh = 1
  · subst h1
    clear h0
    obtain ⟨e, g1⟩ := flush_ref g
    have CW : ∀ R X W, Both w0 b rb D R X W → Calls Try.prog 10 #[.pointer (some ⟨b, 0, none⟩)] W fun e w' => e = .returned (.int .i64 (dkFlush D).1) ∧ Hid (Both w0 b rb (dkFlush D).2 R X w') :=
      fun R X W h => BFlush w0 b rb D R X W h
    have CR : ∀ E X W, Both w0 b rb E (refOf D) X W → Calls Try.prog 27 #[.pointer (some ⟨rb, 0, none⟩)] W fun e w' => e = .returned (.int .i64 (dkFlush D).1) ∧ Hid (Both w0 b rb E (refOf (dkFlush D).2) X w') :=
      fun E X W h => by have := BRFlush w0 b rb E (refOf D) X W h gi gf gl; rw [e] at this; exact this
    have HCW := Lib.hid CW
    have HCR := Lib.hid CR
    have HG := Lib.hid g1
    clear CW CR e g1 gf gl gi ll g
    generalize dkFlush D = p at *
    obtain ⟨r, D1⟩ := p
    simp only at HCW HCR HG
    go_enter Try.func19, Try.ntmps19
    go_wp2_with (first
      | (go_at_call 10; refine (HCW.out _ _ _ HB0.out).mono ?_; rintro e W1 ⟨rfl, HB1⟩)
      | (go_at_call 27; refine (HCR.out _ _ _ HB1.out).mono ?_; rintro e W2 ⟨rfl, HB2⟩))
    go_ret
    exact ⟨rfl, Lib.hid (doPost HB2.out.drop HG.out (Nat.le_succ _))⟩
  by_cases h2 : wh = 2
  · subst h2
    clear h0 h1
    have e := read_ref g ix
    have CW : ∀ R X W, Both w0 b rb D R X W → Calls Try.prog 11 #[.pointer (some ⟨b, 0, none⟩), .int .i64 ix] W fun e w' => e = .returned (.tuple #[.string (dkRead D ix).1, .int .i64 (dkRead D ix).2]) ∧ Hid (Both w0 b rb D R X w') :=
      fun R X W h => BRead w0 b rb D R X ix W h
    have CR : ∀ E X W, Both w0 b rb E (refOf D) X W → Calls Try.prog 28 #[.pointer (some ⟨rb, 0, none⟩), .int .i64 ix] W fun e w' => e = .returned (.tuple #[.string (dkRead D ix).1, .int .i64 (dkRead D ix).2]) ∧ W = w' :=
      fun E X W h => by have := BRRead w0 b rb E (refOf D) X ix W h gf gl; rw [e] at this; exact this
    have HCW := Lib.hid CW
    have HCR := Lib.hid CR
    have HG := Lib.hid g
    clear CW CR e gf gl gi ll g
    generalize dkRead D ix = p at *
    obtain ⟨t, r⟩ := p
    simp only at HCW HCR
    go_enter Try.func19, Try.ntmps19
    go_wp2_with fail
    refine (HCW.out _ _ _ HB0.out).mono ?_
    rintro e W1 ⟨rfl, HB1⟩
    have c1 := cell_lit (HB1.out.at (List.mem_cons_self ..)) (i := 1) rfl
    go_wp2_with fail
    refine (HCR.out _ _ _ HB1.out).mono ?_
    rintro e W2 ⟨rfl, rfl⟩
    go_wp2_with fail
    go_ret
    exact ⟨rfl, Lib.hid (doPost HB1.out.drop HG.out (Nat.le_succ _))⟩
  by_cases h3 : wh = 3
  · subst h3
    clear h0 h1 h2
    obtain ⟨e, g1⟩ := fuel_ref g ix
    have HE := Lib.hid e
    have HG := Lib.hid g1
    have CW : ∀ R X W, Both w0 b rb D R X W → Calls Try.prog 13 #[.pointer (some ⟨b, 0, none⟩), .int .i64 ix] W fun e w' => e = .returned (.tuple #[]) ∧ Hid (Both w0 b rb { D with fuel := ix, bound := decide (0 ≤ ix) } R X w') :=
      fun R X W h => BFuel w0 b rb D R X ix W h a0 a1
    have HCW := Lib.hid CW
    clear CW e g1 gf gl gi ll g
    go_enter Try.func19, Try.ntmps19
    go_wp2_with fail
    refine (HCW.out _ _ _ HB0.out).mono ?_
    rintro e W1 ⟨rfl, HB1⟩
    have c1 := cell_lit (HB1.out.at (List.mem_cons_self ..)) (i := 1) rfl
    obtain ⟨fv, lv, hr⟩ := HB1.out.rcells
    have q2 := cell_lit hr (i := 2) rfl
    have f2 := frozen_lit hr 2
    clear hr
    by_cases hx : -1 ≤ ix
    · have HF := Lib.hid (HB1.out.fuel ix hx a1)
      go_wp2_with fail
      go_ret
      refine ⟨rfl, Lib.hid (doPost (D := { D with fuel := ix, bound := decide (0 ≤ ix) }) ?_ HG.out (Nat.le_succ _))⟩
      rw [HE.out, if_pos (by omega), show max ix (-1) = ix by omega]
      exact HF.out.drop
    · have HF := Lib.hid (HB1.out.fuel (-1) (by decide) (by decide))
      go_wp2_with fail
      go_ret
      refine ⟨rfl, Lib.hid (doPost (D := { D with fuel := ix, bound := decide (0 ≤ ix) }) ?_ HG.out (Nat.le_succ _))⟩
      rw [HE.out, if_neg (by omega), show max ix (-1) = -1 by omega]
      exact HF.out.drop
  by_cases h4 : wh = 4
  · subst h4
    clear h0 h1 h2 h3
    obtain ⟨e, g1⟩ := fall_ref g keep
    have g5 := g.l512
    have CW : ∀ R X W, Both w0 b rb D R X W → BoolsAt W (.slice va keep.length vc) keep → Calls Try.prog 12 #[.pointer (some ⟨b, 0, none⟩), .slice va keep.length vc] W fun e w' => e = .returned (.tuple #[]) ∧ Hid (Both w0 b rb (dkFall D keep) R X w') :=
      fun R X W h hv => BFall w0 b rb D R X _ keep W h hv ll g5 hk
    have CR : ∀ E X W, Both w0 b rb E (refOf D) X W → BoolsAt W (.slice va keep.length vc) keep → Calls Try.prog 29 #[.pointer (some ⟨rb, 0, none⟩), .slice va keep.length vc] W fun e w' => e = .returned (.tuple #[]) ∧ Hid (Both w0 b rb E (refOf (dkFall D keep)) X w') :=
      fun E X W h hv => by have := BRFall w0 b rb E (refOf D) X _ keep W h hv gi gf gl hk; rw [e] at this; exact this
    have HCW := Lib.hid CW
    have HCR := Lib.hid CR
    have HG := Lib.hid g1
    clear CW CR e g1 gf gl gi ll g g5
    generalize dkFall D keep = D1 at *
    go_enter Try.func19, Try.ntmps19
    go_wp2_with fail
    refine (HCW.out _ _ _ HB0.out (boolsAt_below HV.out HB0.out.below)).mono ?_
    rintro e W1 ⟨rfl, HB1⟩
    have c1 := cell_lit (HB1.out.at (List.mem_cons_self ..)) (i := 3) rfl
    have HV1 : Hid (BoolsAt W1 (.slice va keep.length vc) keep) := Lib.hid (boolsAt_below HV.out HB1.out.below)
    go_wp2_with fail
    refine (HCR.out _ _ _ HB1.out HV1.out).mono ?_
    rintro e W2 ⟨rfl, HB2⟩
    go_wp2_with fail
    go_ret
    exact ⟨rfl, Lib.hid (doPost HB2.out.drop HG.out (Nat.le_succ _))⟩
  · have q0 : (wh == 0) = false := by simpa using h0
    have q1 : (wh == 1) = false := by simpa using h1
    have q2 : (wh == 2) = false := by simpa using h2
    have q3 : (wh == 3) = false := by simpa using h3
    have q4 : (wh == 4) = false := by simpa using h4
    have HG := Lib.hid g
    clear h0 h1 h2 h3 h4 g gf gl gi ll
    go_enter Try.func19, Try.ntmps19
    go_wp2_with fail
    go_ret
    exact ⟨rfl, Lib.hid (doPost HB0.out.drop HG.out (Nat.le_succ _))⟩
end Go.Proofs.Ytjgihpabbogpjaa
