/- Parts of the proof of RecipeLost, joined: RfsD, RfsE, RfsF, RfsG, RfsH. No condition. -/
import Derived.Test.YtdcjhpafipbpkaaGreatDoorRl4
set_option linter.unusedSimpArgs false
set_option linter.unusedVariables false
set_option linter.unusedSectionVars false
namespace Go.Proofs.YtdcjhpafipbpkaaGreatDoor
set_option maxRecDepth 100000
set_option maxHeartbeats 8000000
open Go.RowKit
def insK (C : List RCk) (c : RCk) (k : Nat) : List RCk := if doneR (C.take k) c then insR (C.take k) c else C.take k
theorem insK_yes {C : List RCk} {c : RCk} {k : Nat} (h : k < C.length) (hd : doneR (C.take k) c = true) : insK C c (k + 1) = insK C c k ++ [C[k]] ∧ doneR (C.take (k + 1)) c = true := by
  have h2 : doneR (C.take (k + 1)) c = true := by rw [List.take_succ_eq_append_getElem h, done_snoc, hd]; rfl
  refine ⟨?_, h2⟩
  unfold insK
  rw [if_pos h2, if_pos hd, List.take_succ_eq_append_getElem h, ins_done hd]
theorem insK_new {C : List RCk} {c : RCk} {k : Nat} (h : k < C.length) (hd : doneR (C.take k) c = false) (hl : kless c.1 C[k].1 = true) : insK C c (k + 1) = insK C c k ++ [c] ++ [C[k]] ∧ doneR (C.take (k + 1)) c = true := by
  have h2 : doneR (C.take (k + 1)) c = true := by rw [List.take_succ_eq_append_getElem h, done_snoc, hd, hl]; rfl
  refine ⟨?_, h2⟩
  unfold insK
  rw [if_pos h2, if_neg (by rw [hd]; simp), List.take_succ_eq_append_getElem h, ins_first hd hl]
  simp
theorem insK_no {C : List RCk} {c : RCk} {k : Nat} (h : k < C.length) (hd : doneR (C.take k) c = false) (hl : kless c.1 C[k].1 = false) : insK C c (k + 1) = insK C c k ++ [C[k]] ∧ doneR (C.take (k + 1)) c = false := by
  have h2 : doneR (C.take (k + 1)) c = false := by rw [List.take_succ_eq_append_getElem h, done_snoc, hd, hl]; rfl
  refine ⟨?_, h2⟩
  unfold insK
  rw [if_neg (by rw [h2]; simp), if_neg (by rw [hd]; simp), List.take_succ_eq_append_getElem h]
theorem insK_len (C : List RCk) (c : RCk) (k : Nat) : (insK C c k).length ≤ k + 1 := by
  unfold insK
  split
  · rw [ins_len, List.length_take]; omega
  · rw [List.length_take]; omega
theorem insK_end {C : List RCk} {c : RCk} : (doneR (C.take C.length) c = true → insK C c C.length = insR C c) ∧ (doneR (C.take C.length) c = false → insK C c C.length ++ [c] = insR C c) := by
  unfold insK
  rw [List.take_length]
  exact ⟨fun h => by rw [if_pos h], fun h => by rw [if_neg (by rw [h]; simp), ins_not h]⟩
structure InsAt (w : World) (va vl : Value) (B : Nat) (C : List RCk) (v : Value) (l : List RCk) (wr : World) : Prop where
  row : wr.ownsRow B 175 3 v l.length (ckC l)
  box : BoxW w va vl wr
  lo : w.heap.size + 2 ≤ B ∧ B ≤ wr.heap.size
theorem InsAt.snoc {w wr W5 : World} {va vl v v5 : Value} {B : Nat} {C l : List RCk} {c : RCk} (h : InsAt w va vl B C v l wr) (o : Obj) (hg : (wr.alloc o).grownBy W5 v.ownBlock) (h5 : W5.ownsRow B 175 3 v5 (l.length + 1) (ckC l ++ [.string c.1, .string c.2.1, .int .i64 c.2.2])) : InsAt w va vl B C v5 (l ++ [c]) W5 := by
  have hb := h.box.below ((Below.refl _ _).alloc (Nat.le_refl _) o)
  refine ⟨by rw [List.length_append, List.length_singleton, ckC_snoc]; exact h5, hb.grown hg fun j e => Nat.le_trans h.lo.1 (h.row.lt j e).1, h.lo.1, ?_⟩
  have h1 := hg.size
  have h2 := h.lo.2
  rw [World.size_alloc] at h1
  omega
theorem StR.put5 {w W : World} {vl : Value} {C : List RCk} {L : List REn} {g5 c5 : Nat} {x y X : Value} (hl : RdRow (((W.setCell ⟨w.heap.size, 0, none⟩ X).setCell ⟨w.heap.size + 1, 0, none⟩ x).setCell ⟨w.heap.size + 1, 1, none⟩ y) vl L.length 2 (enC L)) (ha : RdRow W (.slice (some ⟨g5, 0, none⟩) C.length c5) C.length 3 (ckC C)) (hg : w.heap.size + 2 ≤ g5) :
    StR (((W.setCell ⟨w.heap.size, 0, none⟩ X).setCell ⟨w.heap.size + 1, 0, none⟩ x).setCell ⟨w.heap.size + 1, 1, none⟩ y) (.agg #[.slice (some ⟨g5, 0, none⟩) C.length c5, vl]) C L :=
  ⟨_, _, rfl, ((ha.setNe (by omega) _).setNe (by omega) _).setNe (by omega) _, hl⟩
theorem putR_new' {C : List RCk} {t : ByteArray} {k : Nat} (h1 : 1 ≤ t.size) (h2 : t.size ≤ 128) (hno : ∀ j, j < 256 → hitR C (prB t) t j = false) (hk : k < 256) (hf : freeR C (prB t) k = true) (hb : ∀ j, j < k → freeR C (prB t) j = false) : putR C t = (insR C (nameB (prB t) k, t, 0), nameB (prB t) k, true, 0) := by
  unfold putR
  rw [if_neg (by omega), range_none hno, range_first hk hf hb]
theorem putR_hit' {C : List RCk} {t : ByteArray} {k : Nat} (h1 : 1 ≤ t.size) (h2 : t.size ≤ 128) (hno : ∀ j, j < k → hitR C (prB t) t j = false) (hk : k < 256) (hf : hitR C (prB t) t k = true) : putR C t = (C, nameB (prB t) k, false, 0) := by
  unfold putR
  rw [if_neg (by omega), range_first hk hf hno]
theorem putR_full {C : List RCk} {t : ByteArray} (h1 : 1 ≤ t.size) (h2 : t.size ≤ 128) (hno : ∀ j, j < 256 → hitR C (prB t) t j = false) (hb : ∀ j, j < 256 → freeR C (prB t) j = false) : putR C t = (C, ⟨#[]⟩, false, 4) := by
  unfold putR
  rw [if_neg (by omega), range_none hno, range_none hb]
theorem Put_rc (v : Value) (C : List RCk) (L : List REn) (t : ByteArray) (w : World) (h : StR w v C L) (hC : C.length ≤ 100000) (ht1 : 1 ≤ t.size) (ht2 : t.size ≤ 128) :
    Calls Tryz.prog 97 #[v, .string t] w fun e w' => ∃ v', e = .returned (.tuple #[v', .string (putR C t).2.1, .bool (putR C t).2.2.1, .int .i64 (putR C t).2.2.2]) ∧ Hid ((StR w' v' (putR C t).1 L ∧ Below w.heap.size w w') ∧ ∀ D, StLoc D v → StLoc (fun b => D b ∨ w.heap.size ≤ b) v') := by
  obtain ⟨jC, hjC, hC0, hC1, hC2⟩ := info_parts infoCk
  have HST := Lib.hid h
  obtain ⟨va, vl, rfl, h2, h3⟩ := h
  obtain ⟨aA, cA, rfl, -⟩ := h2.form
  obtain ⟨aL, cL, rfl, -⟩ := h3.form
  have B0 := BoxW.start w (.slice aA C.length cA) (.slice aL L.length cL)
  obtain ⟨wb, hwb⟩ : ∃ x, (w.alloc (.cells #[.slice aA C.length cA, .slice aL L.length cL] 52)).alloc (.cells #[.slice none 0 0, .slice none 0 0] 52) = x := ⟨_, rfl⟩
  rw [hwb] at B0
  have HB0 := Lib.hid B0
  have PR := fun W => RefPrint_c t W (by omega)
  obtain ⟨p, hp⟩ : ∃ x, prB t = x := ⟨_, rfl⟩
  have HPP := Lib.hid hp
  have hps : p.size = 32 := by rw [← hp, prB_size]
  have HV : Hid (RdRow w (.slice aA C.length cA) C.length 3 (ckC C)) := Lib.hid h2
  have HVL : Hid (RdRow w (.slice aL L.length cL) L.length 2 (enC L)) := Lib.hid h3
  have HCL := Lib.hid hC
  have HT := Lib.hid (And.intro ht1 ht2)
  have d0 : decide ((t.size : Int) < 1) = false := decide_eq_false (by omega)
  have d1 : decide ((t.size : Int) > 128) = false := decide_eq_false (by omega)
  rw [hp] at PR
  have AT : Hid (∀ nm W, BoxW w (.slice aA C.length cA) (.slice aL L.length cL) W → Calls Tryz.prog 102 #[.agg #[.slice aA C.length cA, .slice aL L.length cL], .string nm] W fun e w' => e = .returned (.int .i64 (ixR C nm)) ∧ Hid (Below W.heap.size W w')) := Lib.hid fun nm W hW =>
    At_rc (.agg #[.slice aA C.length cA, .slice aL L.length cL]) C L nm W (HST.out.below hW.bel) (by omega)
  clear B0 h2 h3 hp hC ht1 ht2
  go_enter Tryz.func97, Tryz.ntmps97
  go_wp2_with fail
  refine (PR _).mono ?_
  rintro e w2 ⟨rfl, H2⟩
  have R1 : Hid ((∀ j, j < 0 → hitR C p t j = false) ∧ BoxW w (.slice aA C.length cA) (.slice aL L.length cL) w2) := Lib.hid ⟨fun j hj => absurd hj (by omega), HB0.out.below H2.out⟩
  clear PR H2 hwb d0 d1 HB0
  go_wp2_with fail
  go_loopg [9] 256 (fun g s9 wr => ∃ (k : Nat), g = 256 - k ∧ k ≤ 256 ∧ s9 = .int .i64 (k : Int) ∧ Hid ((∀ j, j < k → hitR C p t j = false) ∧ BoxW w (.slice aA C.length cA) (.slice aL L.length cL) wr))
  case atStart => exact ⟨0, rfl, Nat.zero_le _, rfl, R1⟩
  case round =>
    obtain ⟨k, rfl, hk, rfl, HI⟩ := hrel
    clear R1
    by_cases hlt : k < 256
    · -- part 1 begins
      have k0 : IntKind.u8.wrap (k : Int) = (k : Int) := by
        simp [IntKind.wrap, IntKind.bits, IntKind.signed]; omega
      have cv := conv_k k hlt (wr.alloc (.cells #[.int .u8 (k : Int)] 5)) wr.heap.size (cell_lit (heap_alloc_new _ _) rfl)
      obtain ⟨X, hX⟩ : ∃ X : ByteArray, (⟨#[UInt8.ofNat k]⟩ : ByteArray) = X := ⟨_, rfl⟩
      have hxs : X.size = 1 := by rw [← hX]; rfl
      have hb1 : (p.size + X.size > 9223372036854775807) = False := by simp; omega
      have hb2 : ¬ (9223372036854775807 < p.size + X.size) := by omega
      obtain ⟨nm, hnm⟩ : ∃ nm, p ++ X = nm := ⟨_, rfl⟩
      have HNM : Hid (nm = nameB p k) := Lib.hid (by rw [← hnm, ← hX]; rfl)
      rw [hX] at cv
      have HB2 := Lib.hid (HI.out.2.below ((Below.refl _ _).alloc (Nat.le_refl _) (.cells #[.int .u8 (k : Int)] 5)))
      have A2 := AT.out nm _ HB2.out
      obtain ⟨x0, x1, x2, x3, x4⟩ := HI.out.2.cells
      obtain ⟨y0, y1, y2, y3, y4⟩ := HB2.out.cells
      clear hX hxs
      have HLT := Lib.hid hlt
      cases hf : fndR C nm with
      | none =>
        rw [(ixR_none hf).1] at A2
        have HNX : Hid (∀ j, j < k + 1 → hitR C p t j = false) := Lib.hid fun j hj => by
          by_cases e : j = k
          · subst e; unfold hitR; rw [← HNM.out, hf]
          · exact HI.out.1 j (by omega)
        clear hf HI
        go_wp2_with fail
        refine A2.mono ?_
        rintro e w3 ⟨rfl, H3⟩
        have HB3 := Lib.hid (HB2.out.below H3.out)
        clear A2 H3 HB2 cv x0 x1 x2 x3 x4 y0 y1 y2 y3 y4 hlt hk
        obtain ⟨x0, x1, x2, x3, x4⟩ := HB3.out.cells
        go_wp2_with fail
        go_roundg (256 - (k + 1))
        case measure => have := HLT.out; omega
        case rel => exact ⟨k + 1, rfl, HLT.out, by congr 1, Lib.hid ⟨HNX.out, HB3.out⟩⟩
      | some c =>
        obtain ⟨i, hi, hc, hx, -⟩ := ixR_some hf
        rw [hx] at A2
        obtain ⟨-, c1, -⟩ := ckC_get hi
        obtain ⟨b, off, rfl, hb, hcell⟩ := HV.out.get c1
        have ck := hcell _ _ c1
        rw [hc] at ck
        have HCK : Hid (∀ W, Below w.heap.size w W → W.cell? ⟨b, off + i * 3 + 1, none⟩ = some (.string c.2.1)) := Lib.hid fun W hW => (hW.cell (p := ⟨b, off + i * 3 + 1, none⟩) hb).trans ck
        have hi0 : decide ((i : Int) ≥ 0) = true := decide_eq_true (by omega)
        have hcl : C.length ≤ 100000 := HCL.out
        by_cases he : c.2.1 = t
        · have HE := Lib.hid (show putR C t = (C, nm, false, 0) by
            have hh : hitR C (prB t) t k = true := by rw [HPP.out]; unfold hitR; rw [← HNM.out, hf]; simp [he]
            rw [HNM.out, ← HPP.out]
            exact putR_hit' HT.out.1 HT.out.2 (by rw [HPP.out]; exact HI.out.1) hlt hh)
          have heq : (c.2.1.toList == t.toList) = true := by rw [he]; simp
          clear hf hx hc c1 hcell ck hb he HI
          generalize c.2.1 = ct at *
          go_wp2_with fail
          refine A2.mono ?_
          rintro e w3 ⟨rfl, H3⟩
          have HB3 := Lib.hid (HB2.out.below H3.out)
          clear A2 H3 HB2 cv x0 x1 x2 x3 x4 y0 y1 y2 y3 y4 hlt hk
          obtain ⟨x0, x1, x2, x3, x4⟩ := HB3.out.cells
          obtain ⟨r0, r1, r2, r3, r4⟩ := HB3.out.res
          obtain ⟨o1, o2, o3, o4, o5⟩ := HB3.out.out (.slice (some ⟨b, off, none⟩) C.length cA) (.slice aL L.length cL)
          have cc := HCK.out _ HB3.out.bel
          have HG := Lib.hid (And.intro (And.intro (HST.out.below o5) o5) (fun D (hD : StLoc D (.agg #[.slice (some ⟨b, off, none⟩) C.length cA, .slice aL L.length cL])) => hD.mono (D' := fun b => D b ∨ w.heap.size ≤ b) fun b hb => Or.inl hb))
          clear o5 HCK
          go_wp2_with fail
          (try simp only [Exit.inBlock, Exit.then])
          refine bodyPost_ret (v := .tuple #[.agg #[.slice (some ⟨b, off, none⟩) C.length cA, .slice aL L.length cL], .string nm, .bool false, .int .i64 0]) ?_ rfl ⟨_, by rw [HE.out], by rw [HE.out]; exact HG⟩
          rw [results_cell_tmp3 rfl]
          go_simp
        · have HNX : Hid (∀ j, j < k + 1 → hitR C p t j = false) := Lib.hid fun j hj => by
            by_cases e : j = k
            · subst e; unfold hitR; rw [← HNM.out, hf]; simp [he]
            · exact HI.out.1 j (by omega)
          have heq := ba_neR he
          clear hf hx hc c1 hcell ck hb he HI
          generalize c.2.1 = ct at *
          go_wp2_with fail
          refine A2.mono ?_
          rintro e w3 ⟨rfl, H3⟩
          have HB3 := Lib.hid (HB2.out.below H3.out)
          clear A2 H3 HB2 cv x0 x1 x2 x3 x4 y0 y1 y2 y3 y4 hlt hk
          obtain ⟨x0, x1, x2, x3, x4⟩ := HB3.out.cells
          have cc := HCK.out _ HB3.out.bel
          clear HCK
          go_wp2_with fail
          go_roundg (256 - (k + 1))
          case measure => have := HLT.out; omega
          case rel => exact ⟨k + 1, rfl, HLT.out, by congr 1, Lib.hid ⟨HNX.out, HB3.out⟩⟩
      -- part 1 ends
    · obtain rfl : k = 256 := by omega
      have HNH := Lib.hid HI.out.1
      have R2 : Hid ((∀ j, j < 0 → freeR C p j = false) ∧ BoxW w (.slice aA C.length cA) (.slice aL L.length cL) wr) := Lib.hid ⟨fun j hj => absurd hj (by omega), HI.out.2⟩
      clear HI hlt hk
      go_wp2_with fail
      go_loopg [12] 256 (fun g s12 wr => ∃ (k : Nat), g = 256 - k ∧ k ≤ 256 ∧ s12 = .int .i64 (k : Int) ∧ Hid ((∀ j, j < k → freeR C p j = false) ∧ BoxW w (.slice aA C.length cA) (.slice aL L.length cL) wr))
      case atStart => exact ⟨0, rfl, Nat.zero_le _, rfl, R2⟩
      case round =>
        obtain ⟨k, rfl, hk, rfl, HI⟩ := hrel
        clear R2
        by_cases hlt : k < 256
        · have HLT := Lib.hid hlt
          have k0 : IntKind.u8.wrap (k : Int) = (k : Int) := by
            simp [IntKind.wrap, IntKind.bits, IntKind.signed]; omega
          have cv := conv_k k hlt (wr.alloc (.cells #[.int .u8 (k : Int)] 5)) wr.heap.size (cell_lit (heap_alloc_new _ _) rfl)
          obtain ⟨X, hX⟩ : ∃ X : ByteArray, (⟨#[UInt8.ofNat k]⟩ : ByteArray) = X := ⟨_, rfl⟩
          have hxs : X.size = 1 := by rw [← hX]; rfl
          have hb1 : (p.size + X.size > 9223372036854775807) = False := by simp; omega
          have hb2 : ¬ (9223372036854775807 < p.size + X.size) := by omega
          obtain ⟨nm, hnm⟩ : ∃ nm, p ++ X = nm := ⟨_, rfl⟩
          have HNM : Hid (nm = nameB p k) := Lib.hid (by rw [← hnm, ← hX]; rfl)
          rw [hX] at cv
          have HB2 := Lib.hid (HI.out.2.below ((Below.refl _ _).alloc (Nat.le_refl _) (.cells #[.int .u8 (k : Int)] 5)))
          have A2 := AT.out nm _ HB2.out
          obtain ⟨x0, x1, x2, x3, x4⟩ := HI.out.2.cells
          obtain ⟨y0, y1, y2, y3, y4⟩ := HB2.out.cells
          clear hX hxs
          cases hf : fndR C nm with
          | some c =>
            -- part 2 begins
            obtain ⟨i, hi, hc, hx, -⟩ := ixR_some hf
            rw [hx] at A2
            have hi0 : decide ((i : Int) ≥ 0) = true := decide_eq_true (by omega)
            have HNX : Hid (∀ j, j < k + 1 → freeR C p j = false) := Lib.hid fun j hj => by
              by_cases e : j = k
              · subst e; unfold freeR; rw [← HNM.out, hf]; rfl
              · exact HI.out.1 j (by omega)
            clear hf hx hc HI
            go_wp2_with fail
            refine A2.mono ?_
            rintro e w3 ⟨rfl, H3⟩
            have HB3 := Lib.hid (HB2.out.below H3.out)
            clear A2 H3 HB2 cv x0 x1 x2 x3 x4 y0 y1 y2 y3 y4 hlt hk
            go_wp2_with fail
            go_roundg (256 - (k + 1))
            case measure => have := HLT.out; omega
            case rel => exact ⟨k + 1, rfl, HLT.out, by congr 1, Lib.hid ⟨HNX.out, HB3.out⟩⟩
            -- part 2 ends
          | none =>
            rw [(ixR_none hf).1] at A2
            have HE := Lib.hid (show putR C t = (insR C (nm, t, 0), nm, true, 0) by
              rw [HNM.out, ← HPP.out]
              exact putR_new' HT.out.1 HT.out.2 (by rw [HPP.out]; exact HNH.out) hlt (by rw [HPP.out]; unfold freeR; rw [← HNM.out, hf]; rfl) (by rw [HPP.out]; exact HI.out.1))
            clear hf HI
            go_wp2_with fail
            refine A2.mono ?_
            rintro e w3 ⟨rfl, H3⟩
            have HB3 := Lib.hid (HB2.out.below H3.out)
            clear A2 H3 HB2 cv x0 x1 x2 x3 x4 y0 y1 y2 y3 y4 hlt hk
            have HBz := Lib.hid (show w.heap.size + 2 ≤ w3.heap.size from lt_of_heap HB3.out.r)
            have R3 : Hid (InsAt w (.slice aA C.length cA) (.slice aL L.length cL) w3.heap.size C (.slice none 0 0) (insK C (nm, t, 0) 0) w3) := Lib.hid ⟨World.ownsRow_nil _ _ _ _, HB3.out, HBz.out, Nat.le_refl _⟩
            clear HB3
            go_wp2_with fail
            go_loopg [14, 15, 16] C.length (fun g s14 s15 s16 wr => ∃ (q : Nat) (v : Value), g = C.length - q ∧ q ≤ C.length ∧ s16 = .int .i64 (q : Int) ∧ s15 = .bool (doneR (C.take q) (nm, t, 0)) ∧ v = s14 ∧ Hid (InsAt w (.slice aA C.length cA) (.slice aL L.length cL) w3.heap.size C v (insK C (nm, t, 0) q) wr))
            case atStart => exact ⟨0, _, rfl, Nat.zero_le _, rfl, rfl, rfl, R3⟩
            case round =>
              obtain ⟨q, v, rfl, hq, rfl, rfl, rfl, HI⟩ := hrel
              clear R3
              have hcl : C.length ≤ 100000 := HCL.out
              obtain ⟨x0, x1, x2, x3, x4⟩ := HI.out.box.cells
              by_cases hlt3 : q < C.length
              · -- part 3 begins
                obtain ⟨e0, e1, e2⟩ := ckC_get hlt3
                obtain ⟨b, off, rfl, hb, hcell⟩ := HV.out.get e0
                have HCK : Hid (∀ W, Below w.heap.size w W → W.cell? ⟨b, off + q * 3, none⟩ = some (.string C[q].1) ∧ W.cell? ⟨b, off + q * 3 + 1, none⟩ = some (.string C[q].2.1) ∧ W.cell? ⟨b, off + q * 3 + 2, none⟩ = some (.int .i64 C[q].2.2)) := Lib.hid fun W hW =>
                  ⟨(hW.cell (p := ⟨b, off + q * 3, none⟩) hb).trans (hcell _ _ e0), (hW.cell (p := ⟨b, off + q * 3 + 1, none⟩) hb).trans (hcell _ _ e1), (hW.cell (p := ⟨b, off + q * 3 + 2, none⟩) hb).trans (hcell _ _ e2)⟩
                have HQ := Lib.hid hlt3
                have HLN : Hid ((insK C (nm, t, 0) q).length ≤ 100001) := Lib.hid (by have := insK_len C (nm, t, 0) q; omega)
                have HYS := Lib.hid fun hd => insK_yes (c := (nm, t, 0)) hlt3 hd
                have HNW := Lib.hid fun hd hl => insK_new (c := (nm, t, 0)) hlt3 hd hl
                have HNO := Lib.hid fun hd hl => insK_no (c := (nm, t, 0)) hlt3 hd hl
                obtain ⟨d, hd⟩ : ∃ d, C[q]'hlt3 = d := ⟨_, rfl⟩
                rw [hd] at HCK HYS HNW HNO
                obtain ⟨lq, hlq⟩ : ∃ l, insK C (nm, t, 0) q = l := ⟨_, rfl⟩
                rw [hlq] at HI HYS HNW HNO HLN
                obtain ⟨nx, hnx⟩ : ∃ l, insK C (nm, t, 0) (q + 1) = l := ⟨_, rfl⟩
                have HNX := Lib.hid hnx
                rw [hnx] at HYS HNW HNO
                obtain ⟨dn, hdn⟩ : ∃ l, doneR (C.take (q + 1)) (nm, t, 0) = l := ⟨_, rfl⟩
                have HDN := Lib.hid hdn
                rw [hdn] at HYS HNW HNO
                obtain ⟨ck0, ck1, ck2⟩ := HCK.out wr HI.out.box.bel
                have HO := Lib.hid HI.out.row
                have HZ : Hid (∀ o : Obj, w3.heap.size ≤ (wr.alloc o).heap.size) := Lib.hid fun o => by have := HI.out.lo.2; simp; omega
                have L1 := Lib.hid (show lq.length + 1 ≤ maxLen ∧ (lq.length + 1) * 40 ≤ 140737488355328 from ⟨by have := HLN.out; unfold maxLen; omega, by have := HLN.out; omega⟩)
                have L2 := Lib.hid (show lq.length + 1 + 1 ≤ maxLen ∧ (lq.length + 1 + 1) * 40 ≤ 140737488355328 from ⟨by have := HLN.out; unfold maxLen; omega, by have := HLN.out; omega⟩)
                clear e0 e1 e2 hcell hb hd hlq hnx hdn
                obtain ⟨i1, i2, n3⟩ := d
                simp only at ck0 ck1 ck2 HCK HYS HNW HNO
                cases hdq : doneR (C.take q) (nm, t, 0) with
                | true =>
                  obtain ⟨n1, n2⟩ := HYS.out hdq
                  have HSN : Hid (∀ o W5 v5, (wr.alloc o).grownBy W5 v.ownBlock → W5.ownsRow w3.heap.size 175 3 v5 (lq.length + 1) (ckC lq ++ [.string i1, .string i2, .int .i64 n3]) → InsAt w (.slice (some ⟨b, off, none⟩) C.length cA) (.slice aL L.length cL) w3.heap.size C v5 nx W5) := Lib.hid fun o W5 v5 hg h5 => by
                    rw [n1]; exact InsAt.snoc (c := (i1, i2, n3)) HI.out o hg h5
                  clear n1 HI HYS HNW HNO hdq
                  go_wp2_with (first
                    | (refine chkA 49 49 ⟨_, _, by with_reducible rfl⟩ ?_
                       refine wpList_append_y (by rfl) _ _ _ rfl w3.heap.size 175 jC _ 3 40 Tryz.underlying49 hjC hC0 hC1 hC2 rfl (by decide) _ _ _ (by rfl) (HO.out.alloc _) _ 1 _ (by rfl) (yields_boxL _ #[.string i1, .string i2, .int .i64 n3] _ 1 1) rfl (one3 _ _ _ rfl rfl rfl) L1.out.1 L1.out.2 (HZ.out _) ?_
                       intro v5 W5 ho5 hg5 ha5
                       have HN5 := Lib.hid (HSN.out _ W5 v5 hg5 ho5)
                       clear ho5 hg5 ha5))
                  go_roundg (C.length - (q + 1))
                  case measure => have := HQ.out; omega
                  case rel => exact ⟨q + 1, _, rfl, HQ.out, by congr 1, by rw [HDN.out, n2], rfl, by rw [HNX.out]; exact HN5⟩
                | false =>
                  cases hl : kless nm i1 with
                  | false =>
                    obtain ⟨n1, n2⟩ := HNO.out hdq hl
                    have HSN : Hid (∀ o W5 v5, (wr.alloc o).grownBy W5 v.ownBlock → W5.ownsRow w3.heap.size 175 3 v5 (lq.length + 1) (ckC lq ++ [.string i1, .string i2, .int .i64 n3]) → InsAt w (.slice (some ⟨b, off, none⟩) C.length cA) (.slice aL L.length cL) w3.heap.size C v5 nx W5) := Lib.hid fun o W5 v5 hg h5 => by
                      rw [n1]; exact InsAt.snoc (c := (i1, i2, n3)) HI.out o hg h5
                    have hlb : Op.bytesLess nm.toList i1.toList = false := hl
                    clear n1 HI HYS HNW HNO hdq hl
                    go_wp2_with (first
                      | (refine chkA 49 49 ⟨_, _, by with_reducible rfl⟩ ?_
                         refine wpList_append_y (by rfl) _ _ _ rfl w3.heap.size 175 jC _ 3 40 Tryz.underlying49 hjC hC0 hC1 hC2 rfl (by decide) _ _ _ (by rfl) (HO.out.alloc _) _ 1 _ (by rfl) (yields_boxL _ #[.string i1, .string i2, .int .i64 n3] _ 1 1) rfl (one3 _ _ _ rfl rfl rfl) L1.out.1 L1.out.2 (HZ.out _) ?_
                         intro v5 W5 ho5 hg5 ha5
                         have HN5 := Lib.hid (HSN.out _ W5 v5 hg5 ho5)
                         clear ho5 hg5 ha5))
                    go_roundg (C.length - (q + 1))
                    case measure => have := HQ.out; omega
                    case rel => exact ⟨q + 1, _, rfl, HQ.out, by congr 1, by rw [HDN.out, n2], rfl, by rw [HNX.out]; exact HN5⟩
                  | true =>
                    obtain ⟨n1, n2⟩ := HNW.out hdq hl
                    have HSA : Hid (∀ o W5 v5, (wr.alloc o).grownBy W5 v.ownBlock → W5.ownsRow w3.heap.size 175 3 v5 (lq.length + 1) (ckC lq ++ [.string nm, .string t, .int .i64 0]) → InsAt w (.slice (some ⟨b, off, none⟩) C.length cA) (.slice aL L.length cL) w3.heap.size C v5 (lq ++ [(nm, t, 0)]) W5) := Lib.hid fun o W5 v5 hg h5 => InsAt.snoc (c := (nm, t, 0)) HI.out o hg h5
                    have HSN : Hid (∀ Y v0 o W5 v5, InsAt w (.slice (some ⟨b, off, none⟩) C.length cA) (.slice aL L.length cL) w3.heap.size C v0 (lq ++ [(nm, t, 0)]) Y → (Y.alloc o).grownBy W5 v0.ownBlock → W5.ownsRow w3.heap.size 175 3 v5 (lq.length + 1 + 1) (ckC (lq ++ [(nm, t, 0)]) ++ [.string i1, .string i2, .int .i64 n3]) → InsAt w (.slice (some ⟨b, off, none⟩) C.length cA) (.slice aL L.length cL) w3.heap.size C v5 nx W5) := Lib.hid fun Y v0 o W5 v5 hY hg h5 => by
                      rw [n1]
                      refine InsAt.snoc (c := (i1, i2, n3)) hY o hg ?_
                      rw [List.length_append, List.length_singleton]; exact h5
                    have hlb : Op.bytesLess nm.toList i1.toList = true := hl
                    clear n1 HI HYS HNW HNO hdq hl
                    go_wp2_with (first
                      | (refine chkA 49 49 ⟨_, _, by with_reducible rfl⟩ ?_
                         refine wpList_append_y (by rfl) _ _ _ rfl w3.heap.size 175 jC _ 3 40 Tryz.underlying49 hjC hC0 hC1 hC2 rfl (by decide) _ _ _ (by rfl) (HO6.out.alloc _) _ 1 _ (by rfl) (yields_boxL _ #[.string i1, .string i2, .int .i64 n3] _ 1 1) rfl (one3 _ _ _ rfl rfl rfl) L2.out.1 L2.out.2 (HZ6.out _) ?_
                         intro v5 W5 ho5 hg5 ha5
                         have HN5 := Lib.hid (HSN.out _ _ _ W5 v5 HI6.out hg5 ho5)
                         clear ho5 hg5 ha5)
                      | (refine chkA 49 49 ⟨_, _, by with_reducible rfl⟩ ?_
                         refine wpList_append_y (by rfl) _ _ _ rfl w3.heap.size 175 jC _ 3 40 Tryz.underlying49 hjC hC0 hC1 hC2 rfl (by decide) _ _ _ (by rfl) (HO.out.alloc _) _ 1 _ (by rfl) (yields_boxL _ #[.string nm, .string t, .int .i64 0] _ 1 1) rfl (one3 _ _ _ rfl rfl rfl) L1.out.1 L1.out.2 (HZ.out _) ?_
                         intro v6 W6 ho6 hg6 ha6
                         have HI6 := Lib.hid (HSA.out _ W6 v6 hg6 ho6)
                         have HO6 : Hid (W6.ownsRow w3.heap.size 175 3 v6 (lq.length + 1) (ckC (lq ++ [(nm, t, 0)]))) := Lib.hid (by have := HI6.out.row; rwa [List.length_append, List.length_singleton] at this)
                         have HZ6 : Hid (∀ o : Obj, w3.heap.size ≤ (W6.alloc o).heap.size) := Lib.hid fun o => by have := HI6.out.lo.2; simp; omega
                         obtain ⟨cl0, cl1, cl2⟩ := HCK.out W6 HI6.out.box.bel
                         obtain ⟨y0, y1, y2, y3, y4⟩ := HI6.out.box.cells
                         clear ho6 hg6 ha6))
                    go_roundg (C.length - (q + 1))
                    case measure => have := HQ.out; omega
                    case rel => exact ⟨q + 1, _, rfl, HQ.out, by congr 1, by rw [HDN.out, n2], rfl, by rw [HNX.out]; exact HN5⟩
                -- part 3 ends
              · obtain rfl : q = C.length := by omega
                have HEN := insK_end (C := C) (c := (nm, t, 0))
                have HNP : Hid (0 < (insR C (nm, t, 0)).length ∧ (insR C (nm, t, 0)).length ≤ 100001) := Lib.hid (by rw [ins_len]; omega)
                obtain ⟨lf, hlf⟩ : ∃ l, insR C (nm, t, 0) = l := ⟨_, rfl⟩
                rw [hlf] at HE HEN HNP
                obtain ⟨lq, hlq⟩ : ∃ l, insK C (nm, t, 0) C.length = l := ⟨_, rfl⟩
                rw [hlq] at HI HEN
                cases hdq : doneR (C.take C.length) (nm, t, 0) with
                | true =>
                  obtain rfl := HEN.1 hdq
                  obtain ⟨g5, c5, rfl, k5⟩ := own_form HI.out.row HNP.out.1
                  have hB6 := HI.out.box.set (.slice (some ⟨g5, 0, none⟩) lq.length c5)
                  obtain ⟨z0, z1, z2, z3, z4⟩ := hB6.cells
                  obtain ⟨r0, r1, r2, r3, r4⟩ := hB6.res
                  obtain ⟨o1, o2, o3, o4, o5⟩ := hB6.out (.slice (some ⟨g5, 0, none⟩) lq.length c5) (.slice aL L.length cL)
                  have HG := Lib.hid (And.intro (And.intro (StR.put5 (HVL.out.below o5) (RdRow.own HI.out.row) (Nat.le_trans HI.out.lo.1 k5)) o5) (fun D (hD : StLoc D (.agg #[.slice aA C.length cA, .slice aL L.length cL])) => StLoc.newA (n := lq.length) (c5 := c5) hD (Nat.le_trans (Nat.le_add_right _ 2) (Nat.le_trans HI.out.lo.1 k5))))
                  clear hB6 o5 k5 HI HEN hlf hlq HNP hq hlt3
                  go_wp2_with fail
                  (try simp only [Exit.inBlock, Exit.then])
                  refine bodyPost_ret (v := .tuple #[.agg #[.slice (some ⟨g5, 0, none⟩) lq.length c5, .slice aL L.length cL], .string nm, .bool true, .int .i64 0]) ?_ rfl ⟨_, by rw [HE.out], by rw [HE.out]; exact HG⟩
                  rw [results_cell_tmp3 rfl]
                  go_simp
                | false =>
                  have HLF := Lib.hid (HEN.2 hdq)
                  have HO := Lib.hid HI.out.row
                  have HZ : Hid (∀ o : Obj, w3.heap.size ≤ (wr.alloc o).heap.size) := Lib.hid fun o => by have := HI.out.lo.2; simp; omega
                  have HL1 : lf.length = lq.length + 1 := by rw [← HLF.out]; simp
                  have L1 := Lib.hid (show lq.length + 1 ≤ maxLen ∧ (lq.length + 1) * 40 ≤ 140737488355328 from ⟨by have := HNP.out; unfold maxLen; omega, by have := HNP.out; omega⟩)
                  have HSA : Hid (∀ o W5 v5, (wr.alloc o).grownBy W5 v.ownBlock → W5.ownsRow w3.heap.size 175 3 v5 (lq.length + 1) (ckC lq ++ [.string nm, .string t, .int .i64 0]) → InsAt w (.slice aA C.length cA) (.slice aL L.length cL) w3.heap.size C v5 lf W5) := Lib.hid fun o W5 v5 hg h5 => by
                    rw [← HLF.out]; exact InsAt.snoc (c := (nm, t, 0)) HI.out o hg h5
                  have HLO := Lib.hid HI.out.lo.1
                  clear HI HEN hlf hlq HL1 hdq
                  go_wp2_with (first
                    | (refine chkA 49 49 ⟨_, _, by with_reducible rfl⟩ ?_
                       refine wpList_append_y (by rfl) _ _ _ rfl w3.heap.size 175 jC _ 3 40 Tryz.underlying49 hjC hC0 hC1 hC2 rfl (by decide) _ _ _ (by rfl) (HO.out.alloc _) _ 1 _ (by rfl) (yields_boxL _ #[.string nm, .string t, .int .i64 0] _ 1 1) rfl (one3 _ _ _ rfl rfl rfl) L1.out.1 L1.out.2 (HZ.out _) ?_
                       intro v5 W5 ho5 hg5 ha5
                       have hI5 := HSA.out _ W5 v5 hg5 ho5
                       clear ho5 hg5 ha5
                       obtain ⟨g5, c5, rfl, k5⟩ := own_form hI5.row HNP.out.1
                       obtain ⟨y0, y1, y2, y3, y4⟩ := hI5.box.cells
                       have hB6 := hI5.box.set (.slice (some ⟨g5, 0, none⟩) lf.length c5)
                       obtain ⟨z0, z1, z2, z3, z4⟩ := hB6.cells
                       obtain ⟨r0, r1, r2, r3, r4⟩ := hB6.res
                       obtain ⟨o1, o2, o3, o4, o5⟩ := hB6.out (.slice (some ⟨g5, 0, none⟩) lf.length c5) (.slice aL L.length cL)
                       have HG := Lib.hid (And.intro (And.intro (StR.put5 (HVL.out.below o5) (RdRow.own hI5.row) (Nat.le_trans HLO.out k5)) o5) (fun D (hD : StLoc D (.agg #[.slice aA C.length cA, .slice aL L.length cL])) => StLoc.newA (n := lf.length) (c5 := c5) hD (Nat.le_trans (Nat.le_add_right _ 2) (Nat.le_trans HLO.out k5))))
                       clear hB6 o5 k5 hI5))
                  (try simp only [Exit.inBlock, Exit.then])
                  refine bodyPost_ret (v := .tuple #[.agg #[.slice (some ⟨g5, 0, none⟩) lf.length c5, .slice aL L.length cL], .string nm, .bool true, .int .i64 0]) ?_ rfl ⟨_, by rw [HE.out], by rw [HE.out]; exact HG⟩
                  rw [results_cell_tmp3 rfl]
                  go_simp
        · obtain rfl : k = 256 := by omega
          have HE := Lib.hid (show putR C t = (C, ⟨#[]⟩, false, 4) by
            exact putR_full HT.out.1 HT.out.2 (by rw [HPP.out]; exact HNH.out) (by rw [HPP.out]; exact HI.out.1))
          obtain ⟨x0, x1, x2, x3, x4⟩ := HI.out.2.cells
          obtain ⟨r0, r1, r2, r3, r4⟩ := HI.out.2.res
          obtain ⟨o1, o2, o3, o4, o5⟩ := HI.out.2.out (.slice aA C.length cA) (.slice aL L.length cL)
          have HG := Lib.hid (And.intro (And.intro (HST.out.below o5) o5) (fun D (hD : StLoc D (.agg #[.slice aA C.length cA, .slice aL L.length cL])) => hD.mono (D' := fun b => D b ∨ w.heap.size ≤ b) fun b hb => Or.inl hb))
          clear o5 HI hk hlt
          go_wp2_with fail
          (try simp only [Exit.inBlock, Exit.then])
          refine bodyPost_ret (v := .tuple #[.agg #[.slice aA C.length cA, .slice aL L.length cL], .string ⟨#[]⟩, .bool false, .int .i64 4]) ?_ rfl ⟨_, by rw [HE.out], by rw [HE.out]; exact HG⟩
          rw [results_cell_tmp3 rfl]
          go_simp
set_option maxHeartbeats 4000000
theorem results_cell2_tmp {fn : Func} {p q u : Tmp} {ty tz : TypeId} (h : fn.results = #[.cell p ty, .cell q tz, .tmp u]) (tmps : Array Value) (P : Program) (w : World) :
    (results fn tmps).run P w =
      ((asAddr (tmps.getD p undef)).run P w).andThen fun a w₁ => ((loadVar ty a).run P w₁).andThen fun y w₂ => ((asAddr (tmps.getD q undef)).run P w₂).andThen fun b w₃ => ((loadVar tz b).run P w₃).andThen fun z w₄ => .ok (.tuple #[y, z, tmps.getD u undef]) w₄ := by
  simp only [results, h]
  simp [Sem.run_bind, Result.andThen]
theorem three_sets {W : World} {n r q : Nat} {x0 x1 y0 y1 z0 z1 : Value} {T U V : TypeId} (hn : W.heap[n]? = some (.cells #[x0, x1] T (0, 0))) (hr : W.heap[r]? = some (.cells #[y0, y1] U (0, 0))) (hq : W.heap[q]? = some (.cells #[z0, z1] V (0, 0))) (h1 : n ≠ r) (h2 : n ≠ q) (h3 : r ≠ q) (a b c d : Value) :
    (W.cell? ⟨n, 0, none⟩ = some x0 ∧ W.frozen? ⟨n, 0, none⟩ = false ∧ (W.setCell ⟨n, 0, none⟩ a).cell? ⟨n, 1, none⟩ = some x1 ∧ (W.setCell ⟨n, 0, none⟩ a).frozen? ⟨n, 1, none⟩ = false) ∧
    (((W.setCell ⟨n, 0, none⟩ a).setCell ⟨n, 1, none⟩ b).cell? ⟨n, 0, none⟩ = some a ∧ ((W.setCell ⟨n, 0, none⟩ a).setCell ⟨n, 1, none⟩ b).cell? ⟨n, 1, none⟩ = some b ∧ ((W.setCell ⟨n, 0, none⟩ a).setCell ⟨n, 1, none⟩ b).cell? ⟨r, 0, none⟩ = some y0 ∧ ((W.setCell ⟨n, 0, none⟩ a).setCell ⟨n, 1, none⟩ b).frozen? ⟨r, 0, none⟩ = false) ∧
    ((((W.setCell ⟨n, 0, none⟩ a).setCell ⟨n, 1, none⟩ b).setCell ⟨r, 0, none⟩ a).cell? ⟨r, 1, none⟩ = some y1 ∧ (((W.setCell ⟨n, 0, none⟩ a).setCell ⟨n, 1, none⟩ b).setCell ⟨r, 0, none⟩ a).frozen? ⟨r, 1, none⟩ = false) ∧
    (((((W.setCell ⟨n, 0, none⟩ a).setCell ⟨n, 1, none⟩ b).setCell ⟨r, 0, none⟩ a).setCell ⟨r, 1, none⟩ b).cell? ⟨q, 0, none⟩ = some z0 ∧ ((((W.setCell ⟨n, 0, none⟩ a).setCell ⟨n, 1, none⟩ b).setCell ⟨r, 0, none⟩ a).setCell ⟨r, 1, none⟩ b).frozen? ⟨q, 0, none⟩ = false) ∧
    ((((((W.setCell ⟨n, 0, none⟩ a).setCell ⟨n, 1, none⟩ b).setCell ⟨r, 0, none⟩ a).setCell ⟨r, 1, none⟩ b).setCell ⟨q, 0, none⟩ c).cell? ⟨q, 1, none⟩ = some z1 ∧ (((((W.setCell ⟨n, 0, none⟩ a).setCell ⟨n, 1, none⟩ b).setCell ⟨r, 0, none⟩ a).setCell ⟨r, 1, none⟩ b).setCell ⟨q, 0, none⟩ c).frozen? ⟨q, 1, none⟩ = false) ∧
    ((((((((W.setCell ⟨n, 0, none⟩ a).setCell ⟨n, 1, none⟩ b).setCell ⟨r, 0, none⟩ a).setCell ⟨r, 1, none⟩ b).setCell ⟨q, 0, none⟩ c).setCell ⟨q, 1, none⟩ d).cell? ⟨r, 0, none⟩ = some a ∧ ((((((W.setCell ⟨n, 0, none⟩ a).setCell ⟨n, 1, none⟩ b).setCell ⟨r, 0, none⟩ a).setCell ⟨r, 1, none⟩ b).setCell ⟨q, 0, none⟩ c).setCell ⟨q, 1, none⟩ d).cell? ⟨r, 1, none⟩ = some b) ∧ ((((((W.setCell ⟨n, 0, none⟩ a).setCell ⟨n, 1, none⟩ b).setCell ⟨r, 0, none⟩ a).setCell ⟨r, 1, none⟩ b).setCell ⟨q, 0, none⟩ c).setCell ⟨q, 1, none⟩ d).cell? ⟨q, 0, none⟩ = some c ∧ ((((((W.setCell ⟨n, 0, none⟩ a).setCell ⟨n, 1, none⟩ b).setCell ⟨r, 0, none⟩ a).setCell ⟨r, 1, none⟩ b).setCell ⟨q, 0, none⟩ c).setCell ⟨q, 1, none⟩ d).cell? ⟨q, 1, none⟩ = some d) := by
  have s1 := heap_set_lit (i := 0) hn a
  have s2 := heap_set_lit (i := 1) s1 b
  have r2 : ((W.setCell ⟨n, 0, none⟩ a).setCell ⟨n, 1, none⟩ b).heap[r]? = some (.cells #[y0, y1] U (0, 0)) := by rw [heap_set_ne _ h1.symm, heap_set_ne _ h1.symm, hr]
  have q2 : ((W.setCell ⟨n, 0, none⟩ a).setCell ⟨n, 1, none⟩ b).heap[q]? = some (.cells #[z0, z1] V (0, 0)) := by rw [heap_set_ne _ h2.symm, heap_set_ne _ h2.symm, hq]
  have r3 := heap_set_lit (i := 0) r2 a
  have r4 := heap_set_lit (i := 1) r3 b
  have q4 : ((((W.setCell ⟨n, 0, none⟩ a).setCell ⟨n, 1, none⟩ b).setCell ⟨r, 0, none⟩ a).setCell ⟨r, 1, none⟩ b).heap[q]? = some (.cells #[z0, z1] V (0, 0)) := by rw [heap_set_ne _ h3.symm, heap_set_ne _ h3.symm, q2]
  have q5 := heap_set_lit (i := 0) q4 c
  have q6 := heap_set_lit (i := 1) q5 d
  have r6 : ((((((W.setCell ⟨n, 0, none⟩ a).setCell ⟨n, 1, none⟩ b).setCell ⟨r, 0, none⟩ a).setCell ⟨r, 1, none⟩ b).setCell ⟨q, 0, none⟩ c).setCell ⟨q, 1, none⟩ d).heap[r]? = ((((W.setCell ⟨n, 0, none⟩ a).setCell ⟨n, 1, none⟩ b).setCell ⟨r, 0, none⟩ a).setCell ⟨r, 1, none⟩ b).heap[r]? := by rw [heap_set_ne _ h3, heap_set_ne _ h3]
  rw [r4] at r6
  exact ⟨⟨cell_lit hn rfl, frozen_lit hn 0, cell_lit s1 rfl, frozen_lit s1 1⟩, ⟨cell_lit s2 rfl, cell_lit s2 rfl, cell_lit r2 rfl, frozen_lit r2 0⟩, ⟨cell_lit r3 rfl, frozen_lit r3 1⟩, ⟨cell_lit q4 rfl, frozen_lit q4 0⟩, ⟨cell_lit q5 rfl, frozen_lit q5 1⟩, ⟨cell_lit r6 rfl, cell_lit r6 rfl⟩, cell_lit q6 rfl, cell_lit q6 rfl⟩
theorem StR.form {w : World} {v : Value} {C : List RCk} {L : List REn} (h : StR w v C L) : ∃ a c b d, v = .agg #[.slice a C.length c, .slice b L.length d] := by
  obtain ⟨va, vl, rfl, h2, h3⟩ := h
  obtain ⟨a, c, rfl, -⟩ := h2.form
  obtain ⟨b, d, rfl, -⟩ := h3.form
  exact ⟨a, c, b, d, rfl⟩
theorem Keep_rc (v : Value) (C : List RCk) (L : List REn) (t : ByteArray) (w : World) (h : StR w v C L) (hC : C.length ≤ 99999) (hL : L.length ≤ 1000000) (ht1 : 1 ≤ t.size) (ht2 : t.size ≤ 128) (C' : List RCk) (id : ByteArray) (fr : Bool) (hput : putR C t = (C', id, fr, 0)) :
    Calls Tryz.prog 79 #[v, .string t] w fun e w' => ∃ v', e = .returned (.tuple #[v', .agg #[.string id, .int .i64 (t.size : Int)], .int .i64 0]) ∧ Hid ((StR w' v' C' (L ++ [(id, 1)]) ∧ Below w.heap.size w w') ∧ ∀ D, StLoc D v → StLoc (fun b => D b ∨ w.heap.size ≤ b) v') := by
  have HC' : C'.length ≤ C.length + 1 := by
    unfold putR at hput
    split at hput
    · simp only [Prod.mk.injEq] at hput; omega
    · split at hput
      · simp only [Prod.mk.injEq] at hput; rw [← hput.1]; omega
      · split at hput
        · simp only [Prod.mk.injEq] at hput; rw [← hput.1, ins_len]; omega
        · simp only [Prod.mk.injEq] at hput; omega
  obtain ⟨c0, hf⟩ := putR_fnd hput
  have HST := Lib.hid h
  obtain ⟨a0, n0, b0, m0, rfl⟩ := h.form
  obtain ⟨wb, hwb⟩ : ∃ x, ((w.alloc (.cells #[.slice a0 C.length n0, .slice b0 L.length m0] 52)).alloc (.cells #[.slice none 0 0, .slice none 0 0] 52)).alloc (.cells #[.string ⟨#[]⟩, .int .i64 0] 57) = x := ⟨_, rfl⟩
  have hbw := BoxW.start w (.slice a0 C.length n0) (.slice b0 L.length m0)
  have hb3 := hbw.below ((Below.refl _ _).alloc (Nat.le_refl _) (.cells #[.string ⟨#[]⟩, .int .i64 0] 57))
  rw [hwb] at hb3
  have hq3 : wb.heap[w.heap.size + 2]? = some (.cells #[.string ⟨#[]⟩, .int .i64 0] 57 (0, 0)) := by
    rw [← hwb]
    have := heap_alloc_new ((w.alloc (.cells #[.slice a0 C.length n0, .slice b0 L.length m0] 52)).alloc (.cells #[.slice none 0 0, .slice none 0 0] 52)) (.cells #[.string ⟨#[]⟩, .int .i64 0] 57)
    simpa using this
  have PT := Put_rc (.agg #[.slice a0 C.length n0, .slice b0 L.length m0]) C L t wb (HST.out.below hb3.bel) (by omega) ht1 ht2
  rw [hput] at PT
  simp only at PT
  obtain ⟨x0, x1, x2, x3, x4⟩ := hb3.cells
  have HB3 := Lib.hid hb3
  have HQ3 := Lib.hid hq3
  have HAD : Hid (∀ v2 W, StR W v2 C' L → Calls Tryz.prog 99 #[v2, .string id, .int .i64 1] W fun e w' => ∃ v', e = .returned (.tuple #[v', .int .i64 0]) ∧ Hid ((StR w' v' C' (L ++ [(id, 1)]) ∧ Below W.heap.size W w') ∧ ∀ D, StLoc D v2 → StLoc (fun b => D b ∨ W.heap.size ≤ b) v')) := Lib.hid fun v2 W hW =>
    Add_rc1 v2 C' L id 1 W hW (by omega) hL (.inl rfl) c0 hf
  clear hbw hb3 hq3 hput hf HC' hC hL h ht1
  have htl : t.size ≤ 128 := ht2
  clear ht2
  go_enter Tryz.func79, Tryz.ntmps79
  go_wp2_with fail
  refine PT.mono ?_
  rintro e w2 ⟨v2, rfl, H2⟩
  obtain ⟨a1, n1, b1, m1, rfl⟩ := H2.out.1.1.form
  obtain ⟨w3, hw3⟩ : ∃ x, w2.alloc (.cells #[.slice a1 C'.length n1, .slice b1 L.length m1] 52) = x := ⟨_, rfl⟩
  have hn3 : w3.heap[w2.heap.size]? = some (.cells #[.slice a1 C'.length n1, .slice b1 L.length m1] 52 (0, 0)) := by
    rw [← hw3]
    exact heap_alloc_new w2 _
  have hb23 : Below w2.heap.size w2 w3 := by
    rw [← hw3]
    exact (Below.refl _ _).alloc (Nat.le_refl _) _
  have AD := HAD.out _ w3 (H2.out.1.1.below hb23)
  have y0 := cell_lit hn3 (i := 0) rfl
  have y1 := cell_lit hn3 (i := 1) rfl
  have HBX : Hid (BoxW w (.slice a0 C.length n0) (.slice b0 L.length m0) w3 ∧ w3.heap[w.heap.size + 1 + 1]? = some (.cells #[.string ⟨#[]⟩, .int .i64 0] 57 (0, 0))) := Lib.hid (by
    have hb := H2.out.1.2.trans (hb23.mono H2.out.1.2.size)
    exact ⟨HB3.out.below hb, (hb.block _ (lt_of_heap HQ3.out)).trans HQ3.out⟩)
  have HN3 := Lib.hid hn3
  have HL2 := Lib.hid (show w.heap.size + 2 < w2.heap.size from Nat.lt_of_lt_of_le (lt_of_heap HQ3.out) H2.out.1.2.size)
  have hwbs : wb.heap.size = w.heap.size + 3 := by rw [← hwb]; simp
  have HLOC : Hid (∀ D, (∀ b, D b → b < w.heap.size) → StLoc D (.agg #[.slice a0 C.length n0, .slice b0 L.length m0]) → StLoc (fun b => (D b ∨ w.heap.size + 3 ≤ b) ∧ b < w2.heap.size) (.agg #[.slice a1 C'.length n1, .slice b1 L.length m1])) := Lib.hid fun D _ hD => by
    have := (H2.out.2 D hD).and H2.out.1.1.lt
    rwa [hwbs] at this
  have HLAX : Hid (∀ D, StLoc D (.agg #[.slice a0 C.length n0, .slice b0 L.length m0]) → StLoc (fun b => D b ∨ w.heap.size ≤ b) (.agg #[.slice a1 C'.length n1, .slice b1 L.length m1])) := Lib.hid fun D hD => (H2.out.2 D hD).mono fun b hb => hb.imp (fun h => h) fun h => by omega
  have HW3 : Hid (w2.heap.size < w3.heap.size ∧ w.heap.size ≤ w3.heap.size ∧ Below w.heap.size w w3) := Lib.hid ⟨lt_of_heap hn3, by have := HBX.out.1.bel.size; omega, HBX.out.1.bel⟩
  clear PT HAD H2 hn3 hb23 HB3 HQ3 hwb x0 x1 x2 x3 x4 hwbs
  go_wp2_with fail
  refine AD.mono ?_
  rintro e w4 ⟨v4, rfl, H4⟩
  obtain ⟨a2, n2, b2, m2, rfl⟩ := H4.out.1.1.form
  obtain ⟨⟨f0, f1, f2, f3⟩, ⟨f4, f5, f6, f7⟩, ⟨f8, f9⟩, ⟨fa, fb⟩, ⟨fc, fd⟩, ⟨fe, ff⟩, fg, fh⟩ := three_sets ((H4.out.1.2.block _ (lt_of_heap HN3.out)).trans HN3.out) ((H4.out.1.2.block _ (lt_of_heap HBX.out.1.r)).trans HBX.out.1.r) ((H4.out.1.2.block _ (lt_of_heap HBX.out.2)).trans HBX.out.2) (by have := HL2.out; omega) (by have := HL2.out; omega) (by omega) (.slice a2 C'.length n2) (.slice b2 (L ++ [(id, 1)]).length m2) (.string id) (.int .i64 (t.size : Int))
  have HG : Hid ((StR ((((((w4.setCell ⟨w2.heap.size, 0, none⟩ (.slice a2 C'.length n2)).setCell ⟨w2.heap.size, 1, none⟩ (.slice b2 (L ++ [(id, 1)]).length m2)).setCell ⟨w.heap.size + 1, 0, none⟩ (.slice a2 C'.length n2)).setCell ⟨w.heap.size + 1, 1, none⟩ (.slice b2 (L ++ [(id, 1)]).length m2)).setCell ⟨w.heap.size + 1 + 1, 0, none⟩ (.string id)).setCell ⟨w.heap.size + 1 + 1, 1, none⟩ (.int .i64 (t.size : Int))) (.agg #[.slice a2 C'.length n2, .slice b2 (L ++ [(id, 1)]).length m2]) C' (L ++ [(id, 1)]) ∧ Below w.heap.size w ((((((w4.setCell ⟨w2.heap.size, 0, none⟩ (.slice a2 C'.length n2)).setCell ⟨w2.heap.size, 1, none⟩ (.slice b2 (L ++ [(id, 1)]).length m2)).setCell ⟨w.heap.size + 1, 0, none⟩ (.slice a2 C'.length n2)).setCell ⟨w.heap.size + 1, 1, none⟩ (.slice b2 (L ++ [(id, 1)]).length m2)).setCell ⟨w.heap.size + 1 + 1, 0, none⟩ (.string id)).setCell ⟨w.heap.size + 1 + 1, 1, none⟩ (.int .i64 (t.size : Int)))) ∧ ∀ D, StLoc D (.agg #[.slice a0 C.length n0, .slice b0 L.length m0]) → StLoc (fun b => D b ∨ w.heap.size ≤ b) (.agg #[.slice a2 C'.length n2, .slice b2 (L ++ [(id, 1)]).length m2])) := Lib.hid (by
    have hl2 := HL2.out
    have hw3 := HW3.out
    have hloc := H4.out.2 _ (HLOC.out (fun b => b < w.heap.size) (fun b hb => hb) HST.out.lt)
    have q0 : ¬ (((w2.heap.size < w.heap.size ∨ w.heap.size + 3 ≤ w2.heap.size) ∧ w2.heap.size < w2.heap.size) ∨ w3.heap.size ≤ w2.heap.size) := by omega
    have q1 : ¬ (((w.heap.size + 1 < w.heap.size ∨ w.heap.size + 3 ≤ w.heap.size + 1) ∧ w.heap.size + 1 < w2.heap.size) ∨ w3.heap.size ≤ w.heap.size + 1) := by omega
    have q2 : ¬ (((w.heap.size + 1 + 1 < w.heap.size ∨ w.heap.size + 3 ≤ w.heap.size + 1 + 1) ∧ w.heap.size + 1 + 1 < w2.heap.size) ∨ w3.heap.size ≤ w.heap.size + 1 + 1) := by omega
    refine ⟨⟨(((((H4.out.1.1.setLoc hloc q0 _).setLoc hloc q0 _).setLoc hloc q1 _).setLoc hloc q1 _).setLoc hloc q2 _).setLoc hloc q2 _, ?_⟩, fun D hD => (H4.out.2 _ (HLAX.out D hD)).mono fun b hb => ?_⟩
    · have hb := hw3.2.2.trans (H4.out.1.2.mono hw3.2.1)
      exact (((((hb.setCell (p := ⟨w2.heap.size, 0, none⟩) (by show w.heap.size ≤ w2.heap.size; omega) _).setCell (p := ⟨w2.heap.size, 1, none⟩) (by show w.heap.size ≤ w2.heap.size; omega) _).setCell (p := ⟨w.heap.size + 1, 0, none⟩) (by show w.heap.size ≤ w.heap.size + 1; omega) _).setCell (p := ⟨w.heap.size + 1, 1, none⟩) (by show w.heap.size ≤ w.heap.size + 1; omega) _).setCell (p := ⟨w.heap.size + 1 + 1, 0, none⟩) (by show w.heap.size ≤ w.heap.size + 1 + 1; omega) _).setCell (p := ⟨w.heap.size + 1 + 1, 1, none⟩) (by show w.heap.size ≤ w.heap.size + 1 + 1; omega) _
    · rcases hb with hb | hb
      · exact hb
      · exact .inr (by omega))
  clear AD H4 HN3 HBX HLOC HLAX HW3 y0 y1
  generalize (L ++ [(id, 1)]).length = ll at *
  go_wp2_with fail
  (try simp only [Exit.inBlock, Exit.then])
  refine bodyPost_ret (v := .tuple #[.agg #[.slice a2 C'.length n2, .slice b2 ll m2], .agg #[.string id, .int .i64 (t.size : Int)], .int .i64 0]) ?_ rfl ⟨_, rfl, HG⟩
  rw [results_cell2_tmp rfl]
  go_simp
theorem results_cell1 {fn : Func} {p : Tmp} {ty : TypeId} (h : fn.results = #[.cell p ty]) (tmps : Array Value) (P : Program) (w : World) :
    (results fn tmps).run P w = ((asAddr (tmps.getD p undef)).run P w).andThen fun a w₁ => (loadVar ty a).run P w₁ := by
  simp only [results, h]
  simp [Sem.run_bind, Result.andThen]
def pwR (n : Nat) : Int × Int := if n % 4 = 0 then (1, 0) else if n % 4 = 1 then (0, 1) else if n % 4 = 2 then (-1, 0) else (0, -1)
theorem Power_rc (n : Nat) (w : World) (h : n < 8) : Calls Tryz.prog 187 #[.int .i64 (n : Int)] w fun e w' => e = .returned (.agg #[.int .i64 (pwR n).1, .int .i64 (pwR n).2]) ∧ Hid (Below w.heap.size w w') := by
  have hb : ∀ x y : Value, Below w.heap.size w (w.alloc (.cells #[x, y] 233)) := fun x y => (Below.refl _ _).alloc (Nat.le_refl _) _
  have HB := Lib.hid hb
  clear hb
  have h8 : n = 0 ∨ n = 1 ∨ n = 2 ∨ n = 3 ∨ n = 4 ∨ n = 5 ∨ n = 6 ∨ n = 7 := by omega
  clear h
  rcases h8 with rfl | rfl | rfl | rfl | rfl | rfl | rfl | rfl
  all_goals (
    go_enter Tryz.func187, Tryz.ntmps187
    go_wp2_with fail
    (try simp only [Exit.inBlock, Exit.then])
    refine bodyPost_ret ?_ rfl ⟨rfl, Lib.hid (HB.out _ _)⟩
    rw [results_cell1 rfl]
    go_simp
    exact ⟨rfl, rfl⟩)
theorem Cell_rc (a b : Int) (w : World) (ha : -100000 ≤ a ∧ a ≤ 100000) (hb : -100000 ≤ b ∧ b ≤ 100000) : Calls Tryz.prog 137 #[.agg #[.int .i64 a, .int .i64 b], .int .i64 16] w fun e w' => e = .returned (.int .i64 ((a + 3 * b) % 16)) ∧ Hid (Below w.heap.size w w') := by
  have HB : Hid (Below w.heap.size w (w.alloc (.cells #[.int .i64 a, .int .i64 b] 233))) := Lib.hid ((Below.refl _ _).alloc (Nat.le_refl _) _)
  obtain ⟨s, hs⟩ : ∃ s, a + 3 * b = s := ⟨_, rfl⟩
  obtain ⟨r, hr⟩ : ∃ r, Int.tmod s 16 = r := ⟨_, rfl⟩
  have hr1 : -16 < r ∧ r < 16 := by rw [← hr]; exact ⟨Int.lt_tmod_of_pos s (by decide), Int.tmod_lt_of_pos s (by decide)⟩
  have hr2 : r % 16 = s % 16 := by have := Int.mul_tdiv_add_tmod s 16; rw [hr] at this; omega
  have HF : Hid ((wrap64 (s.tmod 16 + 16)).tmod 16 = s % 16) := Lib.hid (by
    rw [hr]
    have w2 : wrap64 (r + 16) = r + 16 := by clear hr hr2; unfold wrap64; omega
    rw [w2, Int.tmod_eq_emod_of_nonneg (by omega)]
    clear w2 hr
    omega)
  have HE := Lib.hid hs
  clear hr hr1 hr2
  go_enter Tryz.func137, Tryz.ntmps137
  go_wp2_with fail
  go_ret
  exact ⟨congrArg (fun z => Ending.returned (.int .i64 z)) (by rw [HE.out]; exact HF.out), HB⟩
def zK (l : List UInt8) : Nat → Int × Int
  | 0 => (0, 0)
  | k + 1 => ((zK l k).1 + ((l.getD k 0).toNat : Int) * (pwR (7 - k)).1, (zK l k).2 + ((l.getD k 0).toNat : Int) * (pwR (7 - k)).2)
theorem zK_eight (l : List UInt8) (h : l.length = 8) : zK l 8 = zsL l := by
  match l, h with
  | [a, b, c, d, e, f, g, i], _ =>
    simp only [zK, zsL, zsF, List.foldl, List.getD, pwR]
    simp
    omega
theorem pwR_lt (n : Nat) : (-1 ≤ (pwR n).1 ∧ (pwR n).1 ≤ 1) ∧ -1 ≤ (pwR n).2 ∧ (pwR n).2 ≤ 1 := by
  unfold pwR; split <;> (try split) <;> (try split) <;> decide
theorem mul_sm (c : Nat) (p : Int) (hc : c < 256) (hp : -1 ≤ p ∧ p ≤ 1) : -255 ≤ (c : Int) * p ∧ (c : Int) * p ≤ 255 := by
  have : p = -1 ∨ p = 0 ∨ p = 1 := by omega
  rcases this with rfl | rfl | rfl <;> omega
theorem zK_abs (l : List UInt8) : ∀ k : Nat, (-(255 * k : Int) ≤ (zK l k).1 ∧ (zK l k).1 ≤ 255 * k) ∧ -(255 * k : Int) ≤ (zK l k).2 ∧ (zK l k).2 ≤ 255 * k
  | 0 => by simp [zK]
  | k + 1 => by
    have ih := zK_abs l k
    have h := pwR_lt (7 - k)
    have h1 := mul_sm (l.getD k 0).toNat (pwR (7 - k)).1 (UInt8.toNat_lt _) h.1
    have h2 := mul_sm (l.getD k 0).toNat (pwR (7 - k)).2 (UInt8.toNat_lt _) h.2
    simp only [zK]
    push_cast
    omega
theorem wrapI64 (x : Int) (h0 : -9223372036854775808 ≤ x) (h1 : x < 9223372036854775808) : IntKind.i64.wrap x = x := by
  simp [IntKind.wrap, IntKind.bits, IntKind.signed]
  omega
structure SmAt (w : World) (L : List UInt8) (k : Nat) (wr : World) : Prop where
  r : wr.heap[w.heap.size]? = some (.cells #[.int .i64 0, .int .i64 0] 233 (0, 0))
  z : wr.heap[w.heap.size + 1]? = some (.cells #[.int .i64 (zK L k).1, .int .i64 (zK L k).2] 233 (0, 0))
  bel : Below w.heap.size w wr
theorem SmAt.drew {w wr : World} {L : List UInt8} {k : Nat} (h : SmAt w L k wr) : SmAt w L k wr.drew := ⟨h.r, h.z, h.bel.drew⟩
theorem Sum_rc (s : ByteArray) (w : World) (hs : s.size = 8) : Calls Tryz.prog 138 #[.string s] w fun e w' => e = .returned (.agg #[.int .i64 (zsL s.data.toList).1, .int .i64 (zsL s.data.toList).2]) ∧ Hid (Below w.heap.size w w') := by
  have hl : s.data.toList.length = 8 := by rw [← Lib.size_eq]; exact hs
  have HZ := Lib.hid (zK_eight _ hl)
  obtain ⟨wb, hwb⟩ : ∃ x, (w.alloc (.cells #[.int .i64 0, .int .i64 0] 233)).alloc (.cells #[.int .i64 0, .int .i64 0] 233) = x := ⟨_, rfl⟩
  have hbs : wb.heap.size = w.heap.size + 2 := by rw [← hwb]; simp
  have R0 : Hid (SmAt w s.data.toList 0 wb) := Lib.hid (by
    have h1 : Below w.heap.size w (w.alloc (.cells #[.int .i64 0, .int .i64 0] 233)) := (Below.refl _ _).alloc (Nat.le_refl _) _
    have h2 := heap_alloc_new w (.cells #[.int .i64 0, .int .i64 0] 233)
    have h3 := heap_alloc_new (w.alloc (.cells #[.int .i64 0, .int .i64 0] 233)) (.cells #[.int .i64 0, .int .i64 0] 233)
    rw [← hwb]
    refine ⟨?_, ?_, h1.alloc h1.size _⟩
    · rw [heap_alloc_lt _ (by simp)]; exact h2
    · simpa [zK] using h3)
  have hn : (s.size : Int) = 8 := by omega
  have HS := Lib.hid hs
  obtain ⟨L, hL⟩ : ∃ x, s.data.toList = x := ⟨_, rfl⟩
  rw [hL] at HZ R0
  have HL := Lib.hid hL
  rw [hL]
  clear hl hs hL hbs
  go_enter Tryz.func138, Tryz.ntmps138
  go_wp2_with fail
  clear hwb hn
  go_loopg [5] 8 (fun g s5 wr => ∃ (k : Nat), g = 8 - k ∧ k ≤ 8 ∧ s5 = .int .i64 (k : Int) ∧ Hid (SmAt w L k wr))
  case atStart => exact ⟨0, rfl, Nat.zero_le _, rfl, R0⟩
  case round =>
    obtain ⟨k, rfl, hk, rfl, HR⟩ := hrel
    clear R0
    by_cases hlt : k < 8
    · obtain ⟨c, hc⟩ : ∃ c : UInt8, s[k]? = some c := ⟨_, getElem?_pos _ k (by have := HS.out; omega)⟩
      have hidx := fun W => strIdx (P := Tryz.prog) 9 s k c Tryz.underlying9 hc W
      have hcd : L.getD k 0 = c := by
        have h1 : k < s.size := by have := HS.out; omega
        rw [getElem?_pos _ k h1] at hc
        unfold List.getD
        rw [← HL.out, List.getElem?_eq_getElem (by rw [← Lib.size_eq]; exact h1)]
        exact Option.some.inj hc
      obtain ⟨e, he⟩ : ∃ e, 7 - k = e := ⟨_, rfl⟩
      have PW := fun W => Power_rc e W (by omega)
      have hp := pwR_lt e
      have hz := zK_abs L k
      have HNX : Hid (zK L (k + 1) = ((zK L k).1 + (c.toNat : Int) * (pwR e).1, (zK L k).2 + (c.toNat : Int) * (pwR e).2)) := Lib.hid (by rw [← he, ← hcd]; rfl)
      have m1 := mul_sm c.toNat (pwR e).1 c.toNat_lt hp.1
      have m2 := mul_sm c.toNat (pwR e).2 c.toNat_lt hp.2
      have hcb := c.toNat_lt
      have hke : (7 : Int) - (k : Int) = (e : Int) := by omega
      have PW2 : ∀ W, Calls Tryz.prog 187 #[.int .i64 (7 - (k : Int))] W fun e_1 w' => e_1 = .returned (.agg #[.int .i64 (pwR e).1, .int .i64 (pwR e).2]) ∧ Hid (Below W.heap.size W w') := fun W => by rw [hke]; exact PW W
      have HLT := Lib.hid hlt
      obtain ⟨pr, hpr⟩ : ∃ x, (pwR e).1 = x := ⟨_, rfl⟩
      obtain ⟨pi, hpi⟩ : ∃ x, (pwR e).2 = x := ⟨_, rfl⟩
      obtain ⟨zr, hzr⟩ : ∃ x, (zK L k).1 = x := ⟨_, rfl⟩
      obtain ⟨zi, hzi⟩ : ∃ x, (zK L k).2 = x := ⟨_, rfl⟩
      obtain ⟨cn, hcn⟩ : ∃ x, c.toNat = x := ⟨_, rfl⟩
      rw [hpr, hpi] at PW2
      rw [hpr, hpi, hzr, hzi, hcn] at HNX
      rw [hpr, hcn] at m1
      rw [hpi, hcn] at m2
      rw [hzr, hzi] at hz
      rw [hcn] at hidx hcb
      have HRR : Hid (wr.heap[w.heap.size]? = some (.cells #[.int .i64 0, .int .i64 0] 233 (0, 0))) := Lib.hid HR.out.r
      have HRZ : Hid (wr.heap[w.heap.size + 1]? = some (.cells #[.int .i64 zr, .int .i64 zi] 233 (0, 0))) := Lib.hid (by rw [← hzr, ← hzi]; exact HR.out.z)
      have HRB := Lib.hid HR.out.bel
      have hW : Hid ((IntKind.i64.wrap (cn : Int) = (cn : Int) ∧ IntKind.i64.wrap ((cn : Int) * pr) = (cn : Int) * pr ∧ IntKind.i64.wrap ((cn : Int) * pi) = (cn : Int) * pi) ∧ IntKind.i64.wrap (zr + (cn : Int) * pr) = zr + (cn : Int) * pr ∧ IntKind.i64.wrap (zi + (cn : Int) * pi) = zi + (cn : Int) * pi) := Lib.hid ⟨⟨wrapI64 _ (by omega) (by omega), wrapI64 _ (by omega) (by omega), wrapI64 _ (by omega) (by omega)⟩, wrapI64 _ (by omega) (by omega), wrapI64 _ (by omega) (by omega)⟩
      clear PW hp hz m1 m2 hcb hke hcd hc hpr hpi hzr hzi hcn HR he hk
      go_wp2_with fail
      refine (PW2 _).mono ?_
      rintro e_1 w2 ⟨rfl, H2⟩
      clear PW2 hlt
      obtain ⟨w3, hw3⟩ : ∃ x, w2.alloc (.cells #[.int .i64 pr, .int .i64 pi] 233) = x := ⟨_, rfl⟩
      have hb23 : Below w2.heap.size w2 w3 := by rw [← hw3]; exact (Below.refl _ _).alloc (Nat.le_refl _) _
      have hp3 : w3.heap[w2.heap.size]? = some (.cells #[.int .i64 pr, .int .i64 pi] 233 (0, 0)) := by rw [← hw3]; exact heap_alloc_new _ _
      have hbw := H2.out.trans (hb23.mono H2.out.size)
      have hz3 := (hbw.block _ (lt_of_heap HRZ.out)).trans HRZ.out
      have hr3 := (hbw.block _ (lt_of_heap HRR.out)).trans HRR.out
      have hne : w2.heap.size ≠ w.heap.size + 1 := by have := lt_of_heap HRZ.out; have := H2.out.size; omega
      have hz4 := heap_set_lit (i := 0) hz3 (.int .i64 (zr + (cn : Int) * pr))
      have hz5 := heap_set_lit (i := 1) hz4 (.int .i64 (zi + (cn : Int) * pi))
      have cp0 := cell_lit hp3 (i := 0) rfl
      have cp1 := cell_lit hp3 (i := 1) rfl
      have cz0 := cell_lit hz3 (i := 0) rfl
      have fz0 := frozen_lit hz3 0
      have cz1 := cell_lit hz4 (i := 1) rfl
      have fz1 := frozen_lit hz4 1
      have HCP : Hid (∀ x, (w3.setCell ⟨w.heap.size + 1, 0, none⟩ x).cell? ⟨w2.heap.size, 0, none⟩ = some (.int .i64 pr) ∧ (w3.setCell ⟨w.heap.size + 1, 0, none⟩ x).cell? ⟨w2.heap.size, 1, none⟩ = some (.int .i64 pi)) := Lib.hid fun x => by
        have hh : (w3.setCell ⟨w.heap.size + 1, 0, none⟩ x).heap[w2.heap.size]? = w3.heap[w2.heap.size]? := heap_set_ne _ hne
        rw [hp3] at hh
        exact ⟨cell_lit hh rfl, cell_lit hh rfl⟩
      have HCQ : Hid (∀ x y, ((w3.setCell ⟨w.heap.size + 1, 0, none⟩ x).setCell ⟨w.heap.size + 1, 1, none⟩ y).cell? ⟨w2.heap.size, 0, none⟩ = some (.int .i64 pr) ∧ ((w3.setCell ⟨w.heap.size + 1, 0, none⟩ x).setCell ⟨w.heap.size + 1, 1, none⟩ y).cell? ⟨w2.heap.size, 1, none⟩ = some (.int .i64 pi)) := Lib.hid fun x y => by
        have hh : ((w3.setCell ⟨w.heap.size + 1, 0, none⟩ x).setCell ⟨w.heap.size + 1, 1, none⟩ y).heap[w2.heap.size]? = w3.heap[w2.heap.size]? := (heap_set_ne _ hne).trans (heap_set_ne _ hne)
        rw [hp3] at hh
        exact ⟨cell_lit hh rfl, cell_lit hh rfl⟩
      have HN : Hid (SmAt w L (k + 1) ((w3.setCell ⟨w.heap.size + 1, 0, none⟩ (.int .i64 (zr + (cn : Int) * pr))).setCell ⟨w.heap.size + 1, 1, none⟩ (.int .i64 (zi + (cn : Int) * pi)))) := Lib.hid (by
        have hb := HRB.out.trans (hbw.mono HRB.out.size)
        refine ⟨((heap_set_ne _ (by omega)).trans (heap_set_ne _ (by omega))).trans hr3, ?_, (hb.setCell (p := ⟨w.heap.size + 1, 0, none⟩) (by show w.heap.size ≤ w.heap.size + 1; omega) _).setCell (p := ⟨w.heap.size + 1, 1, none⟩) (by show w.heap.size ≤ w.heap.size + 1; omega) _⟩
        rw [HNX.out]; exact hz5)
      have hlt8 : k < s.size := by have := HLT.out; have := HS.out; omega
      obtain ⟨⟨q0, q1, q2⟩, q3, q4⟩ := hW.out
      clear H2 hb23 hp3 hbw hz3 hr3 hne hz4 hz5 hW HRR HRZ HRB
      go_wp2_with fail
      refine wp_region_noPanic ?_
      refine wp_region_held_drew (S := (fun (w' : World) => w'.cell? ⟨w2.heap.size, 0, none⟩ = some (.int .i64 pr) ∧ w'.cell? ⟨w2.heap.size, 1, none⟩ = some (.int .i64 pi))) (by kernel_rfl) ?_ (fun hHeld => ?_)
      · exact ⟨cp0, cp1⟩
      refine' tkH 0 rfl ?_
      try simp only [Act.put, List.setIfInBounds_toArray, List.set_cons_zero, List.set_cons_succ, List.getElem_toArray, List.getElem_cons_zero]
      refine' tkH 2 rfl ?_; try simp only [Act.put, awL]
      refine' tkH 3 rfl ?_; try simp only [Act.put, awL]
      refine' tkH 4 rfl ?_; try simp only [Act.put, awL]
      refine' tkH 5 rfl ?_; try simp only [Act.put, awL]
      refine' tkH 6 rfl ?_; try simp only [Act.put, awL]
      refine' tkH 7 rfl ?_; try simp only [Act.put, awL]
      refine' tkH 8 rfl ?_; try simp only [Act.put, awL]
      refine wpAnyH_ready (rs := [1]) (by kernel_rfl) (by simp) ?_
      refine AllReadyH.cons rfl (fun K hK => ?_) AllReadyH.nil
      go_simp
      refine hK.out _ _ ?_ (fun hHeld => ?_)
      · exact ⟨cp0, cp1⟩
      clear hK K
      try simp only [Act.put, awL]
      refine' tkH 9 rfl ?_; try simp only [Act.put, awL]
      refine' tkH 10 rfl ?_; try simp only [Act.put, awL]
      refine wpAnyH_ready (rs := [11]) (by kernel_rfl) (by simp) ?_
      refine AllReadyH.cons rfl (fun K hK => ?_) AllReadyH.nil
      go_simp
      refine hK.out _ _ ?_ (fun hHeld => ?_)
      · exact HCP.out _
      clear hK K
      try simp only [Act.put, awL]
      refine wpAnyH_done (by kernel_rfl) ?_ _
      refine NoPanic.normal ?_
      go_wp2_with fail
      refine wp_region_noPanic ?_
      refine wp_region_held_drew (S := (fun (w' : World) => w'.cell? ⟨w2.heap.size, 0, none⟩ = some (.int .i64 pr) ∧ w'.cell? ⟨w2.heap.size, 1, none⟩ = some (.int .i64 pi))) (by kernel_rfl) ?_ (fun hHeld => ?_)
      · exact HCP.out _
      refine' tkH 0 rfl ?_
      try simp only [Act.put, List.setIfInBounds_toArray, List.set_cons_zero, List.set_cons_succ, List.getElem_toArray, List.getElem_cons_zero]
      refine' tkH 2 rfl ?_; try simp only [Act.put, awL]
      refine' tkH 3 rfl ?_; try simp only [Act.put, awL]
      refine' tkH 4 rfl ?_; try simp only [Act.put, awL]
      refine' tkH 5 rfl ?_; try simp only [Act.put, awL]
      refine' tkH 6 rfl ?_; try simp only [Act.put, awL]
      refine' tkH 7 rfl ?_; try simp only [Act.put, awL]
      refine' tkH 8 rfl ?_; try simp only [Act.put, awL]
      refine wpAnyH_ready (rs := [1]) (by kernel_rfl) (by simp) ?_
      refine AllReadyH.cons rfl (fun K hK => ?_) AllReadyH.nil
      go_simp
      refine hK.out _ _ ?_ (fun hHeld => ?_)
      · exact HCP.out _
      clear hK K
      try simp only [Act.put, awL]
      refine' tkH 9 rfl ?_; try simp only [Act.put, awL]
      refine' tkH 10 rfl ?_; try simp only [Act.put, awL]
      refine wpAnyH_ready (rs := [11]) (by kernel_rfl) (by simp) ?_
      refine AllReadyH.cons rfl (fun K hK => ?_) AllReadyH.nil
      go_simp
      refine hK.out _ _ ?_ (fun hHeld => ?_)
      · exact HCQ.out _ _
      clear hK K
      try simp only [Act.put, awL]
      refine wpAnyH_done (by kernel_rfl) ?_ _
      refine NoPanic.normal ?_
      go_wp2_with fail
      go_roundg (8 - (k + 1))
      case measure => have := HLT.out; omega
      case rel => exact ⟨k + 1, rfl, HLT.out, by congr 1, Lib.hid HN.out.drew.drew⟩
    · obtain rfl : k = 8 := by omega
      have hz := HR.out.z
      rw [HZ.out] at hz
      have cz0 := cell_lit hz (i := 0) rfl
      have cz1 := cell_lit hz (i := 1) rfl
      have hr0 := HR.out.r
      have cr0 := cell_lit hr0 (i := 0) rfl
      have fr0 := frozen_lit hr0 0
      have h1 := heap_set_lit (i := 0) hr0 (.int .i64 (zsL L).1)
      have cr1 := cell_lit h1 (i := 1) rfl
      have fr1 := frozen_lit h1 1
      have h2 := heap_set_lit (i := 1) h1 (.int .i64 (zsL L).2)
      have cs0 := cell_lit h2 (i := 0) rfl
      have cs1 := cell_lit h2 (i := 1) rfl
      have HG : Hid (Below w.heap.size w ((wr.setCell ⟨w.heap.size, 0, none⟩ (.int .i64 (zsL L).1)).setCell ⟨w.heap.size, 1, none⟩ (.int .i64 (zsL L).2))) := Lib.hid ((HR.out.bel.setCell (p := ⟨w.heap.size, 0, none⟩) (Nat.le_refl _) _).setCell (p := ⟨w.heap.size, 1, none⟩) (Nat.le_refl _) _)
      clear HR hz hr0 h1 h2 hk hlt
      go_wp2_with fail
      (try simp only [Exit.inBlock, Exit.then])
      refine bodyPost_ret (v := .agg #[.int .i64 (zsL L).1, .int .i64 (zsL L).2]) ?_ rfl ⟨rfl, HG⟩
      rw [results_cell1 rfl]
      go_simp
theorem fold_acc (s : List UInt8) : ∀ (P Q : List (List UInt8)) (o : List UInt8), s.foldl stepC (P ++ Q, o) = (P ++ (s.foldl stepC (Q, o)).1, (s.foldl stepC (Q, o)).2) := by
  induction s with
  | nil => intro P Q o; rfl
  | cons c s ih =>
    intro P Q o
    simp only [List.foldl_cons, stepC]
    split
    · rw [List.append_assoc]; exact ih P _ _
    · exact ih P _ _
theorem fold_open {r : List UInt8} : ∀ j, j ≤ r.length → (∀ i, 1 ≤ i → i ≤ j → endL (r.take i) = false) → cutS (r.take j) = ([], r.take j)
  | 0, _, _ => rfl
  | j + 1, hj, h => by
    have ih := fold_open j (by omega) fun i h1 h2 => h i h1 (by omega)
    have e := List.take_succ_eq_append_getElem (l := r) (i := j) (by omega)
    rw [e]
    have := cutS_no (r := r.take j) (c := r[j]) (by rw [ih]; simp only; rw [← e, h (j + 1) (by omega) (Nat.le_refl _)]; simp)
    rw [this, ih]
def endAt (r : List UInt8) (n : Nat) : Bool := decide (n = r.length) || endL (r.take n)
theorem cut_first {r : List UInt8} {n : Nat} (h1 : 1 ≤ n) (h2 : n ≤ r.length) (he : endAt r n = true) (hno : ∀ j, 1 ≤ j → j < n → endAt r j = false) : cutT r = r.take n :: cutT (r.drop n) := by
  have hno2 : ∀ i, 1 ≤ i → i ≤ n - 1 → endL (r.take i) = false := fun i a b => by
    have := hno i a (by omega)
    unfold endAt at this
    rw [Bool.or_eq_false_iff] at this
    exact this.2
  have ho := fold_open (r := r) (n - 1) (by omega) hno2
  have e := List.take_succ_eq_append_getElem (l := r) (i := n - 1) (by omega)
  rw [show n - 1 + 1 = n by omega] at e
  by_cases hl : endL (r.take n) = true
  · have h3 : cutS (r.take n) = ([r.take n], []) := by
      have := cutS_yes (r := r.take (n - 1)) (c := r[n - 1]) (by rw [ho]; simp only; rw [← e]; exact hl)
      rw [← e, ho] at this
      simp only [List.nil_append, ← e] at this
      exact this
    have h4 : cutS r = ([r.take n] ++ (cutS (r.drop n)).1, (cutS (r.drop n)).2) := by
      have : cutS r = (r.drop n).foldl stepC (cutS (r.take n)) := by
        unfold cutS
        rw [← List.foldl_append, List.take_append_drop]
      rw [this, h3]
      have := fold_acc (r.drop n) [r.take n] [] []
      simpa [cutS] using this
    unfold cutT
    rw [h4]
    simp
  · have hn : n = r.length := by
      unfold endAt at he
      rw [Bool.or_eq_true] at he
      rcases he with he | he
      · simpa using he
      · exact absurd he hl
    have h3 : cutS r = ([], r) := by
      have := fold_open (r := r) n (by omega) fun i a b => by
        by_cases hi : i = n
        · subst hi; simpa using hl
        · exact hno2 i a (by omega)
      rw [hn, List.take_length] at this
      exact this
    unfold cutT
    rw [h3, hn, List.take_length, List.drop_length]
    have : r ≠ [] := fun e => by rw [e] at hn; simp at hn; omega
    simp [cutS, this]
def CuR (w : World) (A : List (List UInt8)) (v : Value) (wr : World) : Prop := wr.ownsRow w.heap.size 9 1 v A.length (partC A) ∧ Below w.heap.size w wr
theorem CuR.below {w wr w' : World} {A : List (List UInt8)} {v : Value} (h : CuR w A v wr) (hb : Below wr.heap.size wr w') : CuR w A v w' :=
  ⟨own_same h.1 fun j hj => hb.block j (h.1.lt j hj).2, h.2.trans (hb.mono h.2.size)⟩
def CutQ (w : World) (r : ByteArray) (A : List (List UInt8)) (v : Value) (n : Nat) (en : Bool) (wr : World) : Prop :=
  n ≤ r.size ∧ (∀ j, 1 ≤ j → j < n → endAt r.data.toList j = false) ∧ ((en = true → 1 ≤ n ∧ endAt r.data.toList n = true) ∧ (en = false → 1 ≤ n → endAt r.data.toList n = false)) ∧ CuR w A v wr
theorem RefCut_rc (s : ByteArray) (w : World) (hs : s.size ≤ 100000) :
    Calls Tryz.prog 78 #[.string s] w fun e w' => ∃ v, e = .returned v ∧ Hid (CuR w (cutT s.data.toList) v w') := by
  obtain ⟨jS, hjS, hS0, hS1, hS2⟩ := info_parts infoS
  obtain ⟨T, hT⟩ : ∃ x, cutT s.data.toList = x := ⟨_, rfl⟩
  have HTL : Hid (T.length ≤ 100000) := Lib.hid (by
    rw [← hT]
    have := (cutT_ok s.data.toList).2.2
    rw [← Lib.size_eq] at this; omega)
  have R0 : Hid ([] ++ cutT s.data.toList = T ∧ s.size ≤ 100000 ∧ CuR w [] (.slice none 0 0) w) := Lib.hid ⟨hT, hs, World.ownsRow_nil _ _ _ _, Below.refl _ _⟩
  rw [hT]
  clear hT hs
  go_enter Tryz.func78, Tryz.ntmps78
  go_wp2_with fail
  go_loopg [0, 3] s.size (fun g s0 s3 wr => ∃ (r : ByteArray) (A : List (List UInt8)) (v : Value), g = r.size ∧ s0 = .string r ∧ v = s3 ∧ Hid (A ++ cutT r.data.toList = T ∧ r.size ≤ 100000 ∧ CuR w A v wr))
  case atStart => exact ⟨s, [], _, rfl, rfl, rfl, R0⟩
  case round =>
    obtain ⟨r, A, v, rfl, rfl, rfl, HI⟩ := hrel
    clear R0
    by_cases hr0 : 0 < r.size
    · have HR0 := Lib.hid hr0
      have hrl : r.size ≤ 100000 := HI.out.2.1
      have R1 : Hid (CutQ w r A v 0 false wr) := Lib.hid ⟨Nat.zero_le _, fun j a b => absurd b (by omega), ⟨fun h => (by cases h), fun _ h => absurd h (by omega)⟩, HI.out.2.2⟩
      have HTT := Lib.hid HI.out.1
      clear HI
      go_wp2_with fail
      go_loopg [4, 5] r.size (fun g s4 s5 wr => ∃ (n : Nat) (en : Bool), g = r.size - n ∧ s4 = .int .i64 (n : Int) ∧ s5 = .bool en ∧ Hid (CutQ w r A v n en wr))
      case atStart => exact ⟨0, false, rfl, rfl, rfl, R1⟩
      case round =>
        obtain ⟨n, en, rfl, rfl, rfl, HI⟩ := hrel
        clear R1
        have hlr : r.data.toList.length = r.size := (Lib.size_eq r).symm
        cases en with
        | false =>
          obtain ⟨a1, a2, ⟨-, a3⟩, a4⟩ := HI.out
          have hn1 : n < r.size := by
            rcases Nat.lt_or_ge n r.size with h | h
            · exact h
            · exfalso
              have hn : n = r.size := by omega
              have := a3 rfl (by have := HR0.out; omega)
              unfold endAt at this
              rw [hlr, hn] at this
              simp at this
          have HNO : Hid (∀ j, 1 ≤ j → j < n + 1 → endAt r.data.toList j = false) := Lib.hid fun j b1 b2 => by
            by_cases e : j = n
            · subst e; exact a3 rfl b1
            · exact a2 j b1 (by omega)
          have HC := Lib.hid a4
          have HN1 := Lib.hid hn1
          have hnl : n ≤ 100000 := by omega
          clear a1 a2 a3 a4 HI
          by_cases hA : n + 1 = r.size
          · -- part 1 begins
            have HE : Hid (endAt r.data.toList (n + 1) = true) := Lib.hid (by unfold endAt; rw [hlr, hA]; simp)
            have e1 : ((n : Int) + 1 == (r.size : Int)) = true := by rw [show (n : Int) + 1 = (r.size : Int) by omega]; simp
            clear hA
            go_wp2_with fail
            go_roundg (r.size - (n + 1))
            case measure => have := HN1.out; omega
            case rel => exact ⟨n + 1, true, rfl, by congr 1, rfl, Lib.hid ⟨HN1.out, HNO.out, ⟨fun _ => ⟨by omega, HE.out⟩, fun h => (by cases h)⟩, HC.out⟩⟩
            -- part 1 ends
          · have e1 : ((n : Int) + 1 == (r.size : Int)) = false := by simp only [beq_eq_false_iff_ne, ne_eq]; omega
            have HEL : Hid (endAt r.data.toList (n + 1) = endL (r.data.toList.take (n + 1))) := Lib.hid (by unfold endAt; rw [hlr]; simp [hA])
            have htl : (r.data.toList.take (n + 1)).length = n + 1 := by rw [List.length_take, hlr]; omega
            by_cases hB : n + 1 = 128
            · -- part 2 begins
              have HE : Hid (endAt r.data.toList (n + 1) = true) := Lib.hid (by rw [HEL.out]; unfold endL; rw [htl, hB]; rfl)
              have e2 : ((n : Int) + 1 == 128) = true := by rw [show (n : Int) + 1 = 128 by omega]; rfl
              clear hA hB htl hlr HEL
              go_wp2_with fail
              go_roundg (r.size - (n + 1))
              case measure => have := HN1.out; omega
              case rel => exact ⟨n + 1, true, rfl, by congr 1, rfl, Lib.hid ⟨HN1.out, HNO.out, ⟨fun _ => ⟨by omega, HE.out⟩, fun h => (by cases h)⟩, HC.out⟩⟩
              -- part 2 ends
            · have e2 : ((n : Int) + 1 == 128) = false := by simp only [beq_eq_false_iff_ne, ne_eq]; omega
              by_cases hD : 16 ≤ n + 1
              · have e3 : decide ((n : Int) + 1 ≥ 16) = true := decide_eq_true (by omega)
                obtain ⟨m, hm⟩ : ∃ m, n + 1 - 8 = m := ⟨_, rfl⟩
                have hx8 : (r.extract m (n + 1)).size = 8 := by rw [ByteArray.size_extract]; omega
                have SM := fun W => Sum_rc (r.extract m (n + 1)) W hx8
                have hwin : (r.extract m (n + 1)).data.toList = win (r.data.toList.take (n + 1)) := by
                  unfold win
                  rw [htl, hm, ByteArray.data_extract, Array.toList_extract]
                  simp [List.extract_eq_take_drop, List.drop_take]
                rw [hwin] at SM
                have hab := zs_abs (win (r.data.toList.take (n + 1)))
                have hwl := win_len (r.data.toList.take (n + 1))
                have CL := fun W => Cell_rc (zsL (win (r.data.toList.take (n + 1)))).1 (zsL (win (r.data.toList.take (n + 1)))).2 W (by omega) (by omega)
                have HEC : Hid (endAt r.data.toList (n + 1) = decide (((zsL (win (r.data.toList.take (n + 1)))).1 + 3 * (zsL (win (r.data.toList.take (n + 1)))).2) % 16 = 0)) := Lib.hid (by
                  rw [HEL.out]; unfold endL cellL; rw [htl]; simp [hB, hD])
                generalize (zsL (win (r.data.toList.take (n + 1)))).1 = za at *
                generalize (zsL (win (r.data.toList.take (n + 1)))).2 = zb at *
                obtain ⟨cz, hcz⟩ : ∃ x, (za + 3 * zb) % 16 = x := ⟨_, rfl⟩
                rw [hcz] at CL HEC
                have q1 : IntKind.i64.wrap ((n : Int) + 1 - 8) = (m : Int) := by
                  rw [show (n : Int) + 1 - 8 = (m : Int) by omega]; exact wrap_small (x := (m : Int)) (by omega) (by omega)
                have q2 : (n : Int) + 1 - 8 = (m : Int) := by omega
                have hmn : m ≤ n + 1 := by omega
                have HBB : Hid (∀ W W2, Below wr.heap.size wr W → Below W.heap.size W W2 → CuR w A v W2) := Lib.hid fun W W2 h1 h2 => HC.out.below (h1.trans (h2.mono h1.size))
                obtain ⟨X, hX⟩ : ∃ X, r.extract m (n + 1) = X := ⟨_, rfl⟩
                rw [hX] at SM
                clear hA hB hD htl hlr HEL hab hwl hx8 hwin hm hcz
                go_wp2_with fail
                refine (SM _).mono ?_
                rintro e w2 ⟨rfl, H2⟩
                have CL2 := CL w2
                clear SM CL q1 q2
                go_wp2_with fail
                refine CL2.mono ?_
                rintro e w3 ⟨rfl, H3⟩
                have HC3 := Lib.hid (HBB.out w2 w3 H2.out H3.out)
                clear CL2 H2 H3 HBB
                by_cases hz : cz = 0
                · have d0 : (cz == 0) = true := by rw [hz]; rfl
                  have HE : Hid (endAt r.data.toList (n + 1) = true) := Lib.hid (by rw [HEC.out, hz]; rfl)
                  clear hz
                  go_wp2_with fail
                  go_roundg (r.size - (n + 1))
                  case measure => have := HN1.out; omega
                  case rel => exact ⟨n + 1, true, rfl, by congr 1, rfl, Lib.hid ⟨HN1.out, HNO.out, ⟨fun _ => ⟨by omega, HE.out⟩, fun h => (by cases h)⟩, HC3.out⟩⟩
                · have d0 : (cz == 0) = false := by simp only [beq_eq_false_iff_ne, ne_eq]; exact hz
                  have HE : Hid (endAt r.data.toList (n + 1) = false) := Lib.hid (by rw [HEC.out]; exact decide_eq_false hz)
                  clear hz
                  go_wp2_with fail
                  go_roundg (r.size - (n + 1))
                  case measure => have := HN1.out; omega
                  case rel => exact ⟨n + 1, false, rfl, by congr 1, rfl, Lib.hid ⟨HN1.out, HNO.out, ⟨fun h => (by cases h), fun _ _ => HE.out⟩, HC3.out⟩⟩
              · -- part 3 begins
                have e3 : decide ((n : Int) + 1 ≥ 16) = false := decide_eq_false (by omega)
                have HE : Hid (endAt r.data.toList (n + 1) = false) := Lib.hid (by rw [HEL.out]; unfold endL; rw [htl]; simp [hB, hD])
                clear hA hB htl hlr HEL
                go_wp2_with fail
                go_roundg (r.size - (n + 1))
                case measure => have := HN1.out; omega
                case rel => exact ⟨n + 1, false, rfl, by congr 1, rfl, Lib.hid ⟨HN1.out, HNO.out, ⟨fun h => (by cases h), fun _ _ => HE.out⟩, HC.out⟩⟩
                -- part 3 ends
        | true =>
          obtain ⟨a1, a2, ⟨a3, -⟩, a4⟩ := HI.out
          obtain ⟨h1, h2⟩ := a3 rfl
          have hcf := cut_first h1 (by rw [hlr]; exact a1) h2 a2
          obtain ⟨X, hX⟩ : ∃ X, r.extract 0 n = X := ⟨_, rfl⟩
          obtain ⟨r2, hr2⟩ : ∃ x, r.extract n r.size = x := ⟨_, rfl⟩
          have hXd : X = ofL (r.data.toList.take n) := by
            rw [← hX]
            apply ByteArray.ext
            unfold ofL
            rw [ByteArray.data_extract]
            apply Array.toList_inj.1
            rw [Array.toList_extract]
            simp [List.extract_eq_take_drop]
          have hr2d : r2.data.toList = r.data.toList.drop n := by
            rw [← hr2, ByteArray.data_extract, Array.toList_extract]
            simp only [List.extract_eq_take_drop]
            rw [List.take_of_length_le (by rw [List.length_drop, hlr]; exact Nat.le_refl _)]
          have hr2s : r2.size = r.size - n := by rw [← hr2, ByteArray.size_extract]; omega
          have HNX : Hid ((A ++ [r.data.toList.take n]) ++ cutT r2.data.toList = T) := Lib.hid (by
            rw [← HTT.out, hcf, hr2d]; simp)
          have hAl : (A ++ [r.data.toList.take n]).length ≤ T.length := by rw [← HNX.out]; simp
          have HAL : Hid (A.length + 1 ≤ 100000) := Lib.hid (by
            have := HTL.out
            rw [List.length_append, List.length_singleton] at hAl; omega)
          have HM : Hid (r2.size < r.size ∧ r2.size ≤ 100000) := Lib.hid (by omega)
          have HO := Lib.hid a4.1
          have HZ : Hid (∀ o : Obj, w.heap.size ≤ (wr.alloc o).heap.size) := Lib.hid fun o => by have := a4.2.size; simp; omega
          have L1 := Lib.hid (show A.length + 1 ≤ maxLen ∧ (A.length + 1) * 16 ≤ 140737488355328 from ⟨by have := HAL.out; unfold maxLen; omega, by have := HAL.out; omega⟩)
          have HSN : Hid (∀ o W5 v5, (wr.alloc o).grownBy W5 v.ownBlock → W5.ownsRow w.heap.size 9 1 v5 (A.length + 1) (partC A ++ [.string X]) → CuR w (A ++ [r.data.toList.take n]) v5 W5) := Lib.hid fun o W5 v5 hg h5 => by
            refine ⟨?_, (a4.2.alloc a4.2.size o).grown hg (by have := a4.2.size; simp; omega) fun j e => (a4.1.lt j e).1⟩
            rw [List.length_append, List.length_singleton, show partC (A ++ [r.data.toList.take n]) = partC A ++ [.string X] by rw [hXd]; simp [partC]]
            exact h5
          have hnl : n ≤ r.size := a1
          clear a1 a2 a3 a4 HI h1 h2 hcf hXd hr2d hr2s hAl hlr HTT
          go_wp2_with (first
            | (refine chkA 63 63 ⟨_, _, by with_reducible rfl⟩ ?_
               refine wpList_append_y (by rfl) _ _ _ rfl w.heap.size 9 jS _ 1 16 Tryz.underlying63 hjS hS0 hS1 hS2 rfl (by decide) _ _ _ (by rfl) (HO.out.alloc _) _ 1 _ (by rfl) (yields_boxL _ #[.string X] _ 1 1) rfl (one1 _ rfl) L1.out.1 L1.out.2 (HZ.out _) ?_
               intro v5 W5 ho5 hg5 ha5
               have HN5 := Lib.hid (HSN.out _ W5 v5 hg5 ho5)
               clear ho5 hg5 ha5))
          go_roundg r2.size
          case measure => exact HM.out.1
          case rel => exact ⟨r2, _, _, rfl, rfl, rfl, Lib.hid ⟨HNX.out, HM.out.2, HN5.out⟩⟩
    · have hr1 : r.size = 0 := by omega
      have hnil : r.data.toList = [] := List.eq_nil_of_length_eq_zero (by rw [← Lib.size_eq]; exact hr1)
      have HG : Hid (CuR w T v wr) := Lib.hid (by
        have h1 := HI.out.1
        rw [hnil] at h1
        rw [← h1]
        simpa [cutT, cutS] using HI.out.2.2)
      clear HI hnil
      go_wp2_with fail
      go_ret
      exact ⟨_, rfl, HG⟩
theorem results_cell_tmp2 {fn : Func} {p u v : Tmp} {ty : TypeId} (h : fn.results = #[.cell p ty, .tmp u, .tmp v]) (tmps : Array Value) (P : Program) (w : World) :
    (results fn tmps).run P w =
      ((asAddr (tmps.getD p undef)).run P w).andThen fun a w₁ => ((loadVar ty a).run P w₁).andThen fun y w₂ => .ok (.tuple #[y, tmps.getD u undef, tmps.getD v undef]) w₂ := by
  simp only [results, h]
  simp [Sem.run_bind, Result.andThen]
structure BlR (w : World) (va vl vp : Value) (n : Nat) (P : List (List UInt8)) (C : List RCk) (L : List REn) (R : List Rf) (k : Nat) (v : Value) (W : World) : Prop where
  box : BoxW w va vl W
  st : ∃ xa xl, W.heap[n]? = some (.cells #[xa, xl] 52 (0, 0)) ∧ StR W (.agg #[xa, xl]) C L ∧ StLoc (fun x => (x < w.heap.size ∨ n < x) ∧ v.ownBlock ≠ some x) (.agg #[xa, xl]) ∧ ∀ D, StLoc D (.agg #[va, vl]) → StLoc (fun x => D x ∨ w.heap.size ≤ x) (.agg #[xa, xl])
  row : W.ownsRow (n + 1) 57 2 v k (rcells R)
  prow : W.ownsRow (w.heap.size + 2) 9 1 vp P.length (partC P)
  plo : (∀ j, vp.ownBlock = some j → j < n) ∧ w.heap.size + 2 ≤ n
theorem BoxW.setHi {w W : World} {va vl : Value} (h : BoxW w va vl W) {x : Nat} (hx : w.heap.size + 2 ≤ x) (i : Nat) (u : Value) : BoxW w va vl (W.setCell ⟨x, i, none⟩ u) :=
  ⟨(heap_set_ne _ (by omega)).trans h.b, (heap_set_ne _ (by omega)).trans h.r, h.bel.setCell (p := ⟨x, i, none⟩) (by show w.heap.size ≤ x; omega) _⟩
theorem RdRow.keep {w w' : World} {v : Value} {n sz : Nat} {xs : List Value} (h : RdRow w v n sz xs) (hs : w.heap.size ≤ w'.heap.size) (hk : ∀ g, v.ownBlock = some g → w'.heap[g]? = w.heap[g]?) : RdRow w' v n sz xs := by
  obtain ⟨a, c, rfl, h1, h2, h3, h4⟩ := h
  refine ⟨_, _, rfl, h1, h2, h3, fun ad e => ?_⟩
  obtain ⟨b, off, e1, h5, h6⟩ := h4 ad e
  refine ⟨b, off, e1, Nat.lt_of_lt_of_le h5 hs, fun j u hu => ?_⟩
  rw [← h6 j u hu]
  subst e e1
  simp only [World.cell?, hk b rfl]
theorem StR.grown {W W' : World} {v vr : Value} {C : List RCk} {L : List REn} (h : StR W v C L) (hg : W.grownBy W' vr.ownBlock) {D : Nat → Prop} (hD : StLoc D v) (hv : ∀ x, D x → vr.ownBlock ≠ some x) : StR W' v C L := by
  have hlt := h.lt
  obtain ⟨va, vl, rfl, h1, h2⟩ := h
  obtain ⟨va', vl', e, h3, h4⟩ := hD
  cases e
  refine ⟨va, vl, rfl, h1.keep hg.size fun g hg' => ?_, h2.keep hg.size fun g hg' => ?_⟩
  · exact hg.block g (h1.lt g hg') (fun e => hv g (h3 g hg') e.symm)
  · exact hg.block g (h2.lt g hg') (fun e => hv g (h4 g hg') e.symm)
theorem BlR.step {w wr wx w5 W7 : World} {va vl vp v v5 xb xm : Value} {n k : Nat} {P : List (List UInt8)} {C C' : List RCk} {L L' : List REn} {R : List Rf} {id : ByteArray} {q : Int} {ox o7 : Obj}
    (HI : BlR w va vl vp n P C L R k v wr) (hwx : wr.alloc ox = wx)
    (hloc : StLoc (fun y => (((y < w.heap.size ∨ n < y) ∧ v.ownBlock ≠ some y) ∧ y < wr.heap.size) ∨ wx.heap.size ≤ y) (.agg #[xb, xm])) (hlow : ∀ D, StLoc D (.agg #[va, vl]) → StLoc (fun x => D x ∨ w.heap.size ≤ x) (.agg #[xb, xm]))
    (h5 : StR w5 (.agg #[xb, xm]) C' L') (hb5 : Below wx.heap.size wx w5) (hn5 : ∃ y0 y1, w5.heap[n]? = some (.cells #[y0, y1] 52 (0, 0)))
    (hg : (((((w5.setCell ⟨n, 0, none⟩ xb).setCell ⟨n, 1, none⟩ xm).setCell ⟨wr.heap.size, 0, none⟩ (.string id)).setCell ⟨wr.heap.size, 1, none⟩ (.int .i64 q)).alloc o7).grownBy W7 v.ownBlock) (hv5 : v5.ownBlock = v.ownBlock ∨ v5.ownBlock = some ((((w5.setCell ⟨n, 0, none⟩ xb).setCell ⟨n, 1, none⟩ xm).setCell ⟨wr.heap.size, 0, none⟩ (.string id)).setCell ⟨wr.heap.size, 1, none⟩ (.int .i64 q)).heap.size ∨ v5.ownBlock = some (((((w5.setCell ⟨n, 0, none⟩ xb).setCell ⟨n, 1, none⟩ xm).setCell ⟨wr.heap.size, 0, none⟩ (.string id)).setCell ⟨wr.heap.size, 1, none⟩ (.int .i64 q)).alloc o7).heap.size)
    (ho : W7.ownsRow (n + 1) 57 2 v5 (k + 1) (rcells R ++ [.string id, .int .i64 q])) : BlR w va vl vp n P C' L' (R ++ [(id, q)]) (k + 1) v5 W7 := by
  obtain ⟨xa0, xl0, s1, s2, s3, s4⟩ := HI.st
  have hxs : wx.heap.size = wr.heap.size + 1 := by rw [← hwx]; simp
  have hnlt := lt_of_heap s1
  have h5s := hb5.size
  have hvlt := fun j e => HI.row.lt j e
  have hbx : Below wr.heap.size wr wx := by rw [← hwx]; exact (Below.refl _ _).alloc (Nat.le_refl _) _
  have hbw5 : Below wr.heap.size wr w5 := hbx.trans (hb5.mono (by omega))
  have hlt5 := h5.lt
  have hlo := HI.plo.2
  have nn : ¬ ((((n < w.heap.size ∨ n < n) ∧ v.ownBlock ≠ some n) ∧ n < wr.heap.size) ∨ wx.heap.size ≤ n) := by
    rintro (⟨⟨h | h, -⟩, -⟩ | h) <;> omega
  have nx : ¬ ((((wr.heap.size < w.heap.size ∨ n < wr.heap.size) ∧ v.ownBlock ≠ some wr.heap.size) ∧ wr.heap.size < wr.heap.size) ∨ wx.heap.size ≤ wr.heap.size) := by
    rintro (⟨-, h⟩ | h) <;> omega
  have g4 := (((h5.setLoc hloc nn (i := 0) xb).setLoc hloc nn (i := 1) xm).setLoc hloc nx (i := 0) (.string id)).setLoc hloc nx (i := 1) (.int .i64 q)
  have b4 := ((((HI.box.below hbw5).setHi hlo 0 xb).setHi hlo 1 xm).setHi (x := wr.heap.size) (by omega) 0 (.string id)).setHi (x := wr.heap.size) (by omega) 1 (.int .i64 q)
  obtain ⟨y0, y1, hn5⟩ := hn5
  have n4 : ((((w5.setCell ⟨n, 0, none⟩ xb).setCell ⟨n, 1, none⟩ xm).setCell ⟨wr.heap.size, 0, none⟩ (.string id)).setCell ⟨wr.heap.size, 1, none⟩ (.int .i64 q)).heap[n]? = some (.cells #[xb, xm] 52 (0, 0)) := by
    rw [heap_set_ne _ (by omega), heap_set_ne _ (by omega), heap_set_lit (i := 1) (heap_set_lit (i := 0) hn5 xb) xm]; rfl
  have sz4 : ((((w5.setCell ⟨n, 0, none⟩ xb).setCell ⟨n, 1, none⟩ xm).setCell ⟨wr.heap.size, 0, none⟩ (.string id)).setCell ⟨wr.heap.size, 1, none⟩ (.int .i64 q)).heap.size = w5.heap.size := by simp
  have pr4 : ∀ j, vp.ownBlock = some j → ((((w5.setCell ⟨n, 0, none⟩ xb).setCell ⟨n, 1, none⟩ xm).setCell ⟨wr.heap.size, 0, none⟩ (.string id)).setCell ⟨wr.heap.size, 1, none⟩ (.int .i64 q)).heap[j]? = wr.heap[j]? := fun j e => by
    have h1 := HI.plo.1 j e
    rw [heap_set_ne _ (by omega), heap_set_ne _ (by omega), heap_set_ne _ (by omega), heap_set_ne _ (by omega)]
    exact hbw5.block j (by omega)
  generalize ((((w5.setCell ⟨n, 0, none⟩ xb).setCell ⟨n, 1, none⟩ xm).setCell ⟨wr.heap.size, 0, none⟩ (.string id)).setCell ⟨wr.heap.size, 1, none⟩ (.int .i64 q)) = W6 at *
  have hb67 : Below W6.heap.size W6 (W6.alloc o7) := (Below.refl _ _).alloc (Nat.le_refl _) _
  have hvne : ∀ y, ((((y < w.heap.size ∨ n < y) ∧ v.ownBlock ≠ some y) ∧ y < wr.heap.size) ∨ wx.heap.size ≤ y) → v.ownBlock ≠ some y := fun y hy e => by
    rcases hy with ⟨⟨-, h⟩, -⟩ | h
    · exact h e
    · have := (hvlt y e).2; omega
  have ng : ∀ j, j < n + 1 → some j ≠ v.ownBlock := fun j hj e => by have := (hvlt j e.symm).1; omega
  refine ⟨(b4.below hb67).grown hg fun j e => by have := (hvlt j e).1; omega, ⟨xb, xm, ?_, (g4.below hb67).grown hg hloc hvne, (hloc.and hlt5).mono fun y hy => ⟨?_, fun e => ?_⟩, hlow⟩, by rw [rcells_snoc]; exact ho, own_same HI.prow fun j e => ?_, HI.plo⟩
  · rw [hg.block n (by rw [World.size_alloc]; omega) (ng n (by omega)), heap_alloc_lt _ (lt_of_heap n4), n4]
  · rcases hy.1 with ⟨⟨h, -⟩, -⟩ | h
    · exact h
    · exact .inr (by omega)
  · rcases hv5 with h | h | h
    · rw [h] at e; exact hvne y hy.1 e
    · rw [h] at e; have h1 := Option.some.inj e; have h2 := hy.2; omega
    · rw [h] at e; have h1 := Option.some.inj e; have h2 := hy.2; rw [World.size_alloc] at h1; omega
  · have h1 := HI.plo.1 j e
    rw [hg.block j (by rw [World.size_alloc]; omega) (ng j (by omega)), heap_alloc_lt _ (by omega), pr4 j e]
theorem two_sets {W : World} {n r : Nat} {x0 x1 y0 y1 : Value} {T U : TypeId} (hn : W.heap[n]? = some (.cells #[x0, x1] T (0, 0))) (hr : W.heap[r]? = some (.cells #[y0, y1] U (0, 0))) (h1 : n ≠ r) (a b c d : Value) :
    (W.cell? ⟨n, 0, none⟩ = some x0 ∧ W.frozen? ⟨n, 0, none⟩ = false ∧ (W.setCell ⟨n, 0, none⟩ a).cell? ⟨n, 1, none⟩ = some x1 ∧ (W.setCell ⟨n, 0, none⟩ a).frozen? ⟨n, 1, none⟩ = false) ∧
    (((W.setCell ⟨n, 0, none⟩ a).setCell ⟨n, 1, none⟩ b).cell? ⟨r, 0, none⟩ = some y0 ∧ ((W.setCell ⟨n, 0, none⟩ a).setCell ⟨n, 1, none⟩ b).frozen? ⟨r, 0, none⟩ = false) ∧
    ((((W.setCell ⟨n, 0, none⟩ a).setCell ⟨n, 1, none⟩ b).setCell ⟨r, 0, none⟩ c).cell? ⟨r, 1, none⟩ = some y1 ∧ (((W.setCell ⟨n, 0, none⟩ a).setCell ⟨n, 1, none⟩ b).setCell ⟨r, 0, none⟩ c).frozen? ⟨r, 1, none⟩ = false) ∧
    (((((W.setCell ⟨n, 0, none⟩ a).setCell ⟨n, 1, none⟩ b).setCell ⟨r, 0, none⟩ c).setCell ⟨r, 1, none⟩ d).cell? ⟨r, 0, none⟩ = some c ∧ ((((W.setCell ⟨n, 0, none⟩ a).setCell ⟨n, 1, none⟩ b).setCell ⟨r, 0, none⟩ c).setCell ⟨r, 1, none⟩ d).cell? ⟨r, 1, none⟩ = some d) ∧
    ((((W.setCell ⟨n, 0, none⟩ a).setCell ⟨n, 1, none⟩ b).setCell ⟨r, 0, none⟩ c).setCell ⟨r, 1, none⟩ d).heap[n]? = some (.cells #[a, b] T (0, 0)) := by
  have s1 := heap_set_lit (i := 0) hn a
  have s2 := heap_set_lit (i := 1) s1 b
  have r2 : ((W.setCell ⟨n, 0, none⟩ a).setCell ⟨n, 1, none⟩ b).heap[r]? = some (.cells #[y0, y1] U (0, 0)) := by rw [heap_set_ne _ h1.symm, heap_set_ne _ h1.symm, hr]
  have r3 := heap_set_lit (i := 0) r2 c
  have r4 := heap_set_lit (i := 1) r3 d
  refine ⟨⟨cell_lit hn rfl, frozen_lit hn 0, cell_lit s1 rfl, frozen_lit s1 1⟩, ⟨cell_lit r2 rfl, frozen_lit r2 0⟩, ⟨cell_lit r3 rfl, frozen_lit r3 1⟩, ⟨cell_lit r4 rfl, cell_lit r4 rfl⟩, ?_⟩
  rw [heap_set_ne _ h1, heap_set_ne _ h1, s2]
  rfl
theorem bldR_log (C : List RCk) (L : List REn) (ps : List ByteArray) : (bldR C L ps).2.1.length = L.length + ps.length := by
  have : ∀ (ps : List ByteArray) (s : List RCk × List REn × List Rf), (ps.foldl stepR s).2.1.length = s.2.1.length + ps.length := by
    intro ps
    induction ps with
    | nil => intro s; rfl
    | cons p ps ih =>
      intro s
      rw [List.foldl_cons, ih]
      simp only [stepR, List.length_append, List.length_cons, List.length_nil]; omega
  exact this ps _
theorem RefBuild_rc (v : Value) (C : List RCk) (L : List REn) (t : ByteArray) (w : World) (h : StR w v C L) (ht : t.size ≤ 100000) (hP : (cutT t.data.toList).length ≤ 4000) (hC : ∀ k, k ≤ (cutT t.data.toList).length → (bldR C L (((cutT t.data.toList).map ofL).take k)).1.length ≤ 99999) (hL : L.length + (cutT t.data.toList).length ≤ 1000000)
    (hall : ∀ k (hk : k < ((cutT t.data.toList).map ofL).length), (putR (bldR C L (((cutT t.data.toList).map ofL).take k)).1 ((cutT t.data.toList).map ofL)[k]).2.2.2 = 0) :
    Calls Tryz.prog 25 #[v, .string t] w fun e w' => ∃ v' vr, e = .returned (.tuple #[v', vr, .int .i64 0]) ∧ Hid ((StR w' v' (bldR C L ((cutT t.data.toList).map ofL)).1 (bldR C L ((cutT t.data.toList).map ofL)).2.1 ∧ w'.ownsRow w.heap.size 57 2 vr (cutT t.data.toList).length (rcells (bldR C L ((cutT t.data.toList).map ofL)).2.2)) ∧ Below w.heap.size w w' ∧ ∀ D, StLoc D v → StLoc (fun b => D b ∨ w.heap.size ≤ b) v') := by
  obtain ⟨jR, hjR, hR0, hR1, hR2⟩ := info_parts infoR
  have CT := fun W => RefCut_rc t W ht
  have hparts := (cutT_ok t.data.toList).1
  obtain ⟨P, hPP⟩ : ∃ P, cutT t.data.toList = P := ⟨_, rfl⟩
  rw [hPP] at CT hP hC hL hall hparts ⊢
  have HST := Lib.hid h
  obtain ⟨a0, n0, b0, m0, rfl⟩ := h.form
  have B0 := BoxW.start w (.slice a0 C.length n0) (.slice b0 L.length m0)
  obtain ⟨wb, hwb⟩ : ∃ x, (w.alloc (.cells #[.slice a0 C.length n0, .slice b0 L.length m0] 52)).alloc (.cells #[.slice none 0 0, .slice none 0 0] 52) = x := ⟨_, rfl⟩
  have hwbs : wb.heap.size = w.heap.size + 2 := by rw [← hwb]; simp
  rw [hwb] at B0
  have HB0 := Lib.hid B0
  have HWB := Lib.hid hwbs
  have HPL := Lib.hid hP
  have HCC := Lib.hid hC
  have HLL := Lib.hid hL
  have HAL := Lib.hid hall
  have HPT := Lib.hid hparts
  obtain ⟨x0, x1, x2, x3, x4⟩ := B0.cells
  clear B0 hwbs hPP hP hC hL hall hparts h ht
  go_enter Tryz.func25, Tryz.ntmps25
  go_wp2_with fail
  refine (CT _).mono ?_
  rintro e w2 ⟨vp, rfl, H2⟩
  have HB2 := Lib.hid (HB0.out.below H2.out.2)
  obtain ⟨va, vc, rfl⟩ : ∃ va vc, vp = .slice va P.length vc := by
    rcases H2.out.1.2 with ⟨rfl, h0⟩ | ⟨g, cap, cur, rfl, -⟩
    · exact ⟨_, _, by rw [h0]⟩
    · exact ⟨_, _, rfl⟩
  have d1 : decide ((P.length : Int) > 4000) = false := decide_eq_false (by have := HPL.out; omega)
  clear CT hwb x0 x1 x2 x3 x4
  obtain ⟨x0, x1, x2, x3, x4⟩ := HB2.out.cells
  obtain ⟨w3, hw3⟩ : ∃ x, w2.alloc (.cells #[.slice a0 C.length n0, .slice b0 L.length m0] 52) = x := ⟨_, rfl⟩
  have R0 : Hid (BlR w (.slice a0 C.length n0) (.slice b0 L.length m0) (.slice va P.length vc) w2.heap.size P C L [] 0 (.slice none 0 0) w3) := Lib.hid (by
    have hb : Below w2.heap.size w2 w3 := by rw [← hw3]; exact (Below.refl _ _).alloc (Nat.le_refl _) _
    have hbx := HB2.out.below hb
    have hsz := lt_of_heap HB2.out.r
    have h1 := H2.out.1
    rw [HWB.out] at h1
    refine ⟨hbx, ⟨_, _, by rw [← hw3]; exact heap_alloc_new _ _, HST.out.below hbx.bel, HST.out.lt.mono fun x hx => ⟨.inl hx, fun e => by cases e⟩, fun D hD => hD.mono fun x hx => .inl hx⟩, World.ownsRow_nil _ _ _ _, own_same h1 fun j hj => hb.block j (h1.lt j hj).2, ⟨fun j hj => (h1.lt j hj).2, by omega⟩⟩)
  clear H2 HB2 HB0
  go_wp2_with fail
  clear x0 x1 x2 x3 x4 d1
  go_loopg [8, 10] P.length (fun g s8 s10 wr => ∃ (k : Nat) (v : Value), g = P.length - k ∧ k ≤ P.length ∧ s10 = .int .i64 (k : Int) ∧ v = s8 ∧ Hid (BlR w (.slice a0 C.length n0) (.slice b0 L.length m0) (.slice va P.length vc) w2.heap.size P (bldR C L ((P.map ofL).take k)).1 (bldR C L ((P.map ofL).take k)).2.1 (bldR C L ((P.map ofL).take k)).2.2 k v wr))
  case atStart => exact ⟨0, _, rfl, Nat.zero_le _, rfl, rfl, R0⟩
  case round =>
    obtain ⟨k, v, rfl, hk, rfl, rfl, HI⟩ := hrel
    clear R0 hw3
    by_cases hlt : k < P.length
    · obtain ⟨xa, xl, s1, s2, s3, s4⟩ := HI.out.st
      obtain ⟨a1, n1, b1, m1, e1⟩ := s2.form
      cases e1
      have hpk := HPT.out P[k] (List.getElem_mem hlt)
      obtain ⟨g, rfl⟩ : ∃ g, va = some ⟨g, 0, none⟩ := by
        rcases HI.out.prow.2 with ⟨e, h0⟩ | ⟨g, cap, cur, e, -⟩
        · omega
        · cases e; exact ⟨g, rfl⟩
      have c0 := HI.out.prow.cells rfl k (.string (ofL P[k])) (by unfold partC; simp [hlt])
      rw [addr_add2, Nat.zero_add] at c0
      have hgl := HI.out.prow.lt g rfl
      have hgn := HI.out.plo.1 g rfl
      obtain ⟨wx, hwx⟩ : ∃ x, wr.alloc (.cells #[.string ⟨#[]⟩, .int .i64 0] 57) = x := ⟨_, rfl⟩
      have hbx : Below wr.heap.size wr wx := by rw [← hwx]; exact (Below.refl _ _).alloc (Nat.le_refl _) _
      have hxs : wx.heap.size = wr.heap.size + 1 := by rw [← hwx]; simp
      have hx0 : wx.heap[wr.heap.size]? = some (.cells #[.string ⟨#[]⟩, .int .i64 0] 57 (0, 0)) := by rw [← hwx]; exact heap_alloc_new _ _
      have hnx := (hbx.block _ (lt_of_heap s1)).trans s1
      have cn0 := cell_lit hnx (i := 0) rfl
      have cn1 := cell_lit hnx (i := 1) rfl
      have dy : wx.cell? ⟨g, k, none⟩ = some (.string (ofL P[k])) := (hbx.cell (p := ⟨g, k, none⟩) hgl.2).trans c0
      have hlen : (P.map ofL).length = P.length := by simp
      have hput := HAL.out k (by rw [hlen]; exact hlt)
      have hstep := bldR_take (C := C) (L := L) (ps := P.map ofL) (k := k) (by rw [hlen]; exact hlt)
      have hgk : (P.map ofL)[k]'(by rw [hlen]; exact hlt) = ofL P[k] := by simp
      rw [hgk] at hput hstep
      have hCk := HCC.out k hk
      have hLk : (bldR C L ((P.map ofL).take k)).2.1.length ≤ 1000000 := by
        have := HLL.out
        rw [bldR_log _ _ _]
        rw [List.length_take, hlen]; omega
      obtain ⟨pk, hpkk⟩ : ∃ x, ofL P[k] = x := ⟨_, rfl⟩
      have hpks : 1 ≤ pk.size ∧ pk.size ≤ 128 := by rw [← hpkk, ofL_size]; exact hpk
      rw [hpkk] at hput hstep dy
      obtain ⟨CC, hCC⟩ : ∃ x, (bldR C L ((P.map ofL).take k)).1 = x := ⟨_, rfl⟩
      obtain ⟨LL, hLL2⟩ : ∃ x, (bldR C L ((P.map ofL).take k)).2.1 = x := ⟨_, rfl⟩
      obtain ⟨RR, hRR⟩ : ∃ x, (bldR C L ((P.map ofL).take k)).2.2 = x := ⟨_, rfl⟩
      unfold stepR at hstep
      rw [hCC] at hput hCk
      rw [hCC, hLL2, hRR] at hstep
      rw [hLL2] at hLk
      rw [hCC, hLL2, hRR] at HI
      rw [hCC, hLL2] at s2
      rw [hCC] at s1 hnx cn0 cn1 s3 s4
      rw [hLL2] at s1 hnx cn1 s3 s4
      obtain ⟨⟨C', id, fr, er⟩, hq⟩ : ∃ x, putR CC pk = x := ⟨_, rfl⟩
      rw [hq] at hput hstep
      simp only at hput hstep
      subst hput
      have HSTP := Lib.hid hstep
      have KP := fun W (hW : StR W (.agg #[.slice a1 CC.length n1, .slice b1 LL.length m1]) CC LL) => Keep_rc _ CC LL pk W hW hCk hLk hpks.1 hpks.2 C' id fr hq
      have HKP := Lib.hid (KP wx.drew (s2.below hbx.drew))
      have HIR := Lib.hid HI.out
      have HAF : Hid (∀ (w5 : World) a2 n2 b2 m2, Hid ((StR w5 (.agg #[.slice a2 C'.length n2, .slice b2 (LL ++ [(id, 1)]).length m2]) C' (LL ++ [(id, 1)]) ∧ Below wx.drew.heap.size wx.drew w5) ∧ ∀ D, StLoc D (.agg #[.slice a1 CC.length n1, .slice b1 LL.length m1]) → StLoc (fun b => D b ∨ wx.drew.heap.size ≤ b) (.agg #[.slice a2 C'.length n2, .slice b2 (LL ++ [(id, 1)]).length m2])) →
          Hid (w5.cell? ⟨g, k, none⟩ = some (.string pk) ∧ ((w5.setCell ⟨w2.heap.size, 0, none⟩ (Value.slice a2 C'.length n2)).setCell ⟨w2.heap.size, 1, none⟩ (Value.slice b2 (LL ++ [(id, 1)]).length m2)).cell? ⟨g, k, none⟩ = some (.string pk) ∧ ((((w5.setCell ⟨w2.heap.size, 0, none⟩ (Value.slice a2 C'.length n2)).setCell ⟨w2.heap.size, 1, none⟩ (Value.slice b2 (LL ++ [(id, 1)]).length m2)).setCell ⟨wr.heap.size, 0, none⟩ (Value.string id)).setCell ⟨wr.heap.size, 1, none⟩ (Value.int .i64 (pk.size : Int))).cell? ⟨g, k, none⟩ = some (.string pk)) ∧ Hid ((w5.cell? ⟨w2.heap.size, 0, none⟩ = some (Value.slice a1 CC.length n1) ∧ w5.frozen? ⟨w2.heap.size, 0, none⟩ = false ∧ (w5.setCell ⟨w2.heap.size, 0, none⟩ (Value.slice a2 C'.length n2)).cell? ⟨w2.heap.size, 1, none⟩ = some (Value.slice b1 LL.length m1) ∧ (w5.setCell ⟨w2.heap.size, 0, none⟩ (Value.slice a2 C'.length n2)).frozen? ⟨w2.heap.size, 1, none⟩ = false) ∧ (((w5.setCell ⟨w2.heap.size, 0, none⟩ (Value.slice a2 C'.length n2)).setCell ⟨w2.heap.size, 1, none⟩ (Value.slice b2 (LL ++ [(id, 1)]).length m2)).cell? ⟨wr.heap.size, 0, none⟩ = some (Value.string ⟨#[]⟩) ∧ ((w5.setCell ⟨w2.heap.size, 0, none⟩ (Value.slice a2 C'.length n2)).setCell ⟨w2.heap.size, 1, none⟩ (Value.slice b2 (LL ++ [(id, 1)]).length m2)).frozen? ⟨wr.heap.size, 0, none⟩ = false) ∧ ((((w5.setCell ⟨w2.heap.size, 0, none⟩ (Value.slice a2 C'.length n2)).setCell ⟨w2.heap.size, 1, none⟩ (Value.slice b2 (LL ++ [(id, 1)]).length m2)).setCell ⟨wr.heap.size, 0, none⟩ (Value.string id)).cell? ⟨wr.heap.size, 1, none⟩ = some (Value.int .i64 0) ∧ (((w5.setCell ⟨w2.heap.size, 0, none⟩ (Value.slice a2 C'.length n2)).setCell ⟨w2.heap.size, 1, none⟩ (Value.slice b2 (LL ++ [(id, 1)]).length m2)).setCell ⟨wr.heap.size, 0, none⟩ (Value.string id)).frozen? ⟨wr.heap.size, 1, none⟩ = false) ∧ (((((w5.setCell ⟨w2.heap.size, 0, none⟩ (Value.slice a2 C'.length n2)).setCell ⟨w2.heap.size, 1, none⟩ (Value.slice b2 (LL ++ [(id, 1)]).length m2)).setCell ⟨wr.heap.size, 0, none⟩ (Value.string id)).setCell ⟨wr.heap.size, 1, none⟩ (Value.int .i64 (pk.size : Int))).cell? ⟨wr.heap.size, 0, none⟩ = some (Value.string id) ∧ ((((w5.setCell ⟨w2.heap.size, 0, none⟩ (Value.slice a2 C'.length n2)).setCell ⟨w2.heap.size, 1, none⟩ (Value.slice b2 (LL ++ [(id, 1)]).length m2)).setCell ⟨wr.heap.size, 0, none⟩ (Value.string id)).setCell ⟨wr.heap.size, 1, none⟩ (Value.int .i64 (pk.size : Int))).cell? ⟨wr.heap.size, 1, none⟩ = some (Value.int .i64 (pk.size : Int))) ∧ ((((w5.setCell ⟨w2.heap.size, 0, none⟩ (Value.slice a2 C'.length n2)).setCell ⟨w2.heap.size, 1, none⟩ (Value.slice b2 (LL ++ [(id, 1)]).length m2)).setCell ⟨wr.heap.size, 0, none⟩ (Value.string id)).setCell ⟨wr.heap.size, 1, none⟩ (Value.int .i64 (pk.size : Int))).heap[w2.heap.size]? = some (.cells #[(Value.slice a2 C'.length n2), (Value.slice b2 (LL ++ [(id, 1)]).length m2)] 52 (0, 0))) ∧ Hid (((((w5.setCell ⟨w2.heap.size, 0, none⟩ (Value.slice a2 C'.length n2)).setCell ⟨w2.heap.size, 1, none⟩ (Value.slice b2 (LL ++ [(id, 1)]).length m2)).setCell ⟨wr.heap.size, 0, none⟩ (Value.string id)).setCell ⟨wr.heap.size, 1, none⟩ (Value.int .i64 (pk.size : Int))).ownsRow (w2.heap.size + 1) 57 2 v k (rcells RR) ∧ (∀ o : Obj, w2.heap.size + 1 ≤ (((((w5.setCell ⟨w2.heap.size, 0, none⟩ (Value.slice a2 C'.length n2)).setCell ⟨w2.heap.size, 1, none⟩ (Value.slice b2 (LL ++ [(id, 1)]).length m2)).setCell ⟨wr.heap.size, 0, none⟩ (Value.string id)).setCell ⟨wr.heap.size, 1, none⟩ (Value.int .i64 (pk.size : Int))).alloc o).heap.size) ∧ ∀ o7 W7 v5, (((((w5.setCell ⟨w2.heap.size, 0, none⟩ (Value.slice a2 C'.length n2)).setCell ⟨w2.heap.size, 1, none⟩ (Value.slice b2 (LL ++ [(id, 1)]).length m2)).setCell ⟨wr.heap.size, 0, none⟩ (Value.string id)).setCell ⟨wr.heap.size, 1, none⟩ (Value.int .i64 (pk.size : Int))).alloc o7).grownBy W7 v.ownBlock → (v5.ownBlock = v.ownBlock ∨ v5.ownBlock = some (((((w5.setCell ⟨w2.heap.size, 0, none⟩ (Value.slice a2 C'.length n2)).setCell ⟨w2.heap.size, 1, none⟩ (Value.slice b2 (LL ++ [(id, 1)]).length m2)).setCell ⟨wr.heap.size, 0, none⟩ (Value.string id)).setCell ⟨wr.heap.size, 1, none⟩ (Value.int .i64 (pk.size : Int))).alloc o7).heap.size) → W7.ownsRow (w2.heap.size + 1) 57 2 v5 (k + 1) (rcells RR ++ [.string id, .int .i64 (pk.size : Int)]) → BlR w (.slice a0 C.length n0) (.slice b0 L.length m0) (.slice (some ⟨g, 0, none⟩) P.length vc) w2.heap.size P (bldR C L ((P.map ofL).take (k + 1))).1 (bldR C L ((P.map ofL).take (k + 1))).2.1 (bldR C L ((P.map ofL).take (k + 1))).2.2 (k + 1) v5 W7)) := Lib.hid fun w5 a2 n2 b2 m2 H5 => by
        have hb5 : Below wx.heap.size wx w5 := (Below.refl wx.heap.size wx).drew.trans H5.out.1.2
        have hn5 := (hb5.block _ (lt_of_heap hnx)).trans hnx
        have hx5 := (hb5.block _ (lt_of_heap hx0)).trans hx0
        have hnlt := lt_of_heap s1
        have hck : w5.cell? ⟨g, k, none⟩ = some (.string pk) := (hb5.cell (p := ⟨g, k, none⟩) (by show g < wx.heap.size; omega)).trans dy
        have hne : w2.heap.size ≠ wr.heap.size := by omega
        refine ⟨Lib.hid ⟨hck, ?_, ?_⟩, Lib.hid (two_sets hn5 hx5 hne _ _ _ _), Lib.hid ⟨?_, fun o => ?_, fun o7 W7 v5 hg hv ho => ?_⟩⟩
        · rw [← hck]
          simp only [World.cell?]
          rw [heap_set_ne _ (by omega), heap_set_ne _ (by omega)]
        · rw [← hck]
          simp only [World.cell?]
          rw [heap_set_ne _ (by omega), heap_set_ne _ (by omega), heap_set_ne _ (by omega), heap_set_ne _ (by omega)]
        · refine own_same HIR.out.row fun j e => ?_
          have h1 := HIR.out.row.lt j e
          rw [heap_set_ne _ (by omega), heap_set_ne _ (by omega), heap_set_ne _ (by omega), heap_set_ne _ (by omega)]
          exact (hb5.block j (by omega)).trans (hbx.block j h1.2)
        · have := hb5.size
          simp; omega
        · rw [HSTP.out]
          have hl := H5.out.2 _ (s3.and s2.lt)
          exact BlR.step HIR.out hwx hl (fun D hD => (H5.out.2 _ (s4 D hD)).mono fun b hb => hb.elim (fun h => h) fun h => .inr (by have : wx.drew.heap.size = wx.heap.size := rfl; have := HIR.out.box.bel.size; omega)) H5.out.1.1 hb5 ⟨_, _, hn5⟩ hg (hv.elim .inl fun h => .inr (.inr h)) ho
      have HLT := Lib.hid hlt
      have hkp : k < P.length := hlt
      have L1 := Lib.hid (show k + 1 ≤ maxLen ∧ (k + 1) * 24 ≤ 140737488355328 from ⟨by have := HPL.out; unfold maxLen; omega, by have := HPL.out; omega⟩)
      clear KP s1 s2 s3 s4 hnx hx0 hxs hbx hgl hgn c0 hpk hstep hgk hCk hLk hq hCC hLL2 hRR hpkk hpks HI HIR hlen hlt hk
      have hkl : k ≤ 4000 := by have := HPL.out; omega
      go_wp2_with fail
      -- region 11 begins
      refine wp_region_noPanic ?_
      refine wp_region_held_drew (S := (fun (w' : World) => w'.cell? ⟨g, k, none⟩ = some (.string pk))) (by kernel_rfl) ?_ (fun hHeld => ?_)
      · exact dy
      refine' tkH 1 rfl ?_; try simp only [Act.put, awL]
      refine' tkH 2 rfl ?_; try simp only [Act.put, awL]
      refine' tkH 3 rfl ?_; try simp only [Act.put, awL]
      refine' tkH 4 rfl ?_; try simp only [Act.put, awL]
      refine wpAnyH_ready (rs := [0]) (by kernel_rfl) (by simp) ?_
      refine AllReadyH.cons rfl (fun K hK => ?_) AllReadyH.nil
      go_simp
      refine hK.out _ _ ?_ (fun hHeld => ?_)
      · exact dy
      clear hK K
      try simp only [Act.put, awL]
      refine wpAnyH_ready (rs := [5]) (by kernel_rfl) (by simp) ?_
      refine AllReadyH.cons rfl (fun K hK => ?_) AllReadyH.nil
      go_simp
      go_at_call 79
      refine Calls.at_args HKP.out (by with_reducible rfl) ?_
      rintro e w5 ⟨v4, rfl, H5⟩
      obtain ⟨a2, n2, b2, m2, rfl⟩ := H5.out.1.1.form
      obtain ⟨HS5, HF5, HW5⟩ := HAF.out w5 a2 n2 b2 m2 H5
      clear H5
      generalize (LL ++ [(id, 1)]).length = ll at *
      obtain ⟨⟨f0, f1, f2, f3⟩, ⟨f4, f5⟩, ⟨f6, f7⟩, ⟨f8, f9⟩, -⟩ := HF5.out
      refine hK.out _ _ ?_ (fun hHeld => ?_)
      · exact HS5.out.1
      clear hK K
      try simp only [Act.put, awL]
      refine' tkH 6 rfl ?_; try simp only [Act.put, awL]
      refine' tkH 7 rfl ?_; try simp only [Act.put, awL]
      refine' tkH 8 rfl ?_; try simp only [Act.put, awL]
      refine' tkH 9 rfl ?_; try simp only [Act.put, awL]
      refine wpAnyH_ready (rs := [10]) (by kernel_rfl) (by simp) ?_
      refine AllReadyH.cons rfl (fun K hK => ?_) AllReadyH.nil
      go_simp
      refine hK.out _ _ ?_ (fun hHeld => ?_)
      · exact HS5.out.2.1
      clear hK K
      try simp only [Act.put, awL]
      refine wpAnyH_ready (rs := [11]) (by kernel_rfl) (by simp) ?_
      refine AllReadyH.cons rfl (fun K hK => ?_) AllReadyH.nil
      go_simp
      refine hK.out _ _ ?_ (fun hHeld => ?_)
      · exact HS5.out.2.2
      clear hK K
      try simp only [Act.put, awL]
      refine' tkH 12 rfl ?_; try simp only [Act.put, awL]
      refine wpAnyH_done (by kernel_rfl) ?_ _
      refine NoPanic.normal ?_
      -- region 11 ends
      clear f0 f1 f2 f3 f4 f5 f6 f7 HS5 HF5 hwx dy cn0 cn1 HKP HAF hHeld
      have HLX := Lib.hid (World.block_lt_of_cell? _ _ f8)
      generalize ((((w5.setCell ⟨w2.heap.size, 0, none⟩ (.slice a2 C'.length n2)).setCell ⟨w2.heap.size, 1, none⟩ (.slice b2 ll m2)).setCell ⟨wr.heap.size, 0, none⟩ (.string id)).setCell ⟨wr.heap.size, 1, none⟩ (.int .i64 (pk.size : Int))) = W6 at *
      have hlx : wr.heap.size < W6.heap.size := HLX.out
      go_wp2_with (first
        | (refine chkA 46 46 ⟨_, _, by with_reducible rfl⟩ ?_
           refine wpList_append_y (by rfl) _ _ _ rfl (w2.heap.size + 1) 57 jR _ 2 24 Tryz.underlying46 hjR hR0 hR1 hR2 rfl (by decide) _ _ _ (by rfl) (HW5.out.1.alloc _) _ 1 _ (by rfl) (yields_boxL _ #[.string id, .int .i64 (pk.size : Int)] _ 1 1) rfl (one2 _ _ rfl rfl) L1.out.1 L1.out.2 (HW5.out.2.1 _) ?_
           intro v5 W5 ho5 hg5 ha5
           have HN5 := Lib.hid (HW5.out.2.2 _ W5 v5 hg5 ha5 ho5)
           clear ho5 hg5 ha5))
      go_roundg (P.length - (k + 1))
      case measure => have := HLT.out; omega
      case rel => exact ⟨k + 1, _, rfl, HLT.out, by congr 1, rfl, HN5⟩
    · obtain rfl : k = P.length := by omega
      have htk : (P.map ofL).take P.length = P.map ofL := List.take_of_length_le (by simp)
      rw [htk] at HI
      obtain ⟨xa, xl, s1, s2, s3, s4⟩ := HI.out.st
      obtain ⟨a1, n1, b1, m1, e1⟩ := s2.form
      cases e1
      obtain ⟨CC, hCC⟩ : ∃ x, (bldR C L (P.map ofL)).1 = x := ⟨_, rfl⟩
      obtain ⟨LL, hLL⟩ : ∃ x, (bldR C L (P.map ofL)).2.1 = x := ⟨_, rfl⟩
      obtain ⟨RR, hRR⟩ : ∃ x, (bldR C L (P.map ofL)).2.2 = x := ⟨_, rfl⟩
      rw [hCC, hLL, hRR] at HI
      rw [hCC, hLL] at s1 s2 s3 s4
      have HE := Lib.hid (And.intro hCC (And.intro hLL hRR))
      clear hCC hLL hRR
      have cn0 := cell_lit s1 (i := 0) rfl
      have cn1 := cell_lit s1 (i := 1) rfl
      obtain ⟨r0, r1, r2, r3, r4⟩ := HI.out.box.res
      obtain ⟨o1, o2, o3, o4, o5⟩ := HI.out.box.out (.slice a1 CC.length n1) (.slice b1 LL.length m1)
      have nr : ¬ ((w.heap.size + 1 < w.heap.size ∨ w2.heap.size < w.heap.size + 1) ∧ v.ownBlock ≠ some (w.heap.size + 1)) := by
        have := HI.out.plo.2
        rintro ⟨h | h, -⟩ <;> omega
      have HG : Hid ((StR ((wr.setCell ⟨w.heap.size + 1, 0, none⟩ (.slice a1 CC.length n1)).setCell ⟨w.heap.size + 1, 1, none⟩ (.slice b1 LL.length m1)) (.agg #[.slice a1 CC.length n1, .slice b1 LL.length m1]) CC LL ∧ ((wr.setCell ⟨w.heap.size + 1, 0, none⟩ (.slice a1 CC.length n1)).setCell ⟨w.heap.size + 1, 1, none⟩ (.slice b1 LL.length m1)).ownsRow w.heap.size 57 2 v P.length (rcells RR)) ∧ Below w.heap.size w ((wr.setCell ⟨w.heap.size + 1, 0, none⟩ (.slice a1 CC.length n1)).setCell ⟨w.heap.size + 1, 1, none⟩ (.slice b1 LL.length m1)) ∧ ∀ D, StLoc D (.agg #[.slice a0 C.length n0, .slice b0 L.length m0]) → StLoc (fun b => D b ∨ w.heap.size ≤ b) (.agg #[.slice a1 CC.length n1, .slice b1 LL.length m1])) := Lib.hid (by
        have hlo := HI.out.plo.2
        refine ⟨⟨(s2.setLoc s3 nr _).setLoc s3 nr _, own_le (own_same HI.out.row fun j e => ?_) (by omega)⟩, o5, s4⟩
        have h1 := HI.out.row.lt j e
        rw [heap_set_ne _ (by omega), heap_set_ne _ (by omega)])
      clear s1 s2 s3 s4 o5 nr HI htk hk hlt
      go_wp2_with fail
      (try simp only [Exit.inBlock, Exit.then])
      refine bodyPost_ret (v := .tuple #[.agg #[.slice a1 CC.length n1, .slice b1 LL.length m1], v, .int .i64 0]) ?_ rfl ⟨_, _, rfl, by rw [HE.out.1, HE.out.2.1, HE.out.2.2]; exact HG⟩
      rw [results_cell_tmp2 rfl]
      go_simp
end Go.Proofs.YtdcjhpafipbpkaaGreatDoor
