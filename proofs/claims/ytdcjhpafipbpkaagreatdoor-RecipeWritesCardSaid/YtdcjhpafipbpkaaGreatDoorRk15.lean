/- Parts of the proof of RecipeWrites, joined: RcpN, RcpO, RcpP, RcpZ, RcpW. No condition. -/
import Derived.Test.YtdcjhpafipbpkaaGreatDoorRk14
set_option linter.unusedSimpArgs false
set_option linter.unusedVariables false
set_option linter.unusedSectionVars false
namespace Go.Proofs.YtdcjhpafipbpkaaGreatDoor
set_option linter.unusedVariables false
set_option maxRecDepth 100000
set_option maxHeartbeats 4000000
open Go.RowKit
theorem RefEnds_c (size frm n : Int) (w : World) (h : 0 ≤ size ∧ size ≤ 1000000) (h1 : -9223372036854775808 ≤ frm ∧ frm < 9223372036854775808) (h2 : -9223372036854775808 ≤ n ∧ n < 9223372036854775808) :
    Calls Tryz.prog 34 #[.int .i64 size, .int .i64 frm, .int .i64 n] w fun e w' => e = .returned (.tuple #[.int .i64 (endsL size frm n).1, .int .i64 (endsL size frm n).2]) ∧ Below w.heap.size w w' := by
  by_cases c1 : n < 1
  · have d1 : decide (n < 1) = true := decide_eq_true c1
    have HE := Lib.hid (show endsL size frm n = (0, 0) by unfold endsL; rw [if_pos (.inl c1)])
    clear c1 h h1 h2
    go_enter Tryz.func34, Tryz.ntmps34
    go_wp2_with fail
    go_ret2
    exact ⟨by rw [HE.out]; rfl, Below.refl _ _⟩
  have d1 : decide (n < 1) = false := decide_eq_false c1
  by_cases c2 : size ≤ frm
  · have d2 : decide (frm ≥ size) = true := decide_eq_true c2
    have HE := Lib.hid (show endsL size frm n = (0, 0) by unfold endsL; rw [if_pos (.inr c2)])
    clear c1 c2 h h1 h2
    go_enter Tryz.func34, Tryz.ntmps34
    go_wp2_with fail
    go_ret2
    exact ⟨by rw [HE.out]; rfl, Below.refl _ _⟩
  have d2 : decide (frm ≥ size) = false := decide_eq_false c2
  have hE0 : endsL size frm n = (max frm 0, max (if frm < 0 ∨ n < size - frm then min (frm + n) size else size) (max frm 0)) := by unfold endsL; rw [if_neg (fun h => h.elim c1 c2)]
  by_cases c3 : frm < 0
  · have d3 : decide (frm < 0) = true := decide_eq_true c3
    have HE := Lib.hid (show endsL size frm n = (max frm 0, max (min (frm + n) size) (max frm 0)) by rw [hE0, if_pos (.inl c3)])
    have e1 : wrap64 (frm + n) = frm + n := by unfold wrap64; omega
    clear c1 c2 c3 hE0 h h1 h2
    go_enter Tryz.func34, Tryz.ntmps34
    go_wp2_with fail
    go_ret2
    exact ⟨by rw [HE.out]; rfl, Below.refl _ _⟩
  have d3 : decide (frm < 0) = false := decide_eq_false c3
  have e0 : wrap64 (size - frm) = size - frm := by unfold wrap64; omega
  by_cases c4 : n < size - frm
  · have d4 : decide (n < size - frm) = true := decide_eq_true c4
    have HE := Lib.hid (show endsL size frm n = (max frm 0, max (min (frm + n) size) (max frm 0)) by rw [hE0, if_pos (.inr c4)])
    have e1 : wrap64 (frm + n) = frm + n := by unfold wrap64; omega
    clear c1 c2 c3 c4 hE0 h h1 h2
    go_enter Tryz.func34, Tryz.ntmps34
    go_wp2_with fail
    go_ret2
    exact ⟨by rw [HE.out]; rfl, Below.refl _ _⟩
  · have d4 : decide (n < size - frm) = false := decide_eq_false c4
    have HE := Lib.hid (show endsL size frm n = (max frm 0, max size (max frm 0)) by rw [hE0, if_neg (fun h => h.elim c3 c4)])
    clear c1 c2 c3 c4 hE0 h h1 h2
    go_enter Tryz.func34, Tryz.ntmps34
    go_wp2_with fail
    go_ret2
    exact ⟨by rw [HE.out]; rfl, Below.refl _ _⟩
theorem part_c (at_ len lo hi : Int) (w : World) (h1 : 0 ≤ at_ ∧ at_ ≤ 1000000) (h2 : 0 ≤ len ∧ len ≤ 1000000) (h3 : 0 ≤ lo ∧ lo ≤ 1000000) (h4 : 0 ≤ hi ∧ hi ≤ 1000000) :
    Calls Tryz.prog 85 #[.int .i64 at_, .int .i64 len, .int .i64 lo, .int .i64 hi] w fun e w' => e = .returned (.tuple #[.int .i64 (pA lo at_), .int .i64 (pB hi at_ len)]) ∧ Below w.heap.size w w' := by
  have e1 : wrap64 (max lo at_ - at_) = pA lo at_ := by unfold wrap64 pA; omega
  have e2 : wrap64 (at_ + len) = at_ + len := by unfold wrap64; omega
  have e3 : wrap64 (min hi (at_ + len) - at_) = pB hi at_ len := by unfold wrap64 pB; omega
  clear h1 h2 h3 h4
  go_enter Tryz.func85, Tryz.ntmps85
  go_wp2_with fail
  go_ret2
  exact ⟨by rw [← e1, ← e3, ← e2]; rfl, Below.refl _ _⟩
end Go.Proofs.YtdcjhpafipbpkaaGreatDoor
namespace Go.Proofs.YtdcjhpafipbpkaaGreatDoor
set_option linter.unusedVariables false
set_option maxRecDepth 100000
set_option maxHeartbeats 4000000
open Go.RowKit
def PcRow (w : World) (lo hi : Int) (l : List Rf) (k : Nat) (v : Value) (wr : World) : Prop :=
  wr.ownsRow w.heap.size 76 3 v (pcs lo hi 0 (l.take k)).length (pcells (pcs lo hi 0 (l.take k))) ∧ Below w.heap.size w wr
theorem PcRow.below {w wr w' : World} {lo hi : Int} {l : List Rf} {k : Nat} {v : Value} (h : PcRow w lo hi l k v wr) (hb : Below wr.heap.size wr w') : PcRow w lo hi l k v w' :=
  ⟨ownsRow_of2 h.1 fun j hj => hb.block j (h.1.lt j hj).2, h.2.trans (hb.mono h.2.size)⟩
theorem RefPieces_c (v : Value) (l : List Rf) (w : World) (h : RefsAt w v l) (frm n : Int) (h1 : -9223372036854775808 ≤ frm ∧ frm < 9223372036854775808) (h2 : -9223372036854775808 ≤ n ∧ n < 9223372036854775808) :
    Calls Tryz.prog 33 #[v, .int .i64 frm, .int .i64 n] w fun e w' => ∃ v', e = .returned v' ∧ Hid (w'.ownsRow w.heap.size 76 3 v' (piecesL l frm n).length (pcells (piecesL l frm n)) ∧ Below w.heap.size w w') := by
  have RC := RefRight_c v l w h
  cases hr : rightR l with
  | false =>
    rw [hr] at RC
    have HE := Lib.hid (show piecesL l frm n = [] by unfold piecesL; rw [hr]; rfl)
    clear h h1 h2 hr
    go_enter Tryz.func33, Tryz.ntmps33
    go_wp2_with fail
    refine RC.mono ?_
    rintro e w1 ⟨rfl, HB1⟩
    have HG := Lib.hid HB1
    clear RC HB1
    go_wp2_with fail
    go_ret
    exact ⟨_, rfl, Lib.hid ⟨by rw [HE.out]; exact World.ownsRow_nil _ _ _ _, HG.out⟩⟩
  | true =>
    rw [hr] at RC
    obtain ⟨hall, h4⟩ := rightR_parts hr
    have hsb := sumR_bound hall
    obtain ⟨lo, hlo⟩ : ∃ lo, (endsL (sumR l) frm n).1 = lo := ⟨_, rfl⟩
    obtain ⟨hi, hhi⟩ : ∃ hi, (endsL (sumR l) frm n).2 = hi := ⟨_, rfl⟩
    have hok := endsL_ok (sumR l) frm n hsb.1
    have HE := Lib.hid (show piecesL l frm n = pcs lo hi 0 l by unfold piecesL; rw [if_pos hr, hlo, hhi])
    have EN := fun w => RefEnds_c (sumR l) frm n w (by omega) h1 h2
    rw [hlo, hhi] at hok EN
    have HOK := Lib.hid (show 0 ≤ lo ∧ lo ≤ 1000000 ∧ 0 ≤ hi ∧ hi ≤ 1000000 by omega)
    have SZ : Hid (∀ w1, Below w.heap.size w w1 → Calls Tryz.prog 35 #[v] w1 fun e w' => e = .returned (.int .i64 (sumR l)) ∧ Below w1.heap.size w1 w') := Lib.hid fun w1 hb => by
      have := RefSize_c v l w1 (h.below hb)
      rwa [show sizeR l = sumR l by unfold sizeR; rw [hr]; rfl] at this
    have HF := Lib.hid h
    have HR := Lib.hid hr
    have HAL := Lib.hid hall
    have HLN := Lib.hid h4
    obtain ⟨jP, hjP, hP0, hP1, hP2⟩ := info_parts infoPc
    obtain ⟨a, cap, rfl⟩ := h.form
    clear h h1 h2 hr hall h4 hsb hlo hhi hok
    generalize sumR l = sz at *
    go_enter Tryz.func33, Tryz.ntmps33
    go_wp2_with fail
    refine RC.mono ?_
    rintro e w1 ⟨rfl, HB1⟩
    have HB1 := Lib.hid HB1
    have S1 := SZ.out w1 HB1.out
    clear RC SZ
    go_wp2_with fail
    refine S1.mono ?_
    rintro e w2 ⟨rfl, HB2⟩
    have HB2 := Lib.hid (HB1.out.trans (HB2.mono HB1.out.size))
    have E2 := EN w2
    clear S1 HB1 EN
    go_wp2_with fail
    refine E2.mono ?_
    rintro e w3 ⟨rfl, HB3⟩
    have R0 : Hid (PcRow w lo hi l 0 (.slice none 0 0) w3) := Lib.hid ⟨by rw [List.take_zero]; exact World.ownsRow_nil _ _ _ _, HB2.out.trans (HB3.mono HB2.out.size)⟩
    clear E2 HB2 HB3
    go_wp2_with fail
    go_loopg [9, 10, 11] l.length (fun g s9 s10 s11 wr => ∃ (k : Nat) (vo : Value), g = l.length - k ∧ k ≤ l.length ∧ s10 = .int .i64 (atK l k) ∧ s11 = .int .i64 (k : Int) ∧ vo = s9 ∧ Hid (PcRow w lo hi l k vo wr))
    case atStart => exact ⟨0, _, rfl, Nat.zero_le _, rfl, rfl, rfl, R0⟩
    case round =>
      obtain ⟨k, vo, rfl, hk, rfl, rfl, rfl, HI⟩ := hrel
      clear R0
      by_cases hlt : k < l.length
      · obtain ⟨b, off, rfl, c1, c2, hbw⟩ := (HF.out).get k hlt
        have c1 := (HI.out.2.cell (p := ⟨b, off + k * 2, none⟩) hbw).trans c1
        have c2 := (HI.out.2.cell (p := ⟨b, off + k * 2 + 1, none⟩) hbw).trans c2
        have hbl := Nat.lt_of_lt_of_le hbw HI.out.2.size
        have HOL : Hid (∀ j, vo.ownBlock = some j → w.heap.size ≤ j) := Lib.hid fun j e => (HI.out.1.lt j e).1
        have hat := atK_bound HR.out k
        have hat1 := atK_bound HR.out (k + 1)
        have hsu := atK_succ hlt
        rw [hsu] at hat1
        have hp := (List.all_eq_true.1 HAL.out) _ (List.getElem_mem hlt)
        simp only [rOk, Bool.and_eq_true, decide_eq_true_eq] at hp
        have HWR := Lib.hid (wrap_up hlt (Nat.le_trans HLN.out (by decide)))
        have hT := pcs_take lo hi hlt
        have hlen := pcs_len lo hi (l.take k) 0
        rw [List.length_take] at hlen
        have HSU := Lib.hid hsu
        have HTK := Lib.hid hT
        have HLE := Lib.hid (show (pcs lo hi 0 (l.take k)).length ≤ 4000 by have := HLN.out; omega)
        have PT := fun W => part_c (atK l k) l[k].2 lo hi W (by omega) (by omega) (by have := HOK.out; omega) (by have := HOK.out; omega)
        have HNO : Hid (¬ pA lo (atK l k) < pB hi (atK l k) l[k].2 → ∀ W, Below wr.heap.size wr W → PcRow w lo hi l (k + 1) vo W) := Lib.hid fun hn W hb => by
          unfold PcRow
          rw [HTK.out]
          unfold pc1
          rw [if_neg hn, List.append_nil]
          exact HI.out.below hb
        have HYE : Hid (pA lo (atK l k) < pB hi (atK l k) l[k].2 → ∀ W W5 v5, Below wr.heap.size wr W → W.grownBy W5 vo.ownBlock → W5.ownsRow w.heap.size 76 3 v5 ((pcs lo hi 0 (l.take k)).length + 1) (pcells (pcs lo hi 0 (l.take k)) ++ [.string l[k].1, .int .i64 (pA lo (atK l k)), .int .i64 (pB hi (atK l k) l[k].2)]) → PcRow w lo hi l (k + 1) v5 W5) := Lib.hid fun hy W W5 v5 hb hg ho => by
          unfold PcRow
          rw [HTK.out]
          unfold pc1
          rw [if_pos hy, pcells_snoc, List.length_append, List.length_singleton]
          refine ⟨ho, (HI.out.2.trans (hb.mono HI.out.2.size)).grown hg (Nat.le_trans HI.out.2.size hb.size) fun j e => (HI.out.1.lt j e).1⟩
        have HOW : Hid (∀ W, Below wr.heap.size wr W → W.ownsRow w.heap.size 76 3 vo (pcs lo hi 0 (l.take k)).length (pcells (pcs lo hi 0 (l.take k))) ∧ w.heap.size ≤ W.heap.size) := Lib.hid fun W hb => ⟨(HI.out.below hb).1, (HI.out.below hb).2.size⟩
        have e3 : wrap64 (atK l k + l[k].2) = atK l (k + 1) := by rw [hsu]; unfold wrap64; omega
        obtain ⟨at1, hat1'⟩ : ∃ x, atK l (k + 1) = x := ⟨_, rfl⟩
        have HA1 := Lib.hid hat1'
        rw [hat1'] at e3
        clear hat hat1 hsu hT hlen hp hat1'
        clear HSU HTK HI HR HAL HOK
        generalize (pcs lo hi 0 (l.take k)).length = pl at *
        generalize pcs lo hi 0 (l.take k) = pp at *
        generalize l[k] = p at *
        obtain ⟨i, q⟩ := p
        simp only at c1 c2 PT HNO HYE e3
        generalize pA lo (atK l k) = A at *
        generalize pB hi (atK l k) q = B at *
        generalize atK l k = at_ at *
        have CEL : Hid (∀ W, Below wr.heap.size wr W → W.cell? ⟨b, off + k * 2, none⟩ = some (.string i) ∧ W.cell? ⟨b, off + k * 2 + 1, none⟩ = some (.int .i64 q)) := Lib.hid fun W hb => ⟨(hb.cell (p := ⟨b, off + k * 2, none⟩) hbl).trans c1, (hb.cell (p := ⟨b, off + k * 2 + 1, none⟩) hbl).trans c2⟩
        go_wp2_with fail
        refine (PT _).mono ?_
        rintro e w4 ⟨rfl, HB4⟩
        obtain ⟨d1, d2⟩ := CEL.out w4 HB4
        by_cases hab : A < B
        · have dab : decide (A < B) = true := decide_eq_true hab
          have HST := Lib.hid (HYE.out hab)
          obtain ⟨o1, o2⟩ := HOW.out w4 HB4
          have HO4 := Lib.hid o1
          have HZ4 := Lib.hid o2
          have HB4 := Lib.hid HB4
          have L1 := Lib.hid (show pl + 1 ≤ maxLen ∧ (pl + 1) * 32 ≤ 140737488355328 from ⟨Nat.le_trans (by have := HLE.out; omega : pl + 1 ≤ 1000000) (by decide), by have := HLE.out; omega⟩)
          have HB5 : Hid (∀ o, w.heap.size ≤ (w4.alloc o).heap.size) := Lib.hid fun o => by have := HZ4.out; simp; omega
          have HBL : Hid (∀ o, Below wr.heap.size wr (w4.alloc o)) := Lib.hid fun o => HB4.out.alloc HB4.out.size o
          have DD : Hid (∀ o W5, (w4.alloc o).grownBy W5 vo.ownBlock → W5.cell? ⟨b, off + k * 2 + 1, none⟩ = some (.int .i64 q)) := Lib.hid fun o W5 hg => by
            have hlt4 : b < w4.heap.size := Nat.lt_of_lt_of_le hbl HB4.out.size
            refine hg.cell ((((Below.refl w4.heap.size w4).alloc (Nat.le_refl _) o).cell (p := ⟨b, off + k * 2 + 1, none⟩) hlt4).trans d2) fun e => ?_
            have := HOL.out b e.symm
            omega
          clear PT HNO HYE HOW CEL o1 o2 hab
          go_wp2_with (first
            | (refine chkA 73 73 ⟨_, _, by with_reducible rfl⟩ ?_
               refine wpList_append_y (by rfl) _ _ _ rfl w.heap.size 76 jP _ 3 32 Tryz.underlying73 hjP hP0 hP1 hP2 rfl (by decide) _ _ _ (by rfl) (HO4.out.alloc _) _ 1 _ (by rfl) (yields_boxL _ #[.string i, .int .i64 A, .int .i64 B] _ 1 1) rfl (one3 _ _ _ rfl rfl rfl) L1.out.1 L1.out.2 (HB5.out _) ?_
               intro v5 W5 ho5 hg5 ha5
               have HN5 := Lib.hid (HST.out _ W5 v5 (HBL.out _) hg5 ho5)
               have f2 := DD.out _ W5 hg5
               clear ho5 hg5 ha5))
          go_roundg (l.length - (k + 1))
          case measure => omega
          case rel => exact ⟨k + 1, _, rfl, hlt, congrArg (Value.int .i64) (e3.trans HA1.out.symm), congrArg (Value.int .i64) HWR.out, rfl, HN5⟩
        · have dab : decide (A < B) = false := decide_eq_false hab
          have HN5 := Lib.hid (HNO.out (Int.not_lt.1 hab) w4 HB4)
          clear PT HNO HYE HOW CEL hab HB4
          go_wp2_with fail
          go_roundg (l.length - (k + 1))
          case measure => omega
          case rel => exact ⟨k + 1, _, rfl, hlt, congrArg (Value.int .i64) (e3.trans HA1.out.symm), congrArg (Value.int .i64) HWR.out, rfl, HN5⟩
      · obtain rfl : k = l.length := by omega
        obtain ⟨g1, g2⟩ := HI.out
        rw [List.take_length, ← HE.out] at g1
        have HG := Lib.hid (And.intro g1 g2)
        clear HI g1 g2 hlt hk
        go_wp2_with fail
        go_ret
        exact ⟨_, rfl, HG⟩
end Go.Proofs.YtdcjhpafipbpkaaGreatDoor
namespace Go.Proofs.YtdcjhpafipbpkaaGreatDoor
set_option linter.unusedVariables false
set_option maxRecDepth 100000
set_option maxHeartbeats 1000000
open Go.RowKit
theorem readsC_rf {w : World} {es : List Value} (h : ReadsC w 57 es) : ∃ (s : ByteArray) (n : Int), es = [.string s, .int .i64 n] ∧ (-9223372036854775808 ≤ n ∧ n < 9223372036854775808) := by
  obtain ⟨hl, hf⟩ := readsC_struct Tryz.underlying57 h
  have hl : es.length = 2 := hl.trans (by kernel_rfl)
  have c1 : Tryz.prog.cellsOf 9 = 1 := by kernel_rfl
  have c2 : Tryz.prog.cellsOf 3 = 1 := by kernel_rfl
  match es, hl with
  | [a, b], _ =>
    have f0 : ReadsC w 9 (([a, b].drop 0).take (Tryz.prog.cellsOf 9)) := hf 0 _ rfl
    have f1 : ReadsC w 3 (([a, b].drop 1).take (Tryz.prog.cellsOf 3)) := hf 1 _ rfl
    rw [c1] at f0
    rw [c2] at f1
    obtain ⟨t, e1, h1⟩ := readsC_string Tryz.underlying9 f0
    obtain ⟨n, e2, h2⟩ := readsC_int Tryz.underlying3 f1
    simp at e1 e2
    subst e1 e2
    have := bounds_i64 h2
    exact ⟨t, n, rfl, by omega⟩
theorem reads_refs {w : World} {v : Value} (h : Reads w 46 v) : ∃ l : List Rf, RefsAt w v l := by
  have c2 : Tryz.prog.cellsOf 57 = 2 := by kernel_rfl
  obtain ⟨a, len, cap, rfl, hlc, hcm, hel⟩ := reads_slice Tryz.underlying46 (by rw [c2]; decide) h
  rw [c2] at hel
  obtain ⟨l, hl, hp⟩ := choose_list (n := len) (p := fun k (f : Rf) => (∃ b off, a = some ⟨b, off, none⟩ ∧ w.cell? ⟨b, off + k * 2, none⟩ = some (.string f.1) ∧ w.cell? ⟨b, off + k * 2 + 1, none⟩ = some (.int .i64 f.2) ∧ b < w.heap.size) ∧ RfIn f) (fun k hk => by
    obtain ⟨b, off, es, rfl, hes, hb, hc, hr⟩ := hel k hk
    obtain ⟨s, n, rfl, hn⟩ := readsC_rf hr
    exact ⟨(s, n), ⟨b, off, rfl, hc 0 (by simp), hc 1 (by simp), hb⟩, hn⟩)
  subst hl
  refine ⟨l, ⟨a, cap, rfl, fun k hk => (hp k hk).1⟩, ?_, Nat.le_trans hlc hcm⟩
  intro p hp'
  obtain ⟨k, hk, rfl⟩ := List.mem_iff_getElem.1 hp'
  exact (hp k hk).2
def pcSum : List Pc → Int
  | [] => 0
  | p :: r => p.2.2 - p.2.1 + pcSum r
theorem pcSum_append (l m : List Pc) : pcSum (l ++ m) = pcSum l + pcSum m := by
  induction l with
  | nil => simp [pcSum]
  | cons p r ih => simp only [List.cons_append, pcSum, ih]; omega
theorem pc1_sum (lo hi at_ : Int) (p : Rf) : pcSum (pc1 lo hi at_ p) = max 0 (min hi (at_ + p.2) - max lo at_) := by
  unfold pc1
  split
  · simp only [pcSum]; unfold pA pB at *; omega
  · simp only [pcSum]; unfold pA pB at *; omega
theorem pcs_sum (lo hi : Int) (h : lo ≤ hi) : ∀ (l : List Rf) (at_ : Int), l.all rOk = true → pcSum (pcs lo hi at_ l) = max 0 (min hi (at_ + sumR l) - max lo at_)
  | [], at_, _ => by simp only [pcs, pcSum, sumR]; omega
  | p :: r, at_, ha => by
    simp only [List.all_cons, Bool.and_eq_true] at ha
    have hp := ha.1
    simp only [rOk, Bool.and_eq_true, decide_eq_true_eq] at hp
    have hs := sumR_bound ha.2
    simp only [pcs, pcSum_append, pc1_sum, pcs_sum lo hi h r _ ha.2, sumR]
    omega
theorem pc1_in (lo hi at_ : Int) (p : Rf) (hp : p.2 ≤ 128) : ∀ x ∈ pc1 lo hi at_ p, 0 ≤ x.2.1 ∧ x.2.1 ≤ x.2.2 ∧ x.2.2 ≤ 128 := by
  unfold pc1
  split
  · intro x hx
    simp only [List.mem_singleton] at hx
    subst hx
    simp only
    unfold pA pB at *
    omega
  · intro x hx; cases hx
theorem pcs_in (lo hi : Int) : ∀ (l : List Rf) (at_ : Int), l.all rOk = true → ∀ x ∈ pcs lo hi at_ l, 0 ≤ x.2.1 ∧ x.2.1 ≤ x.2.2 ∧ x.2.2 ≤ 128
  | [], _, _ => fun x hx => by cases hx
  | p :: r, at_, ha => by
    simp only [List.all_cons, Bool.and_eq_true] at ha
    have hp := ha.1
    simp only [rOk, Bool.and_eq_true, decide_eq_true_eq] at hp
    intro x hx
    simp only [pcs, List.mem_append] at hx
    rcases hx with hx | hx
    · exact pc1_in lo hi at_ p hp.2.2 x hx
    · exact pcs_in lo hi r _ ha.2 x hx
theorem pieces_in (l : List Rf) (frm n : Int) : ∀ x ∈ piecesL l frm n, 0 ≤ x.2.1 ∧ x.2.1 ≤ x.2.2 ∧ x.2.2 ≤ 128 := by
  unfold piecesL
  split
  · rename_i h
    exact pcs_in _ _ l 0 (rightR_parts h).1
  · intro x hx; cases hx
theorem pieces_sum (l : List Rf) (frm n : Int) : pcSum (piecesL l frm n) = (endsL (sizeR l) frm n).2 - (endsL (sizeR l) frm n).1 := by
  unfold piecesL sizeR
  split
  · rename_i h
    have hs := sumR_bound (rightR_parts h).1
    have he := endsL_ok (sumR l) frm n hs.1
    rw [pcs_sum _ _ he.2.1 l 0 (rightR_parts h).1]
    omega
  · have he := endsL_ok 0 frm n (Int.le_refl _)
    simp only [pcSum]
    omega
theorem pcSum_bound {l : List Pc} (h : ∀ x ∈ l, 0 ≤ x.2.1 ∧ x.2.1 ≤ x.2.2 ∧ x.2.2 ≤ 128) : 0 ≤ pcSum l ∧ pcSum l ≤ 128 * l.length := by
  induction l with
  | nil => simp [pcSum]
  | cons p r ih =>
    have h1 := h p (by simp)
    have h2 := ih fun x hx => h x (List.mem_cons_of_mem _ hx)
    simp only [pcSum, List.length_cons]
    push_cast
    omega
theorem pcells_get {l : List Pc} {k : Nat} (h : k < l.length) : (pcells l)[k * 3]? = some (.string l[k].1) ∧ (pcells l)[k * 3 + 1]? = some (.int .i64 l[k].2.1) ∧ (pcells l)[k * 3 + 2]? = some (.int .i64 l[k].2.2) := by
  induction l generalizing k with
  | nil => simp at h
  | cons p r ih =>
    cases k with
    | zero => exact ⟨rfl, rfl, rfl⟩
    | succ k =>
      have := ih (k := k) (by simpa using h)
      have e1 : (k + 1) * 3 = (k * 3) + 3 := by omega
      rw [e1]
      exact this
/-- A piece of a row. -/
theorem pc_get {w : World} {base : Nat} {a : Option Addr} {n c : Nat} {l : List Pc} (h : w.ownsRow base 76 3 (.slice a n c) l.length (pcells l)) {k : Nat} (hk : k < l.length) :
    ∃ g, a = some ⟨g, 0, none⟩ ∧ w.cell? ⟨g, k * 3, none⟩ = some (.string l[k].1) ∧ w.cell? ⟨g, k * 3 + 1, none⟩ = some (.int .i64 l[k].2.1) ∧ w.cell? ⟨g, k * 3 + 2, none⟩ = some (.int .i64 l[k].2.2) ∧ g < w.heap.size := by
  rcases h.2 with ⟨e, h0⟩ | ⟨g, cap, cur, e, -⟩
  · omega
  · cases e
    have f : ∀ j x, (pcells l)[j]? = some x → w.cell? ⟨g, j, none⟩ = some x := fun j x hx => by
      have := h.cells rfl j x hx
      rwa [addr_add2, Nat.zero_add] at this
    exact ⟨g, rfl, f _ _ (pcells_get hk).1, f _ _ (pcells_get hk).2.1, f _ _ (pcells_get hk).2.2, (h.lt g rfl).2⟩
end Go.Proofs.YtdcjhpafipbpkaaGreatDoor
namespace Go.Proofs.YtdcjhpafipbpkaaGreatDoor
set_option linter.unusedVariables false
set_option maxRecDepth 100000
set_option maxHeartbeats 4000000
open Go.RowKit
theorem SameR_t (a b : Value) (l : List Rf) (w : World) (ha : RefsAt w a l) (hb : RefsAt w b l) :
    Calls Tryz.prog 26 #[a, b] w fun e w' => e = .returned (.bool true) ∧ Below w.heap.size w w' := by
  have HA := Lib.hid ha
  have HB := Lib.hid hb
  have HLN := Lib.hid ha.len
  obtain ⟨x, cx, rfl⟩ := ha.form
  obtain ⟨y, cy, rfl⟩ := hb.form
  clear ha hb
  go_enter Tryz.func26, Tryz.ntmps26
  go_wp2_with fail
  go_loopg [14] l.length (fun g s5 wr => ∃ k : Nat, g = l.length - k ∧ k ≤ l.length ∧ s5 = .int .i64 (k : Int) ∧ Hid (Below w.heap.size w wr))
  case atStart => exact ⟨0, by omega, Nat.zero_le _, rfl, Lib.hid (Below.refl _ _)⟩
  case round =>
    obtain ⟨k, rfl, hk, rfl, HW⟩ := hrel
    by_cases hlt : k < l.length
    · obtain ⟨b1, o1, rfl, c1, c2, hb1⟩ := ((HA.out).below HW.out).get k hlt
      obtain ⟨b2, o2, rfl, d1, d2, hb2⟩ := ((HB.out).below HW.out).get k hlt
      have HWR := Lib.hid (wrap_up hlt HLN.out)
      generalize l[k] = f at *
      obtain ⟨n, S⟩ := f
      simp only at c1 c2 d1 d2
      have HW2 : Hid (∀ o, Below w.heap.size w (wr.alloc o).drew) := Lib.hid fun o => (HW.out.alloc HW.out.size o).drew
      clear HW
      go_wp2_with fail
      go_region
      go_wp2_with fail
      go_roundg (l.length - (k + 1))
      case measure => omega
      case rel => exact ⟨k + 1, rfl, by omega, congrArg (Value.int .i64) HWR.out, Lib.hid (HW2.out _)⟩
    · obtain rfl : k = l.length := by omega
      go_wp2_with fail
      go_ret
      exact ⟨rfl, HW.out⟩
end Go.Proofs.YtdcjhpafipbpkaaGreatDoor
namespace Go.Proofs.YtdcjhpafipbpkaaGreatDoor
set_option linter.unusedVariables false
set_option maxRecDepth 100000
set_option maxHeartbeats 4000000
open Go.RowKit
theorem readR_some {s : ByteArray} {T : List Rf} (h : readR s = some T) : rightR T = true ∧ ofL (wrR T) = s ∧ ∀ p ∈ T, RfIn p := by
  unfold readR at h
  split at h
  · rename_i hc
    cases h
    refine ⟨hc.2, ?_, rdK_in _ _⟩
    rw [wrR_rdK (s.size / 34) s (by omega) (rightR_parts hc.2).1, ofL_toList]
  · cases h
theorem readR_wrR {l : List Rf} (h : rightR l = true) : readR (ofL (wrR l)) = some l := by
  have hl := wrR_len (rightR_parts h).1
  have hs : (ofL (wrR l)).size = 34 * l.length := by rw [ofL_size, hl]
  have hd : (ofL (wrR l)).size / 34 = l.length := by rw [hs]; omega
  unfold readR
  rw [hd, rdK_wrR l (rightR_parts h).1, if_pos ⟨by rw [hs]; omega, h⟩]
def rdL (s : ByteArray) : List Rf := (readR s).getD []
theorem rdEnd {w w' : World} {s : ByteArray} {e : Ending} (h : (readR s = none ∧ e = .returned (.tuple #[.slice none 0 0, .bool false]) ∧ Below w.heap.size w w') ∨ ∃ v l, readR s = some l ∧ e = .returned (.tuple #[v, .bool true]) ∧ w'.ownsRow w.heap.size 57 2 v l.length (rcells l) ∧ Below w.heap.size w w') :
    ∃ v, e = .returned (.tuple #[v, .bool (readR s).isSome]) ∧ Hid (RefsAt w' v (rdL s) ∧ Below w.heap.size w w') := by
  rcases h with ⟨h1, rfl, h2⟩ | ⟨v, l, h1, rfl, h2, h3⟩
  · exact ⟨_, by rw [h1]; rfl, Lib.hid ⟨by unfold rdL; rw [h1]; exact RefsAt.nil _, h2⟩⟩
  · have hr := readR_some h1
    have h4 := (rightR_parts hr.1).2
    exact ⟨v, by rw [h1]; rfl, Lib.hid ⟨by unfold rdL; rw [h1]; exact (refs_of_own h2 rfl hr.2.2 (by omega)).1, h3⟩⟩
theorem ReadA (s : ByteArray) (w : World) (hs : s.size ≤ 100000) : Calls Tryz.prog 40 #[.string s] w fun e w' => ∃ v, e = .returned (.tuple #[v, .bool (readR s).isSome]) ∧ Hid (RefsAt w' v (rdL s) ∧ Below w.heap.size w w') := by
  by_cases h0 : s.size % 34 = 0
  · exact (Read_rc s w hs h0).mono fun e w' h => rdEnd h
  · exact (Read_no s w h0).mono fun e w' h => rdEnd (.inl h)
theorem ReadB (s : ByteArray) (w : World) (hs : s.size ≤ 100000) : Calls Tryz.prog 41 #[.string s] w fun e w' => ∃ v, e = .returned (.tuple #[v, .bool (readR s).isSome]) ∧ Hid (RefsAt w' v (rdL s) ∧ Below w.heap.size w w') :=
  (RefRead_rc s w hs).mono fun e w' h => rdEnd h
theorem RecipeWrites_k (v : Value) (l : List Rf) (s : ByteArray) (w : World) (h : RefsAt w v l) :
    Calls Tryz.prog 8 #[v, .string s] w fun e w' => e = .returned (.bool true) ∧ Below w.heap.size w w' := by
  have AW := awake12_c w
  have HF := Lib.hid h
  have FW : Hid (∀ w1, Below w.heap.size w w1 → Calls Tryz.prog 31 #[v] w1 fun e w' => e = .returned (.bool (fewR l)) ∧ Below w1.heap.size w1 w') := Lib.hid fun w1 hb => FewR_c v l w1 (h.below hb)
  have WA : Hid (∀ w1, Below w.heap.size w w1 → Calls Tryz.prog 38 #[v] w1 fun e w' => e = .returned (.tuple #[.string (if rightR l then ofL (wrR l) else ⟨#[]⟩), .bool (rightR l)]) ∧ Below w1.heap.size w1 w') := Lib.hid fun w1 hb => Write_rc v l w1 (h.below hb)
  have WB : Hid (∀ w1, Below w.heap.size w w1 → Calls Tryz.prog 39 #[v] w1 fun e w' => e = .returned (.tuple #[.string (if rightR l then ofL (wrR l) else ⟨#[]⟩), .bool (rightR l)]) ∧ Below w1.heap.size w1 w') := Lib.hid fun w1 hb => RefWrite_rc v l w1 (h.below hb)
  have RA : Hid (∀ w1, Below w.heap.size w w1 → Calls Tryz.prog 42 #[v] w1 fun e w' => e = .returned (.bool (rightR l)) ∧ Below w1.heap.size w1 w') := Lib.hid fun w1 hb => RightR_c v l w1 (h.below hb)
  have SA : Hid (∀ w1, Below w.heap.size w w1 → Calls Tryz.prog 43 #[v] w1 fun e w' => e = .returned (.int .i64 (sizeR l)) ∧ Below w1.heap.size w1 w') := Lib.hid fun w1 hb => SizeR_c v l w1 (h.below hb)
  have SB : Hid (∀ w1, Below w.heap.size w w1 → Calls Tryz.prog 35 #[v] w1 fun e w' => e = .returned (.int .i64 (sizeR l)) ∧ Below w1.heap.size w1 w') := Lib.hid fun w1 hb => RefSize_c v l w1 (h.below hb)
  have HRB : Hid (rightR l = true → readR (ofL (wrR l)) = some l ∧ (ofL (wrR l)).size ≤ 100000 ∨ 60 < l.length) := Lib.hid fun hr => by
    by_cases h6 : l.length ≤ 60
    · exact .inl ⟨readR_wrR hr, by rw [ofL_size, wrR_len (rightR_parts hr).1]; omega⟩
    · exact .inr (by omega)
  have HFW : Hid (fewR l = true → l.length ≤ 60) := Lib.hid fun hf => by
    simp only [fewR, Bool.and_eq_true, decide_eq_true_eq] at hf
    exact hf.1
  obtain ⟨bB, hbB⟩ : ∃ x, (if rightR l then ofL (wrR l) else ⟨#[]⟩) = x := ⟨_, rfl⟩
  rw [hbB] at WA WB
  obtain ⟨ok, hok⟩ : ∃ x, rightR l = x := ⟨_, rfl⟩
  have HBF : Hid (ok = true → l.length ≤ 60 → readR bB = some l ∧ bB.size ≤ 100000) := Lib.hid fun h1 h2 => by
    rw [h1] at hok
    rw [← hbB, if_pos hok]
    rcases HRB.out hok with h | h
    · exact h
    · omega
  rw [hok] at WA WB RA
  clear HRB hbB hok
  obtain ⟨bk, hbk⟩ : ∃ x, (readR s).isSome = x := ⟨_, rfl⟩
  obtain ⟨M, hM⟩ : ∃ x, rdL s = x := ⟨_, rfl⟩
  have HMF : Hid (bk = true → rightR M = true ∧ ofL (wrR M) = s) := Lib.hid fun h1 => by
    rw [h1] at hbk
    cases hq : readR s with
    | none => rw [hq] at hbk; cases hbk
    | some T =>
      have hT : M = T := by rw [← hM]; unfold rdL; rw [hq]; rfl
      have := readR_some hq
      rw [hT]; exact ⟨this.1, this.2.1⟩
  have RDA : Hid (s.size ≤ 100000 → ∀ w, Calls Tryz.prog 40 #[.string s] w fun e w' => ∃ v, e = .returned (.tuple #[v, .bool bk]) ∧ Hid (RefsAt w' v M ∧ Below w.heap.size w w')) := Lib.hid fun h w => by
    have := ReadA s w h
    rwa [hbk, hM] at this
  have RDB : Hid (s.size ≤ 100000 → ∀ w, Calls Tryz.prog 41 #[.string s] w fun e w' => ∃ v, e = .returned (.tuple #[v, .bool bk]) ∧ Hid (RefsAt w' v M ∧ Below w.heap.size w w')) := Lib.hid fun h w => by
    have := ReadB s w h
    rwa [hbk, hM] at this
  clear h hbk hM
  generalize sizeR l = sz at *
  go_enter Tryz.func8, Tryz.ntmps8
  go_wp2_with fail
  refine AW.mono ?_
  rintro e w1 ⟨rfl, HB1⟩
  have F1 := FW.out w1 HB1.out
  clear AW FW
  go_wp2_with fail
  refine F1.mono ?_
  rintro e w2 ⟨rfl, hB2⟩
  have HB2 := Lib.hid (HB1.out.trans (hB2.mono HB1.out.size))
  clear F1 hB2 HB1
  cases hf : fewR l with
  | false =>
    go_wp2_with fail
    go_ret
    exact ⟨rfl, HB2.out⟩
  | true =>
    by_cases h3 : 3000 < s.size
    · have d3 : decide ((s.size : Int) > 3000) = true := decide_eq_true (by omega)
      clear h3
      go_wp2_with fail
      go_ret
      exact ⟨rfl, HB2.out⟩
    have d3 : decide ((s.size : Int) > 3000) = false := decide_eq_false (by omega)
    have HS3 := Lib.hid (show s.size ≤ 100000 by omega)
    have HL60 := Lib.hid (HFW.out hf)
    clear h3 HFW hf
    have W2 := WA.out w2 HB2.out
    go_wp2_with fail
    refine W2.mono ?_
    rintro e w3 ⟨rfl, hB3⟩
    have HB3 := Lib.hid (HB2.out.trans (hB3.mono HB2.out.size))
    have W3 := WB.out w3 HB3.out
    clear W2 hB3 HB2 WA WB
    go_wp2_with fail
    refine W3.mono ?_
    rintro e w4 ⟨rfl, hB4⟩
    have HB4 := Lib.hid (HB3.out.trans (hB4.mono HB3.out.size))
    have R4 := RDA.out HS3.out w4
    clear W3 hB4 HB3
    go_wp2_with fail
    refine R4.mono ?_
    rintro e w5 ⟨vm, rfl, HM⟩
    have HB5 := Lib.hid (HB4.out.trans (HM.out.2.mono HB4.out.size))
    have R5 := RDB.out HS3.out w5
    clear R4 HB4
    go_wp2_with fail
    refine R5.mono ?_
    rintro e w6 ⟨vu, rfl, HU⟩
    have HB6 := Lib.hid (HB5.out.trans (HU.out.2.mono HB5.out.size))
    have HM6 := Lib.hid (HM.out.1.below HU.out.2)
    have SM := SameR_t vm vu M w6 HM6.out HU.out.1
    clear R5 HB5 HM
    clear RDA RDB
    go_wp2_with fail
    refine SM.mono ?_
    rintro e w7 ⟨rfl, hB7⟩
    have HB7 := Lib.hid (HB6.out.trans (hB7.mono HB6.out.size))
    have HM7 := Lib.hid (HM6.out.below hB7)
    have R7 := RA.out w7 HB7.out
    clear SM hB7 HB6 HM6 HU RA
    go_wp2_with fail
    refine R7.mono ?_
    rintro e w8 ⟨rfl, hB8⟩
    have HB8 := Lib.hid (HB7.out.trans (hB8.mono HB7.out.size))
    have HM8 := Lib.hid (HM7.out.below hB8)
    have S8 := SA.out w8 HB8.out
    clear R7 hB8 HB7 HM7 SA
    go_wp2_with fail
    refine S8.mono ?_
    rintro e w9 ⟨rfl, hB9⟩
    have HB9 := Lib.hid (HB8.out.trans (hB9.mono HB8.out.size))
    have HM9 := Lib.hid (HM8.out.below hB9)
    have S9 := SB.out w9 HB9.out
    clear S8 hB9 HB8 HM8 SB
    go_wp2_with fail
    refine S9.mono ?_
    rintro e wa ⟨rfl, hBa⟩
    have HBa := Lib.hid (HB9.out.trans (hBa.mono HB9.out.size))
    have HMa := Lib.hid (HM9.out.below hBa)
    clear S9 hBa HB9 HM9
    -- the last part
    have LAST : Hid (ok = true → ∀ W, Below w.heap.size w W → Calls Tryz.prog 40 #[.string bB] W fun e w' => ∃ vn, e = .returned (.tuple #[vn, .bool true]) ∧ Hid (Below w.heap.size w w' ∧ Calls Tryz.prog 26 #[vn, v] w' fun e w'' => e = .returned (.bool true) ∧ Hid (Below w.heap.size w w''))) := Lib.hid fun hk W hW => by
      obtain ⟨h1, h2⟩ := HBF.out hk HL60.out
      have := ReadA bB W h2
      unfold rdL at this
      rw [h1] at this
      refine this.mono ?_
      rintro e w' ⟨vn, rfl, hE⟩
      have hb' := hW.trans (hE.out.2.mono hW.size)
      refine ⟨vn, rfl, Lib.hid ⟨hb', ?_⟩⟩
      refine (SameR_t vn v l w' hE.out.1 (HF.out.below hb')).mono ?_
      rintro e w'' ⟨rfl, h''⟩
      exact ⟨rfl, Lib.hid (hb'.trans (h''.mono hb'.size))⟩
    have MID : Hid (bk = true → Calls Tryz.prog 38 #[vm] wa fun e w' => e = .returned (.tuple #[.string s, .bool true]) ∧ Hid (Below w.heap.size w w')) := Lib.hid fun hk => by
      obtain ⟨h1, h2⟩ := HMF.out hk
      have := Write_rc vm M wa HMa.out
      rw [h1, if_pos rfl, h2] at this
      refine this.mono ?_
      rintro e w' ⟨rfl, h'⟩
      exact ⟨rfl, Lib.hid (HBa.out.trans (h'.mono HBa.out.size))⟩
    clear HBF HMF HF HS3 HL60 HMa
    cases bk with
    | false =>
      cases ok with
      | false =>
        go_wp2_with fail
        go_ret
        exact ⟨rfl, HBa.out⟩
      | true =>
        have L1 := LAST.out rfl wa HBa.out
        clear LAST MID
        go_wp2_with fail
        refine L1.mono ?_
        rintro e wb ⟨vn, rfl, HN⟩
        have SN := HN.out.2
        clear L1 HN
        go_wp2_with fail
        refine SN.mono ?_
        rintro e wc ⟨rfl, HE⟩
        go_wp2_with fail
        go_ret
        exact ⟨rfl, HE.out⟩
    | true =>
      have M1 := MID.out rfl
      clear MID
      go_wp2_with fail
      refine M1.mono ?_
      rintro e wz ⟨rfl, HBz⟩
      clear M1
      cases ok with
      | false =>
        go_wp2_with fail
        go_ret
        exact ⟨rfl, HBz.out⟩
      | true =>
        have L1 := LAST.out rfl wz HBz.out
        clear LAST
        go_wp2_with fail
        refine L1.mono ?_
        rintro e wb ⟨vn, rfl, HN⟩
        have SN := HN.out.2
        clear L1 HN
        go_wp2_with fail
        refine SN.mono ?_
        rintro e wc ⟨rfl, HE⟩
        go_wp2_with fail
        go_ret
        exact ⟨rfl, HE.out⟩
theorem RecipeWrites_w (v0 v1 : Value) (w : World) (g0 : Reads w 46 v0) (g1 : Reads w 9 v1) : Calls Tryz.prog 8 #[v0, v1] w fun e w' => e = .returned (.bool true) ∧ Below w.heap.size w w' := by
  obtain ⟨l, hl⟩ := reads_refs g0
  obtain ⟨s, rfl, -⟩ := reads_string Tryz.underlying9 g1
  exact RecipeWrites_k v0 l s w hl
end Go.Proofs.YtdcjhpafipbpkaaGreatDoor
