/- Parts of the proof of RecipePieces, joined: RcpN, RcpO, RcpP, RcpQ. No condition. -/
import Derived.Test.YtdcjhpafipbpkaaGreatDoorRk14
set_option linter.unusedSimpArgs false
set_option linter.unusedVariables false
set_option linter.unusedSectionVars false
namespace Go.Proofs.YtdcjhpafipbpkaaGreatDoor
set_option linter.unusedVariables false
set_option maxRecDepth 100000
set_option maxHeartbeats 4000000
open Go.RowKit
theorem RefEnds_c (size frm n : Int) (w : World) (h : 0 ≤ size ∧ size ≤ 1000000) (h1 : -9223372036854775808 ≤ frm ∧ frm < 9223372036854775808) (h2 : -9223372036854775808 ≤ n ∧ n < 9223372036854775808) :
    Calls Tryz.prog 34 #[.int .i64 size, .int .i64 frm, .int .i64 n] w fun e w' => e = .returned (.tuple #[.int .i64 (endsL size frm n).1, .int .i64 (endsL size frm n).2]) ∧ Below w.heap.size w w' := by
  by_cases c1 : n < 1
  · have d1 : decide (n < 1) = true := decide_eq_true c1
    have HE := Lib.hid (show endsL size frm n = (0, 0) by unfold endsL; rw [if_pos (.inl c1)])
    clear c1 h h1 h2
    go_enter Tryz.func34, Tryz.ntmps34
    go_wp2_with fail
    go_ret2
    exact ⟨by rw [HE.out]; rfl, Below.refl _ _⟩
  have d1 : decide (n < 1) = false := decide_eq_false c1
  by_cases c2 : size ≤ frm
  · have d2 : decide (frm ≥ size) = true := decide_eq_true c2
    have HE := Lib.hid (show endsL size frm n = (0, 0) by unfold endsL; rw [if_pos (.inr c2)])
    clear c1 c2 h h1 h2
    go_enter Tryz.func34, Tryz.ntmps34
    go_wp2_with fail
    go_ret2
    exact ⟨by rw [HE.out]; rfl, Below.refl _ _⟩
  have d2 : decide (frm ≥ size) = false := decide_eq_false c2
  have hE0 : endsL size frm n = (max frm 0, max (if frm < 0 ∨ n < size - frm then min (frm + n) size else size) (max frm 0)) := by unfold endsL; rw [if_neg (fun h => h.elim c1 c2)]
  by_cases c3 : frm < 0
  · have d3 : decide (frm < 0) = true := decide_eq_true c3
    have HE := Lib.hid (show endsL size frm n = (max frm 0, max (min (frm + n) size) (max frm 0)) by rw [hE0, if_pos (.inl c3)])
    have e1 : wrap64 (frm + n) = frm + n := by unfold wrap64; omega
    clear c1 c2 c3 hE0 h h1 h2
    go_enter Tryz.func34, Tryz.ntmps34
    go_wp2_with fail
    go_ret2
    exact ⟨by rw [HE.out]; rfl, Below.refl _ _⟩
  have d3 : decide (frm < 0) = false := decide_eq_false c3
  have e0 : wrap64 (size - frm) = size - frm := by unfold wrap64; omega
  by_cases c4 : n < size - frm
  · have d4 : decide (n < size - frm) = true := decide_eq_true c4
    have HE := Lib.hid (show endsL size frm n = (max frm 0, max (min (frm + n) size) (max frm 0)) by rw [hE0, if_pos (.inr c4)])
    have e1 : wrap64 (frm + n) = frm + n := by unfold wrap64; omega
    clear c1 c2 c3 c4 hE0 h h1 h2
    go_enter Tryz.func34, Tryz.ntmps34
    go_wp2_with fail
    go_ret2
    exact ⟨by rw [HE.out]; rfl, Below.refl _ _⟩
  · have d4 : decide (n < size - frm) = false := decide_eq_false c4
    have HE := Lib.hid (show endsL size frm n = (max frm 0, max size (max frm 0)) by rw [hE0, if_neg (fun h => h.elim c3 c4)])
    clear c1 c2 c3 c4 hE0 h h1 h2
    go_enter Tryz.func34, Tryz.ntmps34
    go_wp2_with fail
    go_ret2
    exact ⟨by rw [HE.out]; rfl, Below.refl _ _⟩
theorem part_c (at_ len lo hi : Int) (w : World) (h1 : 0 ≤ at_ ∧ at_ ≤ 1000000) (h2 : 0 ≤ len ∧ len ≤ 1000000) (h3 : 0 ≤ lo ∧ lo ≤ 1000000) (h4 : 0 ≤ hi ∧ hi ≤ 1000000) :
    Calls Tryz.prog 85 #[.int .i64 at_, .int .i64 len, .int .i64 lo, .int .i64 hi] w fun e w' => e = .returned (.tuple #[.int .i64 (pA lo at_), .int .i64 (pB hi at_ len)]) ∧ Below w.heap.size w w' := by
  have e1 : wrap64 (max lo at_ - at_) = pA lo at_ := by unfold wrap64 pA; omega
  have e2 : wrap64 (at_ + len) = at_ + len := by unfold wrap64; omega
  have e3 : wrap64 (min hi (at_ + len) - at_) = pB hi at_ len := by unfold wrap64 pB; omega
  clear h1 h2 h3 h4
  go_enter Tryz.func85, Tryz.ntmps85
  go_wp2_with fail
  go_ret2
  exact ⟨by rw [← e1, ← e3, ← e2]; rfl, Below.refl _ _⟩
end Go.Proofs.YtdcjhpafipbpkaaGreatDoor
namespace Go.Proofs.YtdcjhpafipbpkaaGreatDoor
set_option linter.unusedVariables false
set_option maxRecDepth 100000
set_option maxHeartbeats 4000000
open Go.RowKit
def PcRow (w : World) (lo hi : Int) (l : List Rf) (k : Nat) (v : Value) (wr : World) : Prop :=
  wr.ownsRow w.heap.size 76 3 v (pcs lo hi 0 (l.take k)).length (pcells (pcs lo hi 0 (l.take k))) ∧ Below w.heap.size w wr
theorem PcRow.below {w wr w' : World} {lo hi : Int} {l : List Rf} {k : Nat} {v : Value} (h : PcRow w lo hi l k v wr) (hb : Below wr.heap.size wr w') : PcRow w lo hi l k v w' :=
  ⟨ownsRow_of2 h.1 fun j hj => hb.block j (h.1.lt j hj).2, h.2.trans (hb.mono h.2.size)⟩
theorem RefPieces_c (v : Value) (l : List Rf) (w : World) (h : RefsAt w v l) (frm n : Int) (h1 : -9223372036854775808 ≤ frm ∧ frm < 9223372036854775808) (h2 : -9223372036854775808 ≤ n ∧ n < 9223372036854775808) :
    Calls Tryz.prog 33 #[v, .int .i64 frm, .int .i64 n] w fun e w' => ∃ v', e = .returned v' ∧ Hid (w'.ownsRow w.heap.size 76 3 v' (piecesL l frm n).length (pcells (piecesL l frm n)) ∧ Below w.heap.size w w') := by
  have RC := RefRight_c v l w h
  cases hr : rightR l with
  | false =>
    rw [hr] at RC
    have HE := Lib.hid (show piecesL l frm n = [] by unfold piecesL; rw [hr]; rfl)
    clear h h1 h2 hr
    go_enter Tryz.func33, Tryz.ntmps33
    go_wp2_with fail
    refine RC.mono ?_
    rintro e w1 ⟨rfl, HB1⟩
    have HG := Lib.hid HB1
    clear RC HB1
    go_wp2_with fail
    go_ret
    exact ⟨_, rfl, Lib.hid ⟨by rw [HE.out]; exact World.ownsRow_nil _ _ _ _, HG.out⟩⟩
  | true =>
    rw [hr] at RC
    obtain ⟨hall, h4⟩ := rightR_parts hr
    have hsb := sumR_bound hall
    obtain ⟨lo, hlo⟩ : ∃ lo, (endsL (sumR l) frm n).1 = lo := ⟨_, rfl⟩
    obtain ⟨hi, hhi⟩ : ∃ hi, (endsL (sumR l) frm n).2 = hi := ⟨_, rfl⟩
    have hok := endsL_ok (sumR l) frm n hsb.1
    have HE := Lib.hid (show piecesL l frm n = pcs lo hi 0 l by unfold piecesL; rw [if_pos hr, hlo, hhi])
    have EN := fun w => RefEnds_c (sumR l) frm n w (by omega) h1 h2
    rw [hlo, hhi] at hok EN
    have HOK := Lib.hid (show 0 ≤ lo ∧ lo ≤ 1000000 ∧ 0 ≤ hi ∧ hi ≤ 1000000 by omega)
    have SZ : Hid (∀ w1, Below w.heap.size w w1 → Calls Tryz.prog 35 #[v] w1 fun e w' => e = .returned (.int .i64 (sumR l)) ∧ Below w1.heap.size w1 w') := Lib.hid fun w1 hb => by
      have := RefSize_c v l w1 (h.below hb)
      rwa [show sizeR l = sumR l by unfold sizeR; rw [hr]; rfl] at this
    have HF := Lib.hid h
    have HR := Lib.hid hr
    have HAL := Lib.hid hall
    have HLN := Lib.hid h4
    obtain ⟨jP, hjP, hP0, hP1, hP2⟩ := info_parts infoPc
    obtain ⟨a, cap, rfl⟩ := h.form
    clear h h1 h2 hr hall h4 hsb hlo hhi hok
    generalize sumR l = sz at *
    go_enter Tryz.func33, Tryz.ntmps33
    go_wp2_with fail
    refine RC.mono ?_
    rintro e w1 ⟨rfl, HB1⟩
    have HB1 := Lib.hid HB1
    have S1 := SZ.out w1 HB1.out
    clear RC SZ
    go_wp2_with fail
    refine S1.mono ?_
    rintro e w2 ⟨rfl, HB2⟩
    have HB2 := Lib.hid (HB1.out.trans (HB2.mono HB1.out.size))
    have E2 := EN w2
    clear S1 HB1 EN
    go_wp2_with fail
    refine E2.mono ?_
    rintro e w3 ⟨rfl, HB3⟩
    have R0 : Hid (PcRow w lo hi l 0 (.slice none 0 0) w3) := Lib.hid ⟨by rw [List.take_zero]; exact World.ownsRow_nil _ _ _ _, HB2.out.trans (HB3.mono HB2.out.size)⟩
    clear E2 HB2 HB3
    go_wp2_with fail
    go_loopg [9, 10, 11] l.length (fun g s9 s10 s11 wr => ∃ (k : Nat) (vo : Value), g = l.length - k ∧ k ≤ l.length ∧ s10 = .int .i64 (atK l k) ∧ s11 = .int .i64 (k : Int) ∧ vo = s9 ∧ Hid (PcRow w lo hi l k vo wr))
    case atStart => exact ⟨0, _, rfl, Nat.zero_le _, rfl, rfl, rfl, R0⟩
    case round =>
      obtain ⟨k, vo, rfl, hk, rfl, rfl, rfl, HI⟩ := hrel
      clear R0
      by_cases hlt : k < l.length
      · obtain ⟨b, off, rfl, c1, c2, hbw⟩ := (HF.out).get k hlt
        have c1 := (HI.out.2.cell (p := ⟨b, off + k * 2, none⟩) hbw).trans c1
        have c2 := (HI.out.2.cell (p := ⟨b, off + k * 2 + 1, none⟩) hbw).trans c2
        have hbl := Nat.lt_of_lt_of_le hbw HI.out.2.size
        have HOL : Hid (∀ j, vo.ownBlock = some j → w.heap.size ≤ j) := Lib.hid fun j e => (HI.out.1.lt j e).1
        have hat := atK_bound HR.out k
        have hat1 := atK_bound HR.out (k + 1)
        have hsu := atK_succ hlt
        rw [hsu] at hat1
        have hp := (List.all_eq_true.1 HAL.out) _ (List.getElem_mem hlt)
        simp only [rOk, Bool.and_eq_true, decide_eq_true_eq] at hp
        have HWR := Lib.hid (wrap_up hlt (Nat.le_trans HLN.out (by decide)))
        have hT := pcs_take lo hi hlt
        have hlen := pcs_len lo hi (l.take k) 0
        rw [List.length_take] at hlen
        have HSU := Lib.hid hsu
        have HTK := Lib.hid hT
        have HLE := Lib.hid (show (pcs lo hi 0 (l.take k)).length ≤ 4000 by have := HLN.out; omega)
        have PT := fun W => part_c (atK l k) l[k].2 lo hi W (by omega) (by omega) (by have := HOK.out; omega) (by have := HOK.out; omega)
        have HNO : Hid (¬ pA lo (atK l k) < pB hi (atK l k) l[k].2 → ∀ W, Below wr.heap.size wr W → PcRow w lo hi l (k + 1) vo W) := Lib.hid fun hn W hb => by
          unfold PcRow
          rw [HTK.out]
          unfold pc1
          rw [if_neg hn, List.append_nil]
          exact HI.out.below hb
        have HYE : Hid (pA lo (atK l k) < pB hi (atK l k) l[k].2 → ∀ W W5 v5, Below wr.heap.size wr W → W.grownBy W5 vo.ownBlock → W5.ownsRow w.heap.size 76 3 v5 ((pcs lo hi 0 (l.take k)).length + 1) (pcells (pcs lo hi 0 (l.take k)) ++ [.string l[k].1, .int .i64 (pA lo (atK l k)), .int .i64 (pB hi (atK l k) l[k].2)]) → PcRow w lo hi l (k + 1) v5 W5) := Lib.hid fun hy W W5 v5 hb hg ho => by
          unfold PcRow
          rw [HTK.out]
          unfold pc1
          rw [if_pos hy, pcells_snoc, List.length_append, List.length_singleton]
          refine ⟨ho, (HI.out.2.trans (hb.mono HI.out.2.size)).grown hg (Nat.le_trans HI.out.2.size hb.size) fun j e => (HI.out.1.lt j e).1⟩
        have HOW : Hid (∀ W, Below wr.heap.size wr W → W.ownsRow w.heap.size 76 3 vo (pcs lo hi 0 (l.take k)).length (pcells (pcs lo hi 0 (l.take k))) ∧ w.heap.size ≤ W.heap.size) := Lib.hid fun W hb => ⟨(HI.out.below hb).1, (HI.out.below hb).2.size⟩
        have e3 : wrap64 (atK l k + l[k].2) = atK l (k + 1) := by rw [hsu]; unfold wrap64; omega
        obtain ⟨at1, hat1'⟩ : ∃ x, atK l (k + 1) = x := ⟨_, rfl⟩
        have HA1 := Lib.hid hat1'
        rw [hat1'] at e3
        clear hat hat1 hsu hT hlen hp hat1'
        clear HSU HTK HI HR HAL HOK
        generalize (pcs lo hi 0 (l.take k)).length = pl at *
        generalize pcs lo hi 0 (l.take k) = pp at *
        generalize l[k] = p at *
        obtain ⟨i, q⟩ := p
        simp only at c1 c2 PT HNO HYE e3
        generalize pA lo (atK l k) = A at *
        generalize pB hi (atK l k) q = B at *
        generalize atK l k = at_ at *
        have CEL : Hid (∀ W, Below wr.heap.size wr W → W.cell? ⟨b, off + k * 2, none⟩ = some (.string i) ∧ W.cell? ⟨b, off + k * 2 + 1, none⟩ = some (.int .i64 q)) := Lib.hid fun W hb => ⟨(hb.cell (p := ⟨b, off + k * 2, none⟩) hbl).trans c1, (hb.cell (p := ⟨b, off + k * 2 + 1, none⟩) hbl).trans c2⟩
        go_wp2_with fail
        refine (PT _).mono ?_
        rintro e w4 ⟨rfl, HB4⟩
        obtain ⟨d1, d2⟩ := CEL.out w4 HB4
        by_cases hab : A < B
        · have dab : decide (A < B) = true := decide_eq_true hab
          have HST := Lib.hid (HYE.out hab)
          obtain ⟨o1, o2⟩ := HOW.out w4 HB4
          have HO4 := Lib.hid o1
          have HZ4 := Lib.hid o2
          have HB4 := Lib.hid HB4
          have L1 := Lib.hid (show pl + 1 ≤ maxLen ∧ (pl + 1) * 32 ≤ 140737488355328 from ⟨Nat.le_trans (by have := HLE.out; omega : pl + 1 ≤ 1000000) (by decide), by have := HLE.out; omega⟩)
          have HB5 : Hid (∀ o, w.heap.size ≤ (w4.alloc o).heap.size) := Lib.hid fun o => by have := HZ4.out; simp; omega
          have HBL : Hid (∀ o, Below wr.heap.size wr (w4.alloc o)) := Lib.hid fun o => HB4.out.alloc HB4.out.size o
          have DD : Hid (∀ o W5, (w4.alloc o).grownBy W5 vo.ownBlock → W5.cell? ⟨b, off + k * 2 + 1, none⟩ = some (.int .i64 q)) := Lib.hid fun o W5 hg => by
            have hlt4 : b < w4.heap.size := Nat.lt_of_lt_of_le hbl HB4.out.size
            refine hg.cell ((((Below.refl w4.heap.size w4).alloc (Nat.le_refl _) o).cell (p := ⟨b, off + k * 2 + 1, none⟩) hlt4).trans d2) fun e => ?_
            have := HOL.out b e.symm
            omega
          clear PT HNO HYE HOW CEL o1 o2 hab
          go_wp2_with (first
            | (refine chkA 73 73 ⟨_, _, by with_reducible rfl⟩ ?_
               refine wpList_append_y (by rfl) _ _ _ rfl w.heap.size 76 jP _ 3 32 Tryz.underlying73 hjP hP0 hP1 hP2 rfl (by decide) _ _ _ (by rfl) (HO4.out.alloc _) _ 1 _ (by rfl) (yields_boxL _ #[.string i, .int .i64 A, .int .i64 B] _ 1 1) rfl (one3 _ _ _ rfl rfl rfl) L1.out.1 L1.out.2 (HB5.out _) ?_
               intro v5 W5 ho5 hg5 ha5
               have HN5 := Lib.hid (HST.out _ W5 v5 (HBL.out _) hg5 ho5)
               have f2 := DD.out _ W5 hg5
               clear ho5 hg5 ha5))
          go_roundg (l.length - (k + 1))
          case measure => omega
          case rel => exact ⟨k + 1, _, rfl, hlt, congrArg (Value.int .i64) (e3.trans HA1.out.symm), congrArg (Value.int .i64) HWR.out, rfl, HN5⟩
        · have dab : decide (A < B) = false := decide_eq_false hab
          have HN5 := Lib.hid (HNO.out (Int.not_lt.1 hab) w4 HB4)
          clear PT HNO HYE HOW CEL hab HB4
          go_wp2_with fail
          go_roundg (l.length - (k + 1))
          case measure => omega
          case rel => exact ⟨k + 1, _, rfl, hlt, congrArg (Value.int .i64) (e3.trans HA1.out.symm), congrArg (Value.int .i64) HWR.out, rfl, HN5⟩
      · obtain rfl : k = l.length := by omega
        obtain ⟨g1, g2⟩ := HI.out
        rw [List.take_length, ← HE.out] at g1
        have HG := Lib.hid (And.intro g1 g2)
        clear HI g1 g2 hlt hk
        go_wp2_with fail
        go_ret
        exact ⟨_, rfl, HG⟩
end Go.Proofs.YtdcjhpafipbpkaaGreatDoor
namespace Go.Proofs.YtdcjhpafipbpkaaGreatDoor
set_option linter.unusedVariables false
set_option maxRecDepth 100000
set_option maxHeartbeats 1000000
open Go.RowKit
theorem readsC_rf {w : World} {es : List Value} (h : ReadsC w 57 es) : ∃ (s : ByteArray) (n : Int), es = [.string s, .int .i64 n] ∧ (-9223372036854775808 ≤ n ∧ n < 9223372036854775808) := by
  obtain ⟨hl, hf⟩ := readsC_struct Tryz.underlying57 h
  have hl : es.length = 2 := hl.trans (by kernel_rfl)
  have c1 : Tryz.prog.cellsOf 9 = 1 := by kernel_rfl
  have c2 : Tryz.prog.cellsOf 3 = 1 := by kernel_rfl
  match es, hl with
  | [a, b], _ =>
    have f0 : ReadsC w 9 (([a, b].drop 0).take (Tryz.prog.cellsOf 9)) := hf 0 _ rfl
    have f1 : ReadsC w 3 (([a, b].drop 1).take (Tryz.prog.cellsOf 3)) := hf 1 _ rfl
    rw [c1] at f0
    rw [c2] at f1
    obtain ⟨t, e1, h1⟩ := readsC_string Tryz.underlying9 f0
    obtain ⟨n, e2, h2⟩ := readsC_int Tryz.underlying3 f1
    simp at e1 e2
    subst e1 e2
    have := bounds_i64 h2
    exact ⟨t, n, rfl, by omega⟩
theorem reads_refs {w : World} {v : Value} (h : Reads w 46 v) : ∃ l : List Rf, RefsAt w v l := by
  have c2 : Tryz.prog.cellsOf 57 = 2 := by kernel_rfl
  obtain ⟨a, len, cap, rfl, hlc, hcm, hel⟩ := reads_slice Tryz.underlying46 (by rw [c2]; decide) h
  rw [c2] at hel
  obtain ⟨l, hl, hp⟩ := choose_list (n := len) (p := fun k (f : Rf) => (∃ b off, a = some ⟨b, off, none⟩ ∧ w.cell? ⟨b, off + k * 2, none⟩ = some (.string f.1) ∧ w.cell? ⟨b, off + k * 2 + 1, none⟩ = some (.int .i64 f.2) ∧ b < w.heap.size) ∧ RfIn f) (fun k hk => by
    obtain ⟨b, off, es, rfl, hes, hb, hc, hr⟩ := hel k hk
    obtain ⟨s, n, rfl, hn⟩ := readsC_rf hr
    exact ⟨(s, n), ⟨b, off, rfl, hc 0 (by simp), hc 1 (by simp), hb⟩, hn⟩)
  subst hl
  refine ⟨l, ⟨a, cap, rfl, fun k hk => (hp k hk).1⟩, ?_, Nat.le_trans hlc hcm⟩
  intro p hp'
  obtain ⟨k, hk, rfl⟩ := List.mem_iff_getElem.1 hp'
  exact (hp k hk).2
def pcSum : List Pc → Int
  | [] => 0
  | p :: r => p.2.2 - p.2.1 + pcSum r
theorem pcSum_append (l m : List Pc) : pcSum (l ++ m) = pcSum l + pcSum m := by
  induction l with
  | nil => simp [pcSum]
  | cons p r ih => simp only [List.cons_append, pcSum, ih]; omega
theorem pc1_sum (lo hi at_ : Int) (p : Rf) : pcSum (pc1 lo hi at_ p) = max 0 (min hi (at_ + p.2) - max lo at_) := by
  unfold pc1
  split
  · simp only [pcSum]; unfold pA pB at *; omega
  · simp only [pcSum]; unfold pA pB at *; omega
theorem pcs_sum (lo hi : Int) (h : lo ≤ hi) : ∀ (l : List Rf) (at_ : Int), l.all rOk = true → pcSum (pcs lo hi at_ l) = max 0 (min hi (at_ + sumR l) - max lo at_)
  | [], at_, _ => by simp only [pcs, pcSum, sumR]; omega
  | p :: r, at_, ha => by
    simp only [List.all_cons, Bool.and_eq_true] at ha
    have hp := ha.1
    simp only [rOk, Bool.and_eq_true, decide_eq_true_eq] at hp
    have hs := sumR_bound ha.2
    simp only [pcs, pcSum_append, pc1_sum, pcs_sum lo hi h r _ ha.2, sumR]
    omega
theorem pc1_in (lo hi at_ : Int) (p : Rf) (hp : p.2 ≤ 128) : ∀ x ∈ pc1 lo hi at_ p, 0 ≤ x.2.1 ∧ x.2.1 ≤ x.2.2 ∧ x.2.2 ≤ 128 := by
  unfold pc1
  split
  · intro x hx
    simp only [List.mem_singleton] at hx
    subst hx
    simp only
    unfold pA pB at *
    omega
  · intro x hx; cases hx
theorem pcs_in (lo hi : Int) : ∀ (l : List Rf) (at_ : Int), l.all rOk = true → ∀ x ∈ pcs lo hi at_ l, 0 ≤ x.2.1 ∧ x.2.1 ≤ x.2.2 ∧ x.2.2 ≤ 128
  | [], _, _ => fun x hx => by cases hx
  | p :: r, at_, ha => by
    simp only [List.all_cons, Bool.and_eq_true] at ha
    have hp := ha.1
    simp only [rOk, Bool.and_eq_true, decide_eq_true_eq] at hp
    intro x hx
    simp only [pcs, List.mem_append] at hx
    rcases hx with hx | hx
    · exact pc1_in lo hi at_ p hp.2.2 x hx
    · exact pcs_in lo hi r _ ha.2 x hx
theorem pieces_in (l : List Rf) (frm n : Int) : ∀ x ∈ piecesL l frm n, 0 ≤ x.2.1 ∧ x.2.1 ≤ x.2.2 ∧ x.2.2 ≤ 128 := by
  unfold piecesL
  split
  · rename_i h
    exact pcs_in _ _ l 0 (rightR_parts h).1
  · intro x hx; cases hx
theorem pieces_sum (l : List Rf) (frm n : Int) : pcSum (piecesL l frm n) = (endsL (sizeR l) frm n).2 - (endsL (sizeR l) frm n).1 := by
  unfold piecesL sizeR
  split
  · rename_i h
    have hs := sumR_bound (rightR_parts h).1
    have he := endsL_ok (sumR l) frm n hs.1
    rw [pcs_sum _ _ he.2.1 l 0 (rightR_parts h).1]
    omega
  · have he := endsL_ok 0 frm n (Int.le_refl _)
    simp only [pcSum]
    omega
theorem pcSum_bound {l : List Pc} (h : ∀ x ∈ l, 0 ≤ x.2.1 ∧ x.2.1 ≤ x.2.2 ∧ x.2.2 ≤ 128) : 0 ≤ pcSum l ∧ pcSum l ≤ 128 * l.length := by
  induction l with
  | nil => simp [pcSum]
  | cons p r ih =>
    have h1 := h p (by simp)
    have h2 := ih fun x hx => h x (List.mem_cons_of_mem _ hx)
    simp only [pcSum, List.length_cons]
    push_cast
    omega
theorem pcells_get {l : List Pc} {k : Nat} (h : k < l.length) : (pcells l)[k * 3]? = some (.string l[k].1) ∧ (pcells l)[k * 3 + 1]? = some (.int .i64 l[k].2.1) ∧ (pcells l)[k * 3 + 2]? = some (.int .i64 l[k].2.2) := by
  induction l generalizing k with
  | nil => simp at h
  | cons p r ih =>
    cases k with
    | zero => exact ⟨rfl, rfl, rfl⟩
    | succ k =>
      have := ih (k := k) (by simpa using h)
      have e1 : (k + 1) * 3 = (k * 3) + 3 := by omega
      rw [e1]
      exact this
/-- A piece of a row. -/
theorem pc_get {w : World} {base : Nat} {a : Option Addr} {n c : Nat} {l : List Pc} (h : w.ownsRow base 76 3 (.slice a n c) l.length (pcells l)) {k : Nat} (hk : k < l.length) :
    ∃ g, a = some ⟨g, 0, none⟩ ∧ w.cell? ⟨g, k * 3, none⟩ = some (.string l[k].1) ∧ w.cell? ⟨g, k * 3 + 1, none⟩ = some (.int .i64 l[k].2.1) ∧ w.cell? ⟨g, k * 3 + 2, none⟩ = some (.int .i64 l[k].2.2) ∧ g < w.heap.size := by
  rcases h.2 with ⟨e, h0⟩ | ⟨g, cap, cur, e, -⟩
  · omega
  · cases e
    have f : ∀ j x, (pcells l)[j]? = some x → w.cell? ⟨g, j, none⟩ = some x := fun j x hx => by
      have := h.cells rfl j x hx
      rwa [addr_add2, Nat.zero_add] at this
    exact ⟨g, rfl, f _ _ (pcells_get hk).1, f _ _ (pcells_get hk).2.1, f _ _ (pcells_get hk).2.2, (h.lt g rfl).2⟩
end Go.Proofs.YtdcjhpafipbpkaaGreatDoor
namespace Go.Proofs.YtdcjhpafipbpkaaGreatDoor
set_option linter.unusedVariables false
set_option maxRecDepth 100000
set_option maxHeartbeats 4000000
open Go.RowKit
theorem pcSum_take {l : List Pc} {k : Nat} (hk : k < l.length) : pcSum (l.take (k + 1)) = pcSum (l.take k) + (l[k].2.2 - l[k].2.1) := by
  rw [List.take_succ_eq_append_getElem hk, pcSum_append]; simp [pcSum]
/-- The two results of pieces. -/
def PcTwo (w W : World) (va vb : Option Addr) (ca cb : Nat) (l : List Pc) : Prop :=
  W.ownsRow w.heap.size 76 3 (.slice va l.length ca) l.length (pcells l) ∧ W.ownsRow w.heap.size 76 3 (.slice vb l.length cb) l.length (pcells l) ∧ Below w.heap.size w W
theorem PcTwo.below {w W W' : World} {va vb : Option Addr} {ca cb : Nat} {l : List Pc} (h : PcTwo w W va vb ca cb l) (hb : Below W.heap.size W W') : PcTwo w W' va vb ca cb l :=
  ⟨ownsRow_of2 h.1 fun j hj => hb.block j (h.1.lt j hj).2, ownsRow_of2 h.2.1 fun j hj => hb.block j (h.2.1.lt j hj).2, h.2.2.trans (hb.mono h.2.2.size)⟩
theorem pc_form {w : World} {base : Nat} {v : Value} {l : List Pc} (h : w.ownsRow base 76 3 v l.length (pcells l)) : ∃ a c, v = .slice a l.length c := by
  rcases h.2 with ⟨rfl, h0⟩ | ⟨g, cap, cur, rfl, -⟩
  · exact ⟨_, _, by rw [h0]⟩
  · exact ⟨_, _, rfl⟩
theorem RecipePieces_k (v : Value) (l : List Rf) (w : World) (h : RefsAt w v l) (frm n : Int) (h1 : -9223372036854775808 ≤ frm ∧ frm < 9223372036854775808) (h2 : -9223372036854775808 ≤ n ∧ n < 9223372036854775808) :
    Calls Tryz.prog 6 #[v, .int .i64 frm, .int .i64 n] w fun e w' => e = .returned (.bool true) ∧ Below w.heap.size w w' := by
  have AW := awake12_c w
  have FW : Hid (∀ w1, Below w.heap.size w w1 → Calls Tryz.prog 31 #[v] w1 fun e w' => e = .returned (.bool (fewR l)) ∧ Below w1.heap.size w1 w') := Lib.hid fun w1 hb => FewR_c v l w1 (h.below hb)
  have PC : Hid (∀ w2, Below w.heap.size w w2 → Calls Tryz.prog 32 #[v, .int .i64 frm, .int .i64 n] w2 fun e w' => ∃ v', e = .returned v' ∧ Hid (w'.ownsRow w2.heap.size 76 3 v' (piecesL l frm n).length (pcells (piecesL l frm n)) ∧ Below w2.heap.size w2 w')) := Lib.hid fun w2 hb => Pieces_c v l w2 (h.below hb) frm n h1 h2
  have RP : Hid (∀ w2, Below w.heap.size w w2 → Calls Tryz.prog 33 #[v, .int .i64 frm, .int .i64 n] w2 fun e w' => ∃ v', e = .returned v' ∧ Hid (w'.ownsRow w2.heap.size 76 3 v' (piecesL l frm n).length (pcells (piecesL l frm n)) ∧ Below w2.heap.size w2 w')) := Lib.hid fun w2 hb => RefPieces_c v l w2 (h.below hb) frm n h1 h2
  have SZ : Hid (∀ w2, Below w.heap.size w w2 → Calls Tryz.prog 35 #[v] w2 fun e w' => e = .returned (.int .i64 (sizeR l)) ∧ Below w2.heap.size w2 w') := Lib.hid fun w2 hb => RefSize_c v l w2 (h.below hb)
  have hsz : 0 ≤ sizeR l ∧ sizeR l ≤ 1000000 := by
    unfold sizeR
    split
    · rename_i hr
      obtain ⟨g1, g2⟩ := rightR_parts hr
      have := sumR_bound g1
      omega
    · omega
  have EN := fun w => RefEnds_c (sizeR l) frm n w hsz h1 h2
  have hok := endsL_ok (sizeR l) frm n hsz.1
  have hsum := pieces_sum l frm n
  have hin := pieces_in l frm n
  have hpl := piecesL_len l frm n
  obtain ⟨lo, hlo⟩ : ∃ lo, (endsL (sizeR l) frm n).1 = lo := ⟨_, rfl⟩
  obtain ⟨hi, hhi⟩ : ∃ hi, (endsL (sizeR l) frm n).2 = hi := ⟨_, rfl⟩
  rw [hlo, hhi] at EN hok hsum
  have e9 : wrap64 (hi - lo) = hi - lo := by unfold wrap64; omega
  have HFW : Hid (fewR l = true → l.length ≤ 60) := Lib.hid fun hf => by
    simp only [fewR, Bool.and_eq_true, decide_eq_true_eq] at hf
    exact hf.1
  clear h h1 h2 hlo hhi hok hsz
  generalize sizeR l = sz at *
  generalize piecesL l frm n = L at *
  have HSUM := Lib.hid hsum
  have HIN := Lib.hid hin
  have HPL := Lib.hid hpl
  clear hsum hin hpl
  go_enter Tryz.func6, Tryz.ntmps6
  go_wp2_with fail
  refine AW.mono ?_
  rintro e w1 ⟨rfl, HB1⟩
  have F1 := FW.out w1 HB1.out
  clear AW FW
  go_wp2_with fail
  refine F1.mono ?_
  rintro e w2 ⟨rfl, hB2⟩
  have HB2 := Lib.hid (HB1.out.trans (hB2.mono HB1.out.size))
  clear F1 hB2 HB1
  cases hf : fewR l with
  | false =>
    go_wp2_with fail
    go_ret
    exact ⟨rfl, HB2.out⟩
  | true =>
    have HL60 := Lib.hid (HFW.out hf)
    have P2 := PC.out w2 HB2.out
    clear PC HFW hf
    go_wp2_with fail
    refine P2.mono ?_
    rintro e w3 ⟨va, rfl, HA⟩
    have HB3 := Lib.hid (HB2.out.trans (HA.out.2.mono HB2.out.size))
    have R3 := RP.out w3 HB3.out
    clear P2 RP
    go_wp2_with fail
    refine R3.mono ?_
    rintro e w4 ⟨vb, rfl, HBB⟩
    have hlow : w.heap.size ≤ w2.heap.size := HB2.out.size
    have T4 : Hid (∀ a c a' c', va = .slice a L.length c → vb = .slice a' L.length c' → PcTwo w w4 a a' c c' L) := Lib.hid fun a c a' c' e1 e2 => by
      subst e1 e2
      refine ⟨own_le (ownsRow_of2 HA.out.1 fun j hj => HBB.out.2.block j (HA.out.1.lt j hj).2) hlow, own_le HBB.out.1 (Nat.le_trans hlow HA.out.2.size), HB3.out.trans (HBB.out.2.mono HB3.out.size)⟩
    obtain ⟨a, ca, rfl⟩ := pc_form HA.out.1
    obtain ⟨b, cb, rfl⟩ := pc_form HBB.out.1
    have T4 := Lib.hid (T4.out a ca b cb rfl rfl)
    clear R3 HA HBB HB3 HB2 hlow
    go_wp2_with fail
    go_loopg [9, 34] L.length (fun g s9 s34 wr => ∃ k : Nat, g = L.length - k ∧ k ≤ L.length ∧ s9 = .int .i64 (pcSum (L.take k)) ∧ s34 = .int .i64 (k : Int) ∧ Hid (PcTwo w wr a b ca cb L))
    case atStart => exact ⟨0, by omega, Nat.zero_le _, rfl, rfl, T4⟩
    case round =>
      obtain ⟨k, rfl, hk, rfl, rfl, HI⟩ := hrel
      clear T4
      by_cases hlt : k < L.length
      · obtain ⟨g, rfl, c1, c2, c3, hg⟩ := pc_get HI.out.1 hlt
        obtain ⟨g2, rfl, d1, d2, d3, hg2⟩ := pc_get HI.out.2.1 hlt
        have hp := HIN.out _ (List.getElem_mem hlt)
        have hst := pcSum_take hlt
        have hb0 := pcSum_bound (l := L.take k) fun x hx => HIN.out x (List.mem_of_mem_take hx)
        rw [List.length_take] at hb0
        have hl60 := HL60.out
        have hpl := HPL.out
        have HWR := Lib.hid (wrap_up hlt (by omega))
        have HI2 : Hid (∀ o, PcTwo w (wr.alloc o) (some ⟨g, 0, none⟩) (some ⟨g2, 0, none⟩) ca cb L) := Lib.hid fun o => HI.out.below ((Below.refl _ _).alloc (Nat.le_refl _) o)
        have HI3 : Hid (∀ o, PcTwo w (wr.alloc o).drew (some ⟨g, 0, none⟩) (some ⟨g2, 0, none⟩) ca cb L) := Lib.hid fun o => HI.out.below ((Below.refl _ _).alloc (Nat.le_refl _) o).drew
        have HST := Lib.hid hst
        generalize L[k] = p at *
        obtain ⟨i, A, B⟩ := p
        simp only at c1 c2 c3 d1 d2 d3 hp hst
        have e1 : wrap64 (B - A) = B - A := by unfold wrap64; omega
        obtain ⟨m0, hm0⟩ : ∃ m0, pcSum (L.take k) = m0 := ⟨_, rfl⟩
        rw [hm0] at hst hb0 ⊢
        have e2 : wrap64 (m0 + (B - A)) = pcSum (L.take (k + 1)) := by rw [hst]; unfold wrap64; omega
        obtain ⟨m1, hm1⟩ : ∃ m1, pcSum (L.take (k + 1)) = m1 := ⟨_, rfl⟩
        have HM1 := Lib.hid hm1
        rw [hm1] at e2
        clear hm0 hm1 hst hb0 hl60 hpl hp HST HI HIN HSUM
        go_wp2_with fail
        go_region
        go_wp2_with fail
        go_roundg (L.length - (k + 1))
        case measure => omega
        case rel => exact ⟨k + 1, rfl, hlt, congrArg (Value.int .i64) (e2.trans HM1.out.symm), congrArg (Value.int .i64) HWR.out, HI3.out _⟩
      · obtain rfl : k = L.length := by omega
        rw [List.take_length, HSUM.out]
        have S1 := SZ.out wr HI.out.2.2
        have HBW := Lib.hid HI.out.2.2
        clear SZ HI HIN HSUM hlt hk
        go_wp2_with fail
        refine S1.mono ?_
        rintro e w6 ⟨rfl, hB6⟩
        have E6 := EN w6
        have HB6 := Lib.hid (HBW.out.trans (hB6.mono HBW.out.size))
        clear S1 EN hB6
        go_wp2_with fail
        refine E6.mono ?_
        rintro e w7 ⟨rfl, hB7⟩
        have HB7 := Lib.hid (HB6.out.trans (hB7.mono HB6.out.size))
        clear E6 hB7
        go_wp2_with fail
        go_ret
        exact ⟨by simp, HB7.out⟩
theorem RecipePieces_w (v0 v1 v2 : Value) (w : World) (g0 : Reads w 46 v0) (g1 : Reads w 3 v1) (g2 : Reads w 3 v2) : Calls Tryz.prog 6 #[v0, v1, v2] w fun e w' => e = .returned (.bool true) ∧ Below w.heap.size w w' := by
  obtain ⟨l, hl⟩ := reads_refs g0
  obtain ⟨frm, rfl, h1⟩ := reads_int Tryz.underlying3 g1
  obtain ⟨n, rfl, h2⟩ := reads_int Tryz.underlying3 g2
  have b1 := bounds_i64 h1
  have b2 := bounds_i64 h2
  exact RecipePieces_k v0 l w hl frm n (by omega) (by omega)
end Go.Proofs.YtdcjhpafipbpkaaGreatDoor
