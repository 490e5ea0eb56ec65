/- Parts of the proof of TreeFull, joined: FullC, FullD, FullE, FullF, FullH, FullI, FullJ. No condition. -/
import Derived.Test.YtaibjcjphmhgmaaGreatDoorTf1
set_option linter.unusedSimpArgs false
set_option linter.unusedVariables false
set_option linter.unusedSectionVars false
namespace Go.Proofs.YtaibjcjphmhgmaaGreatDoor
set_option linter.unusedVariables false
set_option maxRecDepth 100000
set_option maxHeartbeats 1000000
open Go.RowKit
theorem put_cF : ∀ (h : Nat) (G : Nat → Prop) (tb rb place n m : Nat) (S : RS) (p : Nat) (t : PT h) (key val : ByteArray) (deep : Nat) (w : World) (_ : RmS w G rb n m S) (_ : TB w tb rb place) (_ : ¬ G tb) (_ : Tr S h p t) (_ : key.size ≤ 96) (_ : val.size ≤ 56) (_ : deep + h ≤ 20) (_ : m + 4 * (h + 1) ≤ 3998000),
    Calls Tryz.prog 73 #[.pointer (some ⟨tb, 0, none⟩), .int .i64 (p : Int), .string key, .string val, .int .i64 (deep : Int)] w fun e w' => (∃ (k : ByteArray) (q : Nat) (more : Bool), e = .returned (.tuple #[.string k, .int .i64 (q : Int), .bool more]) ∧ Hid (PutPost w w' G rb n (m + 4 * (h + 1)) S h p t key val k q more)) ∨ (e = .panicked [{ v := .iface 180 (.int .i64 4), recovered := false }] ∧ Hid (PutFail w w' G rb n (m + 4 * (h + 1)) S))
  | 0, G, tb, rb, place, n, m, S, p, t, key, val, deep, w, h, ht, hg, hT, hks, hvs, hdp, hm => put_leafF G tb rb place n m S p t key val deep w h ht hg hT hks hvs (by omega) (by omega)
  | hh + 1, G, tb, rb, place, n, m, S, p, t, key, val, deep, w, h, ht, hg, hT, hks, hvs, hdp, hm => by
    have RD := Lib.hid (read_c G tb rb place n m S p (nd (hh + 1) t) w h ht (by omega) hT.ok hT.fit hT.on.top.1 hT.on.top.2)
    have B0 := Lib.hid (TBase.start h ht hg)
    have HM1 : Hid (m + 4 * (hh + 1) ≤ 3999000) := Lib.hid (by omega)
    have HM3 : Hid (m + 4 * (hh + 1) + 1 ≤ 3999000) := Lib.hid (by omega)
    have HM2 : Hid (m + 4 * (hh + 1) + 1 ≤ m + 4 * (hh + 1 + 1)) := Lib.hid (by omega)
    have HM4 : Hid (m + 4 * (hh + 1) + 1 + 3 ≤ m + 4 * (hh + 1 + 1)) := Lib.hid (by omega)
    have HM5 : Hid (m + 4 * (hh + 1) ≤ m + 4 * (hh + 1 + 1)) := Lib.hid (by omega)
    have HG := Lib.hid h.lt
    have hd1 : ¬ (20 : Int) < (deep : Int) := by omega
    have hd2 : deep ≤ 20 := by omega
    have hlenO := hT.ok.few
    have hpos := hT.pos
    rw [nd_lenS] at hpos
    obtain ⟨A, x, B, rfl, hW, hA⟩ := way_split t key (hT.wf.2.keys fun x hx => ents_pos (hT.wf.1 x hx).2.2.2.2 (hT.wf.1 x hx).2.2.1) hpos
    have hk := hT.kid (x := x) (by simp)
    have IH : Hid (∀ W G2, TBase w W G G2 tb rb place n m S → Calls Tryz.prog 73 #[.pointer (some ⟨tb, 0, none⟩), .int .i64 (x.2.1 : Int), .string key, .string val, .int .i64 ((deep : Int) + 1)] W fun e w' => (∃ (k : ByteArray) (q : Nat) (more : Bool), e = .returned (.tuple #[.string k, .int .i64 (q : Int), .bool more]) ∧ Hid (PutPost W w' G2 rb n (m + 4 * (hh + 1)) S hh x.2.1 x.2.2 key val k q more)) ∨ (e = .panicked [{ v := .iface 180 (.int .i64 4), recovered := false }] ∧ Hid (PutFail W w' G2 rb n (m + 4 * (hh + 1)) S))) := Lib.hid fun W G2 hB => by
      have := put_cF hh G2 tb rb place n m S x.2.1 x.2.2 key val (deep + 1) W hB.room hB.blk hB.gt hk hks hvs (by omega) (by omega)
      rw [show ((deep + 1 : Nat) : Int) = (deep : Int) + 1 by omega] at this
      exact this
    have HT := Lib.hid hT
    have HW := Lib.hid hW
    have HA := Lib.hid hA
    have HLEN := Lib.hid hlenO
    clear h ht hg hT hm hW hA hks hvs hdp hk hpos hlenO
    go_enter Tryz.func73, Tryz.ntmps73
    go_wp2_with fail
    refine RD.out.mono ?_
    rintro e w1 ⟨q, rfl, HQ⟩
    obtain ⟨F, x1, x2, x3⟩ := HQ.out
    have N1 := Lib.hid (Nod.start (w0 := w) (G := G) x1 x2 HG.out)
    have B1 := Lib.hid (B0.out.below x3)
    obtain ⟨vk, vv, vi, hv1⟩ := N1.out.rd.view
    have c0 : w1.cell? ⟨q, 0, none⟩ = some (.bool false) := cell_lit hv1.blk rfl
    have WN := Lib.hid (way_nd N1.out.rd (Nat.le_of_lt (Nat.lt_trans HLEN.out (by decide))) HW.out HA.out)
    clear x1 x2 x3 HQ hv1 RD B0
    go_wp2_with fail
    refine WN.out.mono ?_
    rintro e w2 ⟨rfl, hb⟩
    have N2 := Lib.hid (N1.out.below hb.out)
    have B2 := Lib.hid (B1.out.below hb.out)
    have hN2 := N2.out.rd
    rw [show nd (hh + 1) (A ++ x :: B : List (Kid hh)) = .inner (A.map (fun x : Kid hh => (x.1, x.2.1)) ++ (x.1, x.2.1) :: B.map (fun x : Kid hh => (x.1, x.2.1))) by simp [nd]] at hN2
    obtain ⟨g3, off, cap3, k1, k2⟩ := kids_at hN2
    rw [List.length_map, List.length_map] at k1
    rw [List.length_map] at k2
    have hlt : (A.length : Int) < ((A.length + 1 + B.length : Nat) : Int) := by omega
    have hlA : A.length ≤ 65536 := by have := HLEN.out; rw [nd_lenS, List.length_append, List.length_cons] at this; omega
    have IH2 := Lib.hid (IH.out w2 G B2.out)
    clear hN2 IH N1 B1 WN c0 hb
    go_wp2_with fail
    refine IH2.out.mono ?_
    rintro e w3 (⟨k, q2, more, rfl, HP⟩ | ⟨rfl, HP⟩)
    · clear IH2 k1 k2
      cases more with
      | false =>
        obtain ⟨S', hgo, hif⟩ := HP.out
        rw [if_neg (by simp)] at hif
        obtain ⟨rfl, rfl, t', K⟩ := hif
        have HK := Lib.hid K
        obtain ⟨G3, b3, -⟩ := B2.out.step hgo
        have HB3 := Lib.hid (b3.more HM5.out)
        clear hgo K b3 HP
        go_wp2_with fail
        go_ret3
        exact .inl ⟨ByteArray.empty, 0, false, rfl, _, HB3.out.go, rfl, rfl, _, HK.out.inner HT.out HW.out⟩
      | true =>
        obtain ⟨S3, hgo, hif⟩ := HP.out
        rw [if_pos rfl] at hif
        obtain ⟨t1, t2, K⟩ := hif
        have OV := Lib.hid (Over.inner HT.out HW.out K)
        have HBASE : Hid (S3.base = S.base) := Lib.hid K.frm.base
        obtain ⟨G3, b3, tn3⟩ := B2.out.step hgo
        obtain ⟨F2, y1, y2⟩ := N2.out.turn tn3
        rw [nd_of_mid] at y1
        have IN := insert_inner F2 q ((A ++ [x]).map (fun x : Kid hh => (x.1, x.2.1))) (B.map (fun x : Kid hh => (x.1, x.2.1))) k ⟨#[]⟩ q2 w3 y1 (by have := HLEN.out; rw [nd_lenS, List.length_append, List.length_cons] at this; simp; omega)
        rw [show ((((A ++ [x]).map (fun x : Kid hh => (x.1, x.2.1))).length : Nat) : Int) = (A.length : Int) + 1 by simp, ← nd_two t1 t2 k q2] at IN
        have IN2 := Lib.hid IN
        have Y2 := Lib.hid y2
        have B3 := Lib.hid b3
        clear y1 y2 b3 hgo K HP tn3 IN N2 B2
        go_wp2_with fail
        refine IN2.out.mono ?_
        rintro e w4' ⟨rfl, HI⟩
        have NT : Hid (Nod w w4' G3 q (nd (hh + 1) (A ++ (x.1, x.2.1, t1) :: (k, q2, t2) :: B : List (Kid hh)))) := Lib.hid (Nod.go Y2.out HI.out B3.out.room.lt B3.out.up.size)
        have BT := Lib.hid (B3.out.node (by obtain ⟨F', a, b, c⟩ := HI.out; exact c) Y2.out)
        clear IN2 Y2 B3 HI
        go_wp2_with fail
        have TS := Lib.hid (tail_size NT.out OV.out.ok)
        refine TS.out.mono ?_
        rintro e w4 ⟨rfl, rfl⟩
        clear TS
        by_cases hsz : (nd (hh + 1) (A ++ (x.1, x.2.1, t1) :: (k, q2, t2) :: B : List (Kid hh))).size ≤ 512
        · have TW := Lib.hid (tail_write BT.out p NT.out.rd OV.out.ok hsz OV.out.use HM1.out)
          have hI : (((nd (hh + 1) (A ++ (x.1, x.2.1, t1) :: (k, q2, t2) :: B : List (Kid hh))).size : Nat) : Int) ≤ 512 := by omega
          have HSZ := Lib.hid hsz
          clear hsz
          go_wp2_with fail
          refine TW.out.mono ?_
          rintro e w5 ⟨rfl, HW⟩
          clear hI TW
          go_wp2_with fail
          go_ret3
          obtain ⟨G5, b5, -⟩ := HW.out
          exact .inl ⟨ByteArray.empty, 0, false, rfl, _, (b5.more HM2.out).go, rfl, rfl, _, OV.out.one HSZ.out⟩
        · have TSp := Lib.hid (tail_split BT.out NT.out OV.out.ok (by omega) OV.out.siz)
          have hI : ¬ (((nd (hh + 1) (A ++ (x.1, x.2.1, t1) :: (k, q2, t2) :: B : List (Kid hh))).size : Nat) : Int) ≤ 512 := by omega
          have HSZ := Lib.hid (show 512 < (nd (hh + 1) (A ++ (x.1, x.2.1, t1) :: (k, q2, t2) :: B : List (Kid hh))).size by omega)
          clear hsz
          go_wp2_with fail
          refine TSp.out.mono ?_
          rintro e w5 ⟨q1, rfl, HS⟩
          clear TSp hI NT BT
          obtain ⟨i, hc, b5, r1, r2⟩ := HS.out
          obtain ⟨z0, z1, z2, z3, z4⟩ := OV.out.cut HSZ.out hc
          obtain ⟨l1, l2⟩ := len_take (nd (hh + 1) (A ++ (x.1, x.2.1, t1) :: (k, q2, t2) :: B : List (Kid hh))) i (Nat.le_of_lt z1)
          have ok1 : ((nd (hh + 1) (A ++ (x.1, x.2.1, t1) :: (k, q2, t2) :: B : List (Kid hh))).take i).Ok := by rw [← nd_tk]; exact ((OV.out.wf.cut i).1).ok (by rw [nd_tk, l1]; exact z0) (by rw [nd_tk]; omega)
          have ok2 : ((nd (hh + 1) (A ++ (x.1, x.2.1, t1) :: (k, q2, t2) :: B : List (Kid hh))).drop i).Ok := by rw [← nd_dr]; exact ((OV.out.wf.cut i).2).ok (by rw [nd_dr, l2]; omega) (by rw [nd_dr]; omega)
          have TW := Lib.hid (tail_write b5 p r1 ok1 z2 OV.out.use HM1.out)
          have R2 := Lib.hid r2
          have OK2 := Lib.hid ok2
          have HC := Lib.hid hc
          have HZ3 := Lib.hid z3
          clear hc b5 r1 r2 z0 z1 z2 z3 z4 l1 l2 ok1 ok2 HS
          go_wp2_with fail
          refine TW.out.mono ?_
          rintro e w6 ⟨rfl, HW⟩
          clear TW
          obtain ⟨G6, b6, tn6⟩ := HW.out
          have r6 := R2.out.turn tn6
          obtain ⟨g, off, nn, cap, hnn, k1, k2, ql, gl, hgq, hgg⟩ := r6.key0 OK2.out.pos
          by_cases hfr : ∃ r, r < pagesN n ∧ S3.used r = false
          · have FR : Hid (Calls Tryz.prog 72 #[.pointer (some ⟨tb, 0, none⟩), .pointer (some ⟨q1, 0, none⟩)] w6.drew fun e w' => ∃ r : Nat, e = .returned (.int .i64 (r : Int)) ∧ (w'.cell? ⟨q1, 1, none⟩ = some (.slice (some ⟨g, off, none⟩) nn cap) ∧ w'.cell? ⟨g, off, none⟩ = some (.string (((nd (hh + 1) (A ++ (x.1, x.2.1, t1) :: (k, q2, t2) :: B : List (Kid hh))).drop i).keys.getD 0 ByteArray.empty))) ∧ Hid (PutPost w w' G rb n (m + 4 * (hh + 1 + 1)) S ((hh + 1)) p (A ++ x :: B : List (Kid hh)) key val (((nd (hh + 1) (A ++ (x.1, x.2.1, t1) :: (k, q2, t2) :: B : List (Kid hh))).drop i).keys.getD 0 ByteArray.empty) r true)) := Lib.hid (by
              have hd := (Below.refl w6.heap.size w6).drew
              refine (tail_fresh (b6.below hd) (r6.below hd) OK2.out HZ3.out HM3.out hfr).mono ?_
              rintro e w' ⟨r, rfl, hr1, hr2, G7, b7, tn7⟩
              have hu : Upd G6 w6 w' := tn7.upd.drew_left
              refine ⟨r, rfl, ⟨(World.cell?_of_block (hu.block q1 ql hgq)).trans k1, (World.cell?_of_block (hu.block g gl hgg)).trans k2⟩, ⟨_, (b7.more HM4.out).go, ?_⟩⟩
              have hrn : r < 65536 := by have := b7.room.bounds; unfold pagesN at hr1; omega
              have T := OV.out.two HSZ.out HC.out hr2 hrn
              rw [nd_tk, nd_dr] at T
              rw [if_pos rfl]
              exact ⟨_, _, T⟩)
            have hnn' : (0 : Int) < (nn : Int) := by omega
            clear HW b6 tn6 r6 ql gl hgq hgg R2 HC HZ3
            generalize ((nd (hh + 1) (A ++ (x.1, x.2.1, t1) :: (k, q2, t2) :: B : List (Kid hh))).drop i).keys.getD 0 ByteArray.empty = kk at *
            go_wp2_with fail
            go_region_held3 (fun w' => w'.cell? ⟨q1, 1, none⟩ = some (.slice (some ⟨g, off, none⟩) nn cap) ∧ w'.cell? ⟨g, off, none⟩ = some (.string kk)) (go_keep) ((go_at_call 72; refine Calls.at_args FR.out (by with_reducible rfl) ?_; rintro e w7 ⟨r, rfl, hk, HF⟩))
            all_goals go_wp2_with fail
            all_goals go_ret3
            all_goals exact .inl ⟨kk, r, true, rfl, HF⟩
          · have FP : Hid (Calls Tryz.prog 72 #[.pointer (some ⟨tb, 0, none⟩), .pointer (some ⟨q1, 0, none⟩)] w6.drew fun e w' => e = .panicked [{ v := .iface 180 (.int .i64 4), recovered := false }] ∧ Hid (PutFail w w' G rb n (m + 4 * (hh + 1 + 1)) S)) := Lib.hid (by
              have hd := (Below.refl w6.heap.size w6).drew
              have b6' := b6.below hd
              refine (fresh_full G6 tb rb place n _ _ q1 w6.drew b6'.room b6'.blk (Nat.le_trans HM3.out (by decide)) fun r hr => ?_).mono ?_
              · cases hu : S3.used r with
                | true => exact hu
                | false => exact absurd ⟨r, hr, hu⟩ hfr
              · rintro e w' ⟨rfl, hb⟩
                exact ⟨rfl, _, ((b6'.below hb.out).more (Nat.le_trans (Nat.le_add_right _ 3) HM4.out)).go, (by first | exact HBASE.out | rfl)⟩)
            have hnn' : (0 : Int) < (nn : Int) := by omega
            clear HW b6 tn6 r6 ql gl hgq hgg R2 HC HZ3
            generalize ((nd (hh + 1) (A ++ (x.1, x.2.1, t1) :: (k, q2, t2) :: B : List (Kid hh))).drop i).keys.getD 0 ByteArray.empty = kk at *
            go_wp2_with fail
            refine wp_region_held_drew (S := (fun w' => w'.cell? ⟨q1, 1, none⟩ = some (.slice (some ⟨g, off, none⟩) nn cap) ∧ w'.cell? ⟨g, off, none⟩ = some (.string kk))) (by kernel_rfl) ?_ (fun hHeld => ?_)
            · exact ⟨k1, k2⟩
            refine' wpAnyH_take (i := 0) (v := ?v2_0) rfl (by kernel_rfl) (by kernel_rfl) (by kernel_rfl) (fun _ _ _ h => h) (Or.inl ⟨by rfl, ?hy2_0⟩) (by assumption) ?_
            case hy2_0 => (intro w hSw; (try dsimp only at hSw); go_simp; try with_reducible rfl)
            try simp only [Act.put, List.setIfInBounds_toArray, List.set_cons_zero, List.set_cons_succ, List.getElem_toArray, List.getElem_cons_zero]
            refine' wpAnyH_take (i := 1) (v := ?v2_1) rfl (by kernel_rfl) (by kernel_rfl) (by kernel_rfl) (fun _ _ _ h => h) (Or.inl ⟨by rfl, ?hy2_1⟩) (by assumption) ?_
            case hy2_1 => (intro w hSw; (try dsimp only at hSw); go_simp; try with_reducible rfl)
            try simp only [Act.put, List.setIfInBounds_toArray, List.set_cons_zero, List.set_cons_succ, List.getElem_toArray, List.getElem_cons_succ, List.getElem_cons_zero]
            refine' wpAnyH_take (i := 2) (v := ?v2_2) rfl (by kernel_rfl) (by kernel_rfl) (by kernel_rfl) (fun _ _ _ h => h) (Or.inl ⟨by rfl, ?hy2_2⟩) (by assumption) ?_
            case hy2_2 => (intro w hSw; (try dsimp only at hSw); go_simp; try with_reducible rfl)
            try simp only [Act.put, List.setIfInBounds_toArray, List.set_cons_zero, List.set_cons_succ, List.getElem_toArray, List.getElem_cons_succ, List.getElem_cons_zero]
            refine' wpAnyH_take (i := 3) (v := ?v2_3) rfl (by kernel_rfl) (by kernel_rfl) (by kernel_rfl) (fun _ _ _ h => h) (Or.inl ⟨by rfl, ?hy2_3⟩) (by assumption) ?_
            case hy2_3 => (intro w hSw; (try dsimp only at hSw); go_simp; try with_reducible rfl)
            try simp only [Act.put, List.setIfInBounds_toArray, List.set_cons_zero, List.set_cons_succ, List.getElem_toArray, List.getElem_cons_succ, List.getElem_cons_zero]
            refine' wpAnyH_take (i := 4) (v := ?v2_4) rfl (by kernel_rfl) (by kernel_rfl) (by kernel_rfl) (fun _ _ _ h => h) (Or.inl ⟨by rfl, ?hy2_4⟩) (by assumption) ?_
            case hy2_4 => (intro w hSw; (try dsimp only at hSw); go_simp; try with_reducible rfl)
            try simp only [Act.put, List.setIfInBounds_toArray, List.set_cons_zero, List.set_cons_succ, List.getElem_toArray, List.getElem_cons_succ, List.getElem_cons_zero]
            refine' wpAnyH_take (i := 5) (v := ?v2_5) rfl (by kernel_rfl) (by kernel_rfl) (by kernel_rfl) (fun _ _ _ h => h) (Or.inl ⟨by rfl, ?hy2_5⟩) (by assumption) ?_
            case hy2_5 => (intro w hSw; (try dsimp only at hSw); go_simp; try with_reducible rfl)
            try simp only [Act.put, List.setIfInBounds_toArray, List.set_cons_zero, List.set_cons_succ, List.getElem_toArray, List.getElem_cons_succ, List.getElem_cons_zero]
            refine' wpAnyH_take (i := 6) (v := ?v2_6) rfl (by kernel_rfl) (by kernel_rfl) (by kernel_rfl) (fun _ _ _ h => h) (Or.inl ⟨by rfl, ?hy2_6⟩) (by assumption) ?_
            case hy2_6 => (intro w hSw; (try dsimp only at hSw); go_simp; try with_reducible rfl)
            try simp only [Act.put, List.setIfInBounds_toArray, List.set_cons_zero, List.set_cons_succ, List.getElem_toArray, List.getElem_cons_succ, List.getElem_cons_zero]
            refine' wpAnyH_take (i := 7) (v := ?v2_7) rfl (by kernel_rfl) (by kernel_rfl) (by kernel_rfl) (fun _ _ _ h => h) (Or.inl ⟨by rfl, ?hy2_7⟩) (by assumption) ?_
            case hy2_7 => (intro w hSw; (try dsimp only at hSw); go_simp; try with_reducible rfl)
            try simp only [Act.put, List.setIfInBounds_toArray, List.set_cons_zero, List.set_cons_succ, List.getElem_toArray, List.getElem_cons_succ, List.getElem_cons_zero]
            refine wpAnyH_ready (rs := [8]) (by kernel_rfl) (by simp) ?_
            refine AllReadyH.cons rfl (fun K hK => ?_) AllReadyH.nil
            go_simp
            go_at_call 72
            refine Calls.at_args FP.out (by with_reducible rfl) ?_
            rintro e w7 ⟨rfl, HF⟩
            exact ⟨rfl, .inr ⟨rfl, HF⟩⟩
    · have HF : Hid (PutFail w w3 G rb n (m + 4 * (hh + 1 + 1)) S) := Lib.hid (by
        obtain ⟨S', hgo, hb⟩ := HP.out
        obtain ⟨G3, b3, -⟩ := B2.out.step hgo
        exact ⟨S', (b3.more HM5.out).go, hb⟩)
      clear IH2 k1 k2 HP
      go_wp2_with fail
      exact ⟨rfl, .inr ⟨rfl, HF⟩⟩
end Go.Proofs.YtaibjcjphmhgmaaGreatDoor
namespace Go.Proofs.YtaibjcjphmhgmaaGreatDoor
set_option linter.unusedVariables false
set_option maxRecDepth 100000
set_option maxHeartbeats 1000000
open Go.RowKit
/-- A stretch that gives up. -/
def QP (D : List Deferred) (v : Value) (X : World → Prop) : Exit → Act → World → Prop
  | .panic c, a, w => c = [{ v := .iface 180 (.int .i64 4), recovered := false }] ∧ a.defers = D ∧ a.tmps[6]? = some v ∧ X w
  | _, _, _ => False
theorem QP.put {D : List Deferred} {v u : Value} {X : World → Prop} {c : List PanicEntry} {a : Act} {w : World} {d : Nat} (hd : d ≠ 6) (h : QP D v X (.panic c) (a.put (some d) u) w) : QP D v X (.panic c) a w := by
  obtain ⟨h1, h2, h3, h4⟩ := h
  refine ⟨h1, h2, ?_, h4⟩
  have h3' : (a.tmps.setIfInBounds d u)[6]? = some v := h3
  rw [Array.getElem?_setIfInBounds, if_neg hd] at h3'
  exact h3'
theorem QP.spec {D : List Deferred} {v : Value} {X : World → Prop} {e : Exit} {a : Act} {w : World} (h : QP D v X e a w) : e = .panic [{ v := .iface 180 (.int .i64 4), recovered := false }] ∧ a.defers = D ∧ a.tmps[6]? = some v ∧ X w := by
  cases e with
  | panic c => obtain ⟨rfl, h⟩ := h; exact ⟨rfl, h⟩
  | _ => exact h.elim
theorem guard_catch (p : Addr) (x : Int) (older : List PanicEntry) (w : World) (hc : w.cell? p = some (.int .i64 x)) (hz : w.frozen? p = false) :
    CallsD Tryz.prog 69 #[.pointer (some p)] (.panicking ({ v := .iface 180 (.int .i64 4), recovered := false } :: older)) w fun e u' w' => e = .returned (.tuple #[]) ∧ u' = .panicking ({ v := .iface 180 (.int .i64 4), recovered := true } :: older) ∧ w' = w.setCell p (.int .i64 4) := by
  refine callsD_of_wpS Tryz.func69 rfl fun c₀ cs hu => ?_
  apply wpS_seq
  apply wpS_region
  simp [wpOpsS, go_sem, recoverD, hu, Tryz.ntmps69, Exit.thenS]
  apply wpS_seq
  apply wpS_region
  simp [wpOpsS, go_sem, Exit.thenS]
  refine wpS_cond (t := true) (by simp [Act.eval, Array.replicate]) ?_
  simp only [if_true]
  refine wpS_of_wp ?_
  have hty : ∀ w, (Instr.typeAssert (.iface 180 (.int .i64 4)) 20 180 true).run Tryz.prog w = .ok (.tuple #[.int .i64 4, .bool true]) w := fun w => by simp [Instr.typeAssert, run_underlying Tryz.underlying180]
  simp only [Array.replicate, List.replicate]
  clear hu
  simp only [List.append_toArray, List.setIfInBounds_toArray, List.set_cons_zero, List.set_cons_succ, List.cons_append, List.nil_append]
  go_wp2_with fail
  simp [bodyPostS, results, Tryz.results69]
theorem put1_back (pe pt pm : Addr) (tb rb : Nat) (k : Int) (u : FrameMode) (w : World) {Q : World → Prop} (he : w.cell? pe = some (.int .i64 4)) (ht : w.cell? pt = some (.pointer (some ⟨tb, 0, none⟩))) (hm : w.cell? pm = some (.int .i64 k)) (h0 : w.cell? ⟨tb, 0, none⟩ = some (.pointer (some ⟨rb, 0, none⟩)))
    (BK : Calls Tryz.prog 68 #[.pointer (some ⟨rb, 0, none⟩), .int .i64 k] w.drew fun e w' => e = .returned (.tuple #[]) ∧ (w'.cell? pt = some (.pointer (some ⟨tb, 0, none⟩)) ∧ w'.cell? pm = some (.int .i64 k) ∧ w'.cell? ⟨tb, 0, none⟩ = some (.pointer (some ⟨rb, 0, none⟩))) ∧ w'.cell? pe = some (.int .i64 4) ∧ Hid (Q w')) :
    CallsD Tryz.prog 67 #[.pointer (some pe), .pointer (some pt), .pointer (some pm)] u w fun e u' w' => u' = u ∧ (e = .returned (.tuple #[]) ∧ w'.cell? pe = some (.int .i64 4) ∧ Hid (Q w')) := by
  have HB := Lib.hid BK
  clear BK
  go_enter_d Tryz.func67, Tryz.ntmps67
  go_wp2_with fail
  go_region_held3 (fun w' => w'.cell? pt = some (.pointer (some ⟨tb, 0, none⟩)) ∧ w'.cell? pm = some (.int .i64 k) ∧ w'.cell? ⟨tb, 0, none⟩ = some (.pointer (some ⟨rb, 0, none⟩))) (go_keep) ((go_at_call 68; refine Calls.at_args HB.out (by with_reducible rfl) ?_; rintro e w1 ⟨rfl, hk, he1, hq⟩))
  go_wp2_with fail
  go_end0
  exact ⟨rfl, he1, hq⟩
theorem putW_b2 (w : World) (tb : Nat) (k : Int) : (putW w tb k).heap[w.heap.size + 2]? = some (.cells #[.int .i64 k] 3 (0, 0)) := by
  unfold putW
  rw [heap_alloc_at, if_pos (by simp)]
/-- Work that is given up: what was put is forgotten. -/
theorem TBase.backs {w W0 W : World} {G G' : Nat → Prop} {tb rb place n m m' x : Nat} {S S3 : RS} {puts : List (Int × ByteArray)} (h : TBase W0 W G G' tb rb place n m' S3) (hbs : S3.base = puts) (hb : Below w.heap.size w W0) (hG : ∀ k, G k → k < w.heap.size) (hx : w.heap.size ≤ x) (hx2 : x < W0.heap.size) (v : Value) (hm : m' ≤ 4000000) (hl : puts.length ≤ m) (hr : Rep n puts S) :
    Calls Tryz.prog 68 #[.pointer (some ⟨rb, 0, none⟩), .int .i64 (puts.length : Int)] (W.setCell ⟨x, 0, none⟩ v).drew fun e w' => e = .returned (.tuple #[]) ∧ (∀ j, j < W0.heap.size → ¬ G j → w'.heap[j]? = (W.setCell ⟨x, 0, none⟩ v).heap[j]?) ∧ StGo w w' G rb n m S := by
  have hnx : ¬ G' x := fun e => by
    rcases h.sub x e with e | e
    · have := hG x e; omega
    · omega
  have hu : Upd (fun k => k = x) W (W.setCell ⟨x, 0, none⟩ v) := Upd.setCell (S := fun k => k = x) (Upd.refl _ _) (p := ⟨x, 0, none⟩) (.inl rfl) v
  obtain ⟨puts3, a1, a2, a3⟩ := h.room
  have hpre := a3.base
  rw [hbs] at hpre
  obtain ⟨tail, rfl⟩ := hpre
  have hrm := (a2.frame hu fun k hk e => hnx (e ▸ hk)).below (Below.refl (W.setCell ⟨x, 0, none⟩ v).heap.size (W.setCell ⟨x, 0, none⟩ v)).drew
  have hs0 := h.up.size
  have hs1 := hu.size
  refine (RBack_c G' rb n puts tail _ hrm (by omega)).mono ?_
  rintro e w' ⟨rfl, hq⟩
  obtain ⟨G2, c1, c2⟩ := hq.out
  have hd : Upd G' (W.setCell ⟨x, 0, none⟩ v) w' := c2.upd.drew_left
  refine ⟨rfl, fun j hj hn => ?_, G2, ⟨puts, hl, c1, hr⟩, ?_, fun k hk => ?_⟩
  · refine hd.block j (by omega) fun e => ?_
    rcases h.sub j e with e | e
    · exact hn e
    · omega
  · have u1 : Upd G w W := ((hb.upd' (Nat.le_refl _)).mono (S' := G) fun _ _ e => False.elim e).trans h.up
    have u2 : Upd G w (W.setCell ⟨x, 0, none⟩ v) := u1.trans' hu fun j hj e => absurd e (by omega)
    refine u2.trans' hd fun j hj e => ?_
    rcases h.sub j e with e | e
    · exact e
    · have := hb.size; omega
  · rcases c2.sub k hk with e | e
    · rcases h.sub k e with e | e
      · exact .inl e
      · have := hb.size; exact .inr (by omega)
    · have e' : (W.setCell ⟨x, 0, none⟩ v).heap.size ≤ k := e
      have := hb.size
      exact .inr (by omega)
/-- What is left to do for a Put that is given up. -/
def PutUp (w W : World) (G : Nat → Prop) (tb rb n m : Nat) (S : RS) (puts : List (Int × ByteArray)) : Prop :=
    W.cell? ⟨w.heap.size + 1, 0, none⟩ = some (.int .i64 0) ∧ W.frozen? ⟨w.heap.size + 1, 0, none⟩ = false ∧
    (W.setCell ⟨w.heap.size + 1, 0, none⟩ (.int .i64 4)).cell? ⟨w.heap.size + 1, 0, none⟩ = some (.int .i64 4) ∧ (W.setCell ⟨w.heap.size + 1, 0, none⟩ (.int .i64 4)).cell? ⟨w.heap.size, 0, none⟩ = some (.pointer (some ⟨tb, 0, none⟩)) ∧ (W.setCell ⟨w.heap.size + 1, 0, none⟩ (.int .i64 4)).cell? ⟨w.heap.size + 1 + 1, 0, none⟩ = some (.int .i64 (puts.length : Int)) ∧ (W.setCell ⟨w.heap.size + 1, 0, none⟩ (.int .i64 4)).cell? ⟨tb, 0, none⟩ = some (.pointer (some ⟨rb, 0, none⟩)) ∧
    Calls Tryz.prog 68 #[.pointer (some ⟨rb, 0, none⟩), .int .i64 (puts.length : Int)] (W.setCell ⟨w.heap.size + 1, 0, none⟩ (.int .i64 4)).drew fun e w' => e = .returned (.tuple #[]) ∧ (w'.cell? ⟨w.heap.size, 0, none⟩ = some (.pointer (some ⟨tb, 0, none⟩)) ∧ w'.cell? ⟨w.heap.size + 1 + 1, 0, none⟩ = some (.int .i64 (puts.length : Int)) ∧ w'.cell? ⟨tb, 0, none⟩ = some (.pointer (some ⟨rb, 0, none⟩))) ∧ w'.cell? ⟨w.heap.size + 1, 0, none⟩ = some (.int .i64 4) ∧ Hid (StGo w w' G rb n m S)
theorem put_up {w W0 W : World} {G G' : Nat → Prop} {tb rb place n m m' : Nat} {S S3 : RS} {puts : List (Int × ByteArray)} (h : TBase W0 W G G' tb rb place n m' S3) (hbs : S3.base = puts) (hl0 : PutLoc W0 w.heap.size tb) (hb2 : W0.heap[w.heap.size + 2]? = some (.cells #[.int .i64 (puts.length : Int)] 3 (0, 0))) (hb : Below w.heap.size w W0) (hG : ∀ k, G k → k < w.heap.size) (hs : W0.heap.size = w.heap.size + 3) (htl : tb < w.heap.size) (hg : ¬ G tb) (hm : m' ≤ 4000000) (hl : puts.length ≤ m) (hr : Rep n puts S) :
    PutUp w W G tb rb n m S puts := by
  have n0 : ¬ G w.heap.size := fun e => by have := hG _ e; omega
  have n1 : ¬ G (w.heap.size + 1) := fun e => by have := hG _ e; omega
  have n2 : ¬ G (w.heap.size + 2) := fun e => by have := hG _ e; omega
  have L := hl0.upd h.up n0 n1
  have L2 := h.up.at hb2 n2
  have x0 : (W.setCell ⟨w.heap.size + 1, 0, none⟩ (.int .i64 4)).heap[w.heap.size]? = some (.cells #[.pointer (some ⟨tb, 0, none⟩)] 69 (0, 0)) := (heap_set_ne _ (by omega)).trans L.b0
  have x1 : (W.setCell ⟨w.heap.size + 1, 0, none⟩ (.int .i64 4)).heap[w.heap.size + 1]? = some (.cells #[.int .i64 4] 41 (0, 0)) := heap_set_lit L.b1 _
  have x2 : (W.setCell ⟨w.heap.size + 1, 0, none⟩ (.int .i64 4)).heap[w.heap.size + 2]? = some (.cells #[.int .i64 (puts.length : Int)] 3 (0, 0)) := (heap_set_ne _ (by omega)).trans L2
  have x3 : (W.setCell ⟨w.heap.size + 1, 0, none⟩ (.int .i64 4)).heap[tb]? = some (.cells #[.pointer (some ⟨rb, 0, none⟩), .int .i64 (place : Int)] 132 (0, 0)) := (heap_set_ne _ (by omega)).trans h.blk
  refine ⟨cell_lit L.b1 rfl, frozen_lit L.b1 0, cell_lit x1 rfl, cell_lit x0 rfl, cell_lit x2 rfl, cell_lit x3 rfl, (h.backs hbs hb hG (by omega) (by omega) _ hm hl hr).mono ?_⟩
  rintro e w' ⟨rfl, hk, hgo⟩
  exact ⟨rfl, ⟨cell_lit ((hk _ (by omega) n0).trans x0) rfl, cell_lit ((hk _ (by omega) n2).trans x2) rfl, cell_lit ((hk _ (by omega) hg).trans x3) rfl⟩, cell_lit ((hk _ (by omega) n1).trans x1) rfl, hgo⟩
end Go.Proofs.YtaibjcjphmhgmaaGreatDoor
namespace Go.Proofs.YtaibjcjphmhgmaaGreatDoor
set_option linter.unusedVariables false
set_option maxRecDepth 100000
set_option maxHeartbeats 1000000
open Go.RowKit
theorem Put_oldF (G : Nat → Prop) (tb rb place n m : Nat) (w : World) (puts : List (Int × ByteArray)) (S0 S : RS) (hr0 : Rep n puts S0) (hbs : S.base = puts) (hl : puts.length ≤ m) (hrm : Rm w G rb n puts) (T : TT) (key val : ByteArray) (h : RmS w G rb n m S) (ht : TB w tb rb place) (hg : ¬ G tb) (hp : place < 16) (hm : m ≤ 3900000) (hks : key.size ≤ 96) (hvs : val.size ≤ 56) (hS : TreeSt S place (some T)) (hh : T.h ≤ 20) :
    Calls Tryz.prog 31 #[.pointer (some ⟨tb, 0, none⟩), .string key, .string val] w fun e w' => (e = .returned (.int .i64 0) ∧ Hid (PutEnd w w' G rb n m place S (some T) key val)) ∨ (e = .returned (.int .i64 4) ∧ Hid (StGo w w' G rb n m S0)) := by
  have hmf : ∀ (fn : Fn) (first cap : Array Value) (w : World), (Instr.makeFunc fn first cap).run Tryz.prog w = .ok (.func fn first cap) w := fun _ _ _ _ => rfl
  obtain ⟨hh0, p, t⟩ := T
  obtain ⟨hr, hT⟩ := hS
  have hp65 : p < 65536 := by
    have := h.lim p hT.on.top.1
    have := h.bounds
    unfold pagesN at *; omega
  have htl := lt_of_heap ht
  obtain ⟨c0, c1⟩ := ht.cells
  have hb3 := fun k => putW_below w tb k
  have d0 : (((w.alloc (.cells #[.pointer (some ⟨tb, 0, none⟩)] 69)).alloc (.cells #[.int .i64 0] 41)).alloc (.cells #[.int .i64 0] 3)).cell? ⟨tb, 0, none⟩ = some (.pointer (some ⟨rb, 0, none⟩)) := (World.cell?_of_block ((hb3 0).block tb htl)).trans c0
  have M3 : Hid (Calls Tryz.prog 66 #[.pointer (some ⟨rb, 0, none⟩)] (((w.alloc (.cells #[.pointer (some ⟨tb, 0, none⟩)] 69)).alloc (.cells #[.int .i64 0] 41)).alloc (.cells #[.int .i64 0] 3)) fun e w' => e = .returned (.int .i64 (puts.length : Int)) ∧ (((w.alloc (.cells #[.pointer (some ⟨tb, 0, none⟩)] 69)).alloc (.cells #[.int .i64 0] 41)).alloc (.cells #[.int .i64 0] 3)) = w') := Lib.hid (RMark_c G rb n puts _ (hrm.below (hb3 0)))
  have hk1 : ¬ (96 : Int) < (key.size : Int) := by omega
  have hk2 : ¬ (56 : Int) < (val.size : Int) := by omega
  have HG := Lib.hid h.lt
  have HR0 := Lib.hid hr0
  have HBS := Lib.hid hbs
  have HL := Lib.hid hl
  have HTL := Lib.hid (show tb < w.heap.size ∧ ¬ G tb from ⟨htl, hg⟩)
  have HKS := Lib.hid hks
  have HVS := Lib.hid hvs
  have HR := Lib.hid hr
  have HT := Lib.hid hT
  have HP65 := Lib.hid hp65
  have HH := Lib.hid hh
  have B0 : Hid (∀ k : Int, TBase (putW w tb k) (putW w tb k) G G tb rb place n m S) := Lib.hid fun k => TBase.start (h.below (hb3 k)) (ht.below (hb3 k)) hg
  have HP := Lib.hid hp
  have HM := Lib.hid hm
  clear h ht hg hp hm hks hvs hr hb3 c1 hT hp65 hh hr0 hbs hl hrm
  go_enter_defers Tryz.func31, Tryz.ntmps31
  go_wp2_with fail
  refine M3.out.mono ?_
  rintro e w1 ⟨rfl, rfl⟩
  clear M3 d0
  go_wp2_with fail
  have BW := Lib.hid (B0.out (puts.length : Int))
  have LW := Lib.hid (putW_loc w tb (puts.length : Int))
  have SW := Lib.hid (putW_size w tb (puts.length : Int))
  have BB := Lib.hid (putW_below w tb (puts.length : Int))
  have B2W := Lib.hid (putW_b2 w tb (puts.length : Int))
  change Calls Tryz.prog 70 #[.pointer (some ⟨tb, 0, none⟩)] (putW w tb (puts.length : Int)) _
  generalize putW w tb (puts.length : Int) = W0 at *
  have RT := root_c G tb rb place n m S W0 BW.out.room BW.out.blk HP.out (by have := HM.out; omega) (by have := HP65.out; rw [HR.out]; omega)
  rw [HR.out, show (((p + 1 : Nat) : Int) - 1) = (p : Int) by omega] at RT
  refine RT.mono ?_
  rintro e w2 ⟨rfl, hb⟩
  have B2 := Lib.hid (BW.out.below hb.out)
  have L2 := Lib.hid (LW.out.below hb.out)
  obtain ⟨x0, x1, x2, x3, x4⟩ := L2.out.cells
  have hgB : Hid (¬ G w.heap.size ∧ ¬ G (w.heap.size + 1)) := Lib.hid ⟨fun e => by have := HG.out _ e; omega, fun e => by have := HG.out _ e; omega⟩
  have PT0 := Lib.hid (put_cF hh0 G tb rb place n m S p t key val 0 w2 B2.out.room B2.out.blk B2.out.gt HT.out HKS.out HVS.out (by have := HH.out; omega) (by have := HM.out; have : hh0 ≤ 20 := HH.out; omega))
  rw [show ((0 : Nat) : Int) = 0 from rfl] at PT0
  have hp0 : ¬ (p : Int) < 0 := by omega
  clear RT hb
  go_wp2_with fail
  refine PT0.out.mono ?_
  rintro e w3 (⟨kk, q, more, rfl, HPP⟩ | ⟨rfl, HPP⟩)
  · clear PT0 x0 x1 x2 x3 x4
    cases more with
    | false =>
      obtain ⟨S3, hgo3, hif⟩ := HPP.out
      rw [if_neg (by simp)] at hif
      obtain ⟨rfl, rfl, t', K⟩ := hif
      obtain ⟨G3, b3, -⟩ := B2.out.step hgo3
      have L3 := loc_of (w := w) LW.out b3 hgB.out.1 hgB.out.2
      obtain ⟨x0, x1, x2, x3, x4⟩ := L3.cells
      have hfin : (w3.setCell ⟨w.heap.size + 1, 0, none⟩ (.int .i64 0)).cell? ⟨w.heap.size + 1, 0, none⟩ = some (.int .i64 0) := cell_lit (heap_set_lit L3.b1 _) rfl
      have hgo := Lib.hid (b3.fin BB.out HG.out (x := w.heap.size + 1) (by omega) (by have := SW.out; omega) 0 (.int .i64 0))
      have HK := Lib.hid K
      clear b3 L3 HPP hgo3 K
      go_wp2_with fail
      refine leaves_cons (f := 69) (args := #[.pointer (some ⟨w.heap.size + 1, 0, none⟩)]) (by simp) (by simp [go_sem]) ?_
      refine (guard_idle _ _).mono ?_
      rintro e u' w5 ⟨rfl, rfl, rfl⟩
      refine leaves_cons (f := 67) (args := #[.pointer (some ⟨w.heap.size + 1, 0, none⟩), .pointer (some ⟨w.heap.size, 0, none⟩), .pointer (some ⟨w.heap.size + 1 + 1, 0, none⟩)]) (by simp [settle]) (by simp [go_sem]) ?_
      refine (put1_idle _ _ _ _ _ hfin).mono ?_
      rintro e u' w6 ⟨rfl, rfl, rfl⟩
      have HGO : Hid (PutEnd w (w3.setCell ⟨w.heap.size + 1, 0, none⟩ (.int .i64 0)) G rb n m place S (some ⟨hh0, p, t⟩) key val) := Lib.hid (by
        obtain ⟨G5, y1, y2⟩ := hgo.out
        exact ⟨_, _, ⟨G5, y1.more (by have : hh0 ≤ 20 := HH.out; omega), y2⟩, old_root HK.out HR.out⟩)
      simp [Leaves, settle, results, Tryz.results31, go_sem, hfin]
      exact HGO
    | true =>
      obtain ⟨S3, hgo3, hif⟩ := HPP.out
      rw [if_pos rfl] at hif
      obtain ⟨t1, t2, K⟩ := hif
      obtain ⟨G3, b3, -⟩ := B2.out.step hgo3
      have HK := Lib.hid K
      have B3 := Lib.hid b3
      have L3 := Lib.hid (loc_of (w := w) LW.out b3 hgB.out.1 hgB.out.2)
      obtain ⟨x0, x1, x2, x3, x4⟩ := L3.out.cells
      have hg3 : Hid (¬ G3 w.heap.size ∧ ¬ G3 (w.heap.size + 1)) := Lib.hid ⟨fun e => by
        rcases b3.sub _ e with e | e
        · exact hgB.out.1 e
        · have := SW.out; omega, fun e => by
        rcases b3.sub _ e with e | e
        · exact hgB.out.2 e
        · have := SW.out; omega⟩
      have HM3 : Hid (m + 4 * (hh0 + 1) ≤ 3998000) := Lib.hid (by have := HM.out; have : hh0 ≤ 20 := HH.out; omega)
      by_cases hfr : ∃ r, r < pagesN n ∧ S3.used r = false
      · have FR : Hid (∀ W q1 a b, Below w3.heap.size w3 W → W.heap[q1]? = some (.cells #[.bool false, .slice (some ⟨a, 0, none⟩) 2 2, .slice none 0 0, .slice (some ⟨b, 0, none⟩) 2 2] 139 (0, 0)) → W.heap[a]? = some (.cells #[.string ⟨#[]⟩, .string kk] 9 (0, 0)) → W.heap[b]? = some (.cells #[.int .i64 (p : Int), .int .i64 (q : Int)] 3 (0, 0)) → w3.heap.size ≤ q1 ∧ w3.heap.size ≤ a ∧ w3.heap.size ≤ b →
            Calls Tryz.prog 72 #[.pointer (some ⟨tb, 0, none⟩), .pointer (some ⟨q1, 0, none⟩)] W fun e w' => ∃ r : Nat, e = .returned (.int .i64 (r : Int)) ∧ w'.cell? ⟨w.heap.size, 0, none⟩ = some (.pointer (some ⟨tb, 0, none⟩)) ∧ Hid (r < 65536 ∧ S3.used r = false ∧ ∃ G', TBase W0 w' G G' tb rb place n (m + 4 * (hh0 + 1) + 3) (wrS (allocS S3 r) r (.inner [(ByteArray.empty, p), (kk, q)])))) := Lib.hid fun W q1 a b hW h1 h2 h3 h4 => by
          have hs := B3.out.up.size
          have hlt := B3.out.room.lt
          have hrd : RdN W0 W G3 q1 (.inner [(ByteArray.empty, p), (kk, q)]) := rd_root h1 h2 h3 ⟨by omega, by omega, by omega⟩ ⟨fun e => by have := hlt _ e; omega, fun e => by have := hlt _ e; omega, fun e => by have := hlt _ e; omega⟩
          have hk := HK.out.ksz
          have hq := HK.out.qlt
          have hp6 := HP65.out
          have hsz : (Nd.inner [(ByteArray.empty, p), (kk, q)]).size ≤ 512 := by rw [size_inner]; simp [esI]; omega
          have hok : (Nd.inner [(ByteArray.empty, p), (kk, q)]).Ok := by
            refine ⟨by simp [Nd.len, Nd.keys], by simp [Nd.len, Nd.keys], fun x hx => ?_, fun x hx => ?_, fun x hx => ?_⟩
            · simp [Nd.keys] at hx
              rcases hx with rfl | rfl
              · decide
              · exact hk
            · simp [Nd.vals] at hx
            · simp [Nd.kids] at hx
              rcases hx with rfl | rfl <;> omega
          refine (tail_fresh (B3.out.below hW) hrd hok hsz (by have := HM3.out; omega) hfr).mono ?_
          rintro e w' ⟨r, rfl, a1, a2, G', a3, a4⟩
          refine ⟨r, rfl, (L3.out.upd (hW.upd' (Nat.le_refl _)) (fun e => e) (fun e => e) |>.upd a4.upd hg3.out.1 hg3.out.2).cells.1, ?_, a2, G', a3⟩
          have := a3.room.bounds; unfold pagesN at a1; omega
        have SR : Hid (∀ r W, Hid (r < 65536 ∧ S3.used r = false ∧ ∃ G', TBase W0 W G G' tb rb place n (m + 4 * (hh0 + 1) + 3) (wrS (allocS S3 r) r (.inner [(ByteArray.empty, p), (kk, q)]))) → Calls Tryz.prog 71 #[.pointer (some ⟨tb, 0, none⟩), .int .i64 (r : Int)] W fun e w' => e = .returned (.tuple #[]) ∧ (w'.cell? ⟨w.heap.size, 0, none⟩ = some (.pointer (some ⟨tb, 0, none⟩))) ∧ (w'.cell? ⟨w.heap.size + 1, 0, none⟩ = some (.int .i64 0) ∧ w'.frozen? ⟨w.heap.size + 1, 0, none⟩ = false) ∧ Hid (∃ G', TBase W0 w' G G' tb rb place n (m + 4 * (hh0 + 1) + 4) (setRootS (wrS (allocS S3 r) r (.inner [(ByteArray.empty, p), (kk, q)])) place (r + 1)))) := Lib.hid fun r W hW => by
          obtain ⟨a1, a2, G', a3⟩ := hW.out
          refine (setRoot_t a3 HP.out (by have := HM3.out; omega) r a1).mono ?_
          rintro e w' ⟨rfl, G2, b1, b2⟩
          have := (loc_of (w := w) LW.out b1 hgB.out.1 hgB.out.2).cells
          exact ⟨rfl, this.1, ⟨this.2.1, this.2.2.1⟩, G2, b1⟩
        clear b3 hgo3 K HPP B0
        go_wp2_with fail
        go_region_held3 (fun w' => w'.cell? ⟨w.heap.size, 0, none⟩ = some (.pointer (some ⟨tb, 0, none⟩))) (first | (go_keep; done) | exact (World.cell?_of_block ((alloc3 w3 _ _ _).2.2.2.block _ x3)).trans x0) ((first
          | (go_at_call 72
             refine Calls.at_args (FR.out _ (w3.heap.size + 1 + 1) w3.heap.size (w3.heap.size + 1) (alloc3 _ _ _ _).2.2.2 (alloc3 _ _ _ _).2.2.1 (alloc3 _ _ _ _).1 (alloc3 _ _ _ _).2.1 ⟨by omega, by omega, by omega⟩) (by with_reducible rfl) ?_
             rintro e w5 ⟨r, rfl, hl, HF⟩)
          | (go_at_call 72
             refine Calls.at_args (FR.out _ (w3.heap.size + 1 + 1) (w3.heap.size + 1) w3.heap.size (alloc3 _ _ _ _).2.2.2 (alloc3 _ _ _ _).2.2.1 (alloc3 _ _ _ _).2.1 (alloc3 _ _ _ _).1 ⟨by omega, by omega, by omega⟩) (by with_reducible rfl) ?_
             rintro e w5 ⟨r, rfl, hl, HF⟩)
          | (go_at_call 71
             refine Calls.at_args (SR.out r _ HF) (by with_reducible rfl) ?_
             rintro e w4 ⟨rfl, hk4, hl4, HS⟩)))
        all_goals (
          obtain ⟨G4, b4⟩ := HS.out
          have L4 := loc_of (w := w) LW.out b4 hgB.out.1 hgB.out.2
          have hfin : (w4.setCell ⟨w.heap.size + 1, 0, none⟩ (.int .i64 0)).cell? ⟨w.heap.size + 1, 0, none⟩ = some (.int .i64 0) := cell_lit (heap_set_lit L4.b1 _) rfl
          have hgo := Lib.hid (b4.fin BB.out HG.out (x := w.heap.size + 1) (by omega) (by have := SW.out; omega) 0 (.int .i64 0))
          clear b4 L4 HS FR SR
          go_wp2_with fail
          refine leaves_cons (f := 69) (args := #[.pointer (some ⟨w.heap.size + 1, 0, none⟩)]) (by simp) (by simp [go_sem]) ?_
          refine (guard_idle _ _).mono ?_
          rintro e u' w5 ⟨rfl, rfl, rfl⟩
          refine leaves_cons (f := 67) (args := #[.pointer (some ⟨w.heap.size + 1, 0, none⟩), .pointer (some ⟨w.heap.size, 0, none⟩), .pointer (some ⟨w.heap.size + 1 + 1, 0, none⟩)]) (by simp [settle]) (by simp [go_sem]) ?_
          refine (put1_idle _ _ _ _ _ hfin).mono ?_
          rintro e u' w6 ⟨rfl, rfl, rfl⟩
          have HGO : Hid (PutEnd w (w4.setCell ⟨w.heap.size + 1, 0, none⟩ (.int .i64 0)) G rb n m place S (some ⟨hh0, p, t⟩) key val) := Lib.hid (by
            obtain ⟨G5, y1, y2⟩ := hgo.out
            exact ⟨_, _, ⟨G5, y1.more (by have : hh0 ≤ 20 := HH.out; omega), y2⟩, new_root HK.out HP65.out HF.out.2.1⟩)
          simp [Leaves, settle, results, Tryz.results31, go_sem, hfin]
          exact HGO)
      · have HB3 := Lib.hid (show S3.base = puts from K.frm.base.trans HBS.out)
        have FP : Hid (∀ W q1, Below w3.heap.size w3 W → Calls Tryz.prog 72 #[.pointer (some ⟨tb, 0, none⟩), .pointer (some ⟨q1, 0, none⟩)] W fun e w' => e = .panicked [{ v := .iface 180 (.int .i64 4), recovered := false }] ∧ Hid (PutUp w w' G tb rb n m S0 puts)) := Lib.hid fun W q1 hW => by
          have b6 := B3.out.below hW
          refine (fresh_full G3 tb rb place n _ _ q1 W b6.room b6.blk (Nat.le_trans HM3.out (by decide)) fun r hr => ?_).mono ?_
          · cases hu : S3.used r with
            | true => rfl
            | false => exact absurd ⟨r, hr, hu⟩ hfr
          · rintro e w' ⟨rfl, hb⟩
            exact ⟨rfl, put_up (b6.below hb.out) HB3.out LW.out B2W.out BB.out HG.out SW.out HTL.out.1 HTL.out.2 (Nat.le_trans HM3.out (by decide)) HL.out HR0.out⟩
        clear b3 hgo3 K HPP B0
        go_wp2_with fail
        refine Code.wp_mono (Q := QP [{ target := .fn (.func 69) #[], args := #[.pointer (some ⟨w.heap.size + 1, 0, none⟩)] }, { target := .fn (.func 67) #[.pointer (some ⟨w.heap.size + 1, 0, none⟩), .pointer (some ⟨w.heap.size, 0, none⟩), .pointer (some ⟨w.heap.size + 1 + 1, 0, none⟩)], args := #[] }] (.pointer (some ⟨w.heap.size + 1, 0, none⟩)) (fun w' => Hid (PutUp w w' G tb rb n m S0 puts))) (fun e a w' h => ?_) ?_
        · obtain ⟨rfl, hd, ht, FE⟩ := h.spec
          show Leaves Tryz.prog _ a.tmps _ a.defers (.panicking [{ v := .iface 180 (.int .i64 4), recovered := false }]) w'
          rw [hd]
          refine leaves_cons (f := 69) (args := #[.pointer (some ⟨w.heap.size + 1, 0, none⟩)]) (by simp) (by simp [go_sem]) ?_
          refine (guard_catch _ _ [] _ FE.out.1 FE.out.2.1).mono ?_
          rintro e u' w9 ⟨rfl, rfl, rfl⟩
          refine leaves_cons (f := 67) (args := #[.pointer (some ⟨w.heap.size + 1, 0, none⟩), .pointer (some ⟨w.heap.size, 0, none⟩), .pointer (some ⟨w.heap.size + 1 + 1, 0, none⟩)]) (by simp [settle]) (by simp [go_sem]) ?_
          refine (put1_back _ _ _ tb rb _ _ _ FE.out.2.2.1 FE.out.2.2.2.1 FE.out.2.2.2.2.1 FE.out.2.2.2.2.2.1 FE.out.2.2.2.2.2.2).mono ?_
          rintro e u' w10 ⟨rfl, rfl, hfin, HGO⟩
          simp [Leaves, settle, results, Tryz.results31, go_sem, ht, hfin]
          exact HGO
        refine wp_region_held_drew (S := (fun w' => w'.cell? ⟨w.heap.size, 0, none⟩ = some (.pointer (some ⟨tb, 0, none⟩)))) (by kernel_rfl) ?_ (fun hHeld => ?_)
        · exact x0
        refine' wpAnyH_take (i := 0) (v := ?v1) rfl (by kernel_rfl) (by kernel_rfl) (by kernel_rfl) (fun _ _ _ h => QP.put (by decide) h) (Or.inl ⟨by rfl, ?hy1⟩) (by assumption) ?_
        case hy1 => (intro w hSw; (try dsimp only at hSw); go_simp; try with_reducible rfl)
        try simp only [Act.put, List.setIfInBounds_toArray, List.set_cons_zero, List.set_cons_succ, List.getElem_toArray, List.getElem_cons_succ, List.getElem_cons_zero]
        refine' wpAnyH_take (i := 1) (v := ?v2) rfl (by kernel_rfl) (by kernel_rfl) (by kernel_rfl) (fun _ _ _ h => QP.put (by decide) h) (Or.inl ⟨by rfl, ?hy2⟩) (by assumption) ?_
        case hy2 => (intro w hSw; (try dsimp only at hSw); go_simp; try with_reducible rfl)
        try simp only [Act.put, List.setIfInBounds_toArray, List.set_cons_zero, List.set_cons_succ, List.getElem_toArray, List.getElem_cons_succ, List.getElem_cons_zero]
        refine' wpAnyH_take (i := 2) (v := ?v3) rfl (by kernel_rfl) (by kernel_rfl) (by kernel_rfl) (fun _ _ _ h => QP.put (by decide) h) (Or.inl ⟨by rfl, ?hy3⟩) (by assumption) ?_
        case hy3 => (intro w hSw; (try dsimp only at hSw); go_simp; try with_reducible rfl)
        try simp only [Act.put, List.setIfInBounds_toArray, List.set_cons_zero, List.set_cons_succ, List.getElem_toArray, List.getElem_cons_succ, List.getElem_cons_zero]
        refine' wpAnyH_take (i := 4) (v := ?v4) rfl (by kernel_rfl) (by kernel_rfl) (by kernel_rfl) (fun _ _ _ h => QP.put (by decide) h) (Or.inl ⟨by rfl, ?hy4⟩) (by assumption) ?_
        case hy4 => (intro w hSw; (try dsimp only at hSw); go_simp; try with_reducible rfl)
        try simp only [Act.put, List.setIfInBounds_toArray, List.set_cons_zero, List.set_cons_succ, List.getElem_toArray, List.getElem_cons_succ, List.getElem_cons_zero]
        refine' wpAnyH_take (i := 5) (v := ?v5) rfl (by kernel_rfl) (by kernel_rfl) (by kernel_rfl) (fun _ _ _ h => QP.put (by decide) h) (Or.inl ⟨by rfl, ?hy5⟩) (by assumption) ?_
        case hy5 => (intro w hSw; (try dsimp only at hSw); go_simp; try with_reducible rfl)
        try simp only [Act.put, List.setIfInBounds_toArray, List.set_cons_zero, List.set_cons_succ, List.getElem_toArray, List.getElem_cons_succ, List.getElem_cons_zero]
        refine wpAnyH_ready (rs := [3, 6]) (by kernel_rfl) (by simp) ?_
        refine AllReadyH.cons rfl (fun K hK => ?_) (AllReadyH.cons rfl (fun K hK => ?_) AllReadyH.nil)
        · skip
          go_simp
          refine hK.out _ _ ?_ (fun hHeld => ?_)
          · (first | (go_keep; done) | exact (World.cell?_of_block ((alloc3 w3 _ _ _).2.2.2.block _ x3)).trans x0)
          clear hK K
          try simp only [Act.put, List.setIfInBounds_toArray, List.set_cons_zero, List.set_cons_succ, List.getElem_toArray, List.getElem_cons_succ, List.getElem_cons_zero]
          refine wpAnyH_ready (rs := [6]) (by kernel_rfl) (by simp) ?_
          refine AllReadyH.cons rfl (fun K hK => ?_) AllReadyH.nil
          go_simp
          refine hK.out _ _ ?_ (fun hHeld => ?_)
          · (first | (go_keep; done) | exact (World.cell?_of_block ((alloc3 w3 _ _ _).2.2.2.block _ x3)).trans x0)
          clear hK K
          try simp only [Act.put, List.setIfInBounds_toArray, List.set_cons_zero, List.set_cons_succ, List.getElem_toArray, List.getElem_cons_succ, List.getElem_cons_zero]
          refine' wpAnyH_take (i := 7) (v := ?v6) rfl (by kernel_rfl) (by kernel_rfl) (by kernel_rfl) (fun _ _ _ h => QP.put (by decide) h) (Or.inl ⟨by rfl, ?hy6⟩) (by assumption) ?_
          case hy6 => (intro w hSw; (try dsimp only at hSw); go_simp; try with_reducible rfl)
          try simp only [Act.put, List.setIfInBounds_toArray, List.set_cons_zero, List.set_cons_succ, List.getElem_toArray, List.getElem_cons_succ, List.getElem_cons_zero]
          refine wpAnyH_ready (rs := [8]) (by kernel_rfl) (by simp) ?_
          refine AllReadyH.cons rfl (fun K hK => ?_) AllReadyH.nil
          go_simp
          refine hK.out _ _ ?_ (fun hHeld => ?_)
          · (first | (go_keep; done) | exact (World.cell?_of_block ((alloc3 w3 _ _ _).2.2.2.block _ x3)).trans x0)
          clear hK K
          try simp only [Act.put, List.setIfInBounds_toArray, List.set_cons_zero, List.set_cons_succ, List.getElem_toArray, List.getElem_cons_succ, List.getElem_cons_zero]
          refine wpAnyH_ready (rs := [9]) (by kernel_rfl) (by simp) ?_
          refine AllReadyH.cons rfl (fun K hK => ?_) AllReadyH.nil
          go_simp
          go_at_call 72
          refine Calls.at_args (FP.out _ _ (alloc3 _ _ _ _).2.2.2) (by with_reducible rfl) ?_
          rintro e w7 ⟨rfl, FE⟩
          exact ⟨rfl, rfl, rfl, FE⟩
        · skip
          go_simp
          refine hK.out _ _ ?_ (fun hHeld => ?_)
          · (first | (go_keep; done) | exact (World.cell?_of_block ((alloc3 w3 _ _ _).2.2.2.block _ x3)).trans x0)
          clear hK K
          try simp only [Act.put, List.setIfInBounds_toArray, List.set_cons_zero, List.set_cons_succ, List.getElem_toArray, List.getElem_cons_succ, List.getElem_cons_zero]
          refine wpAnyH_ready (rs := [3]) (by kernel_rfl) (by simp) ?_
          refine AllReadyH.cons rfl (fun K hK => ?_) AllReadyH.nil
          go_simp
          refine hK.out _ _ ?_ (fun hHeld => ?_)
          · (first | (go_keep; done) | exact (World.cell?_of_block ((alloc3 w3 _ _ _).2.2.2.block _ x3)).trans x0)
          clear hK K
          try simp only [Act.put, List.setIfInBounds_toArray, List.set_cons_zero, List.set_cons_succ, List.getElem_toArray, List.getElem_cons_succ, List.getElem_cons_zero]
          refine' wpAnyH_take (i := 7) (v := ?v7) rfl (by kernel_rfl) (by kernel_rfl) (by kernel_rfl) (fun _ _ _ h => QP.put (by decide) h) (Or.inl ⟨by rfl, ?hy7⟩) (by assumption) ?_
          case hy7 => (intro w hSw; (try dsimp only at hSw); go_simp; try with_reducible rfl)
          try simp only [Act.put, List.setIfInBounds_toArray, List.set_cons_zero, List.set_cons_succ, List.getElem_toArray, List.getElem_cons_succ, List.getElem_cons_zero]
          refine wpAnyH_ready (rs := [8]) (by kernel_rfl) (by simp) ?_
          refine AllReadyH.cons rfl (fun K hK => ?_) AllReadyH.nil
          go_simp
          refine hK.out _ _ ?_ (fun hHeld => ?_)
          · (first | (go_keep; done) | exact (World.cell?_of_block ((alloc3 w3 _ _ _).2.2.2.block _ x3)).trans x0)
          clear hK K
          try simp only [Act.put, List.setIfInBounds_toArray, List.set_cons_zero, List.set_cons_succ, List.getElem_toArray, List.getElem_cons_succ, List.getElem_cons_zero]
          refine wpAnyH_ready (rs := [9]) (by kernel_rfl) (by simp) ?_
          refine AllReadyH.cons rfl (fun K hK => ?_) AllReadyH.nil
          go_simp
          go_at_call 72
          refine Calls.at_args (FP.out _ _ (alloc3 _ _ _ _).2.2.2) (by with_reducible rfl) ?_
          rintro e w7 ⟨rfl, FE⟩
          exact ⟨rfl, rfl, rfl, FE⟩

  · have FE : Hid (PutUp w w3 G tb rb n m S0 puts) := Lib.hid (by
      obtain ⟨S3, hgo3, hb3⟩ := HPP.out
      obtain ⟨G3, b3, -⟩ := B2.out.step hgo3
      exact put_up b3 (hb3.trans HBS.out) LW.out B2W.out BB.out HG.out SW.out HTL.out.1 HTL.out.2 (by have := HM.out; have : hh0 ≤ 20 := HH.out; omega) HL.out HR0.out)
    clear PT0 HPP x0 x1 x2 x3 x4
    go_wp2_with fail
    refine leaves_cons (f := 69) (args := #[.pointer (some ⟨w.heap.size + 1, 0, none⟩)]) (by simp) (by simp [go_sem]) ?_
    refine (guard_catch _ _ [] _ FE.out.1 FE.out.2.1).mono ?_
    rintro e u' w9 ⟨rfl, rfl, rfl⟩
    refine leaves_cons (f := 67) (args := #[.pointer (some ⟨w.heap.size + 1, 0, none⟩), .pointer (some ⟨w.heap.size, 0, none⟩), .pointer (some ⟨w.heap.size + 1 + 1, 0, none⟩)]) (by simp [settle]) (by simp [go_sem]) ?_
    refine (put1_back _ _ _ tb rb _ _ _ FE.out.2.2.1 FE.out.2.2.2.1 FE.out.2.2.2.2.1 FE.out.2.2.2.2.2.1 FE.out.2.2.2.2.2.2).mono ?_
    rintro e u' w10 ⟨rfl, rfl, hfin, HGO⟩
    simp [Leaves, settle, results, Tryz.results31, go_sem, hfin]
    exact HGO
end Go.Proofs.YtaibjcjphmhgmaaGreatDoor
namespace Go.Proofs.YtaibjcjphmhgmaaGreatDoor
set_option linter.unusedVariables false
set_option maxRecDepth 100000
set_option maxHeartbeats 1000000
open Go.RowKit
theorem Put_newF (G : Nat → Prop) (tb rb place n m : Nat) (w : World) (puts : List (Int × ByteArray)) (S0 S : RS) (hr0 : Rep n puts S0) (hbs : S.base = puts) (hl : puts.length ≤ m) (hrm : Rm w G rb n puts) (key val : ByteArray) (h : RmS w G rb n m S) (ht : TB w tb rb place) (hg : ¬ G tb) (hp : place < 16) (hm : m ≤ 3900000) (hks : key.size ≤ 96) (hvs : val.size ≤ 56) (hr : S.root place = 0) (hfull : ∀ q, q < pagesN n → S.used q = true) :
    Calls Tryz.prog 31 #[.pointer (some ⟨tb, 0, none⟩), .string key, .string val] w fun e w' => e = .returned (.int .i64 4) ∧ Hid (StGo w w' G rb n m S0) := by
  have hmf : ∀ (fn : Fn) (first cap : Array Value) (w : World), (Instr.makeFunc fn first cap).run Tryz.prog w = .ok (.func fn first cap) w := fun _ _ _ _ => rfl
  have htl := lt_of_heap ht
  obtain ⟨c0, c1⟩ := ht.cells
  have hb3 := fun k => putW_below w tb k
  have d0 : (((w.alloc (.cells #[.pointer (some ⟨tb, 0, none⟩)] 69)).alloc (.cells #[.int .i64 0] 41)).alloc (.cells #[.int .i64 0] 3)).cell? ⟨tb, 0, none⟩ = some (.pointer (some ⟨rb, 0, none⟩)) := (World.cell?_of_block ((hb3 0).block tb htl)).trans c0
  have M3 : Hid (Calls Tryz.prog 66 #[.pointer (some ⟨rb, 0, none⟩)] (((w.alloc (.cells #[.pointer (some ⟨tb, 0, none⟩)] 69)).alloc (.cells #[.int .i64 0] 41)).alloc (.cells #[.int .i64 0] 3)) fun e w' => e = .returned (.int .i64 (puts.length : Int)) ∧ (((w.alloc (.cells #[.pointer (some ⟨tb, 0, none⟩)] 69)).alloc (.cells #[.int .i64 0] 41)).alloc (.cells #[.int .i64 0] 3)) = w') := Lib.hid (RMark_c G rb n puts _ (hrm.below (hb3 0)))
  have hk1 : ¬ (96 : Int) < (key.size : Int) := by omega
  have hk2 : ¬ (56 : Int) < (val.size : Int) := by omega
  have HG := Lib.hid h.lt
  have HFULL := Lib.hid hfull
  have HR0 := Lib.hid hr0
  have HBS := Lib.hid hbs
  have HL := Lib.hid hl
  have HTL := Lib.hid (show tb < w.heap.size ∧ ¬ G tb from ⟨htl, hg⟩)
  have HKS := Lib.hid hks
  have HVS := Lib.hid hvs
  have HR := Lib.hid hr
  have B0 : Hid (∀ k : Int, TBase (putW w tb k) (putW w tb k) G G tb rb place n m S) := Lib.hid fun k => TBase.start (h.below (hb3 k)) (ht.below (hb3 k)) hg
  have HP := Lib.hid hp
  have HM := Lib.hid hm
  clear h ht hg hp hm hks hvs hr hfull hb3 c1 hr0 hbs hl hrm
  go_enter_defers Tryz.func31, Tryz.ntmps31
  go_wp2_with fail
  refine M3.out.mono ?_
  rintro e w1 ⟨rfl, rfl⟩
  clear M3 d0
  go_wp2_with fail
  have BW := Lib.hid (B0.out (puts.length : Int))
  have LW := Lib.hid (putW_loc w tb (puts.length : Int))
  have SW := Lib.hid (putW_size w tb (puts.length : Int))
  have BB := Lib.hid (putW_below w tb (puts.length : Int))
  have B2W := Lib.hid (putW_b2 w tb (puts.length : Int))
  change Calls Tryz.prog 70 #[.pointer (some ⟨tb, 0, none⟩)] (putW w tb (puts.length : Int)) _
  generalize putW w tb (puts.length : Int) = W0 at *
  have RT := root_c G tb rb place n m S W0 BW.out.room BW.out.blk HP.out (by have := HM.out; omega) (by rw [HR.out]; omega)
  rw [HR.out] at RT
  refine RT.mono ?_
  rintro e w2 ⟨rfl, hb⟩
  have B2 := Lib.hid (BW.out.below hb.out)
  have L2 := Lib.hid (LW.out.below hb.out)
  obtain ⟨x0, x1, x2, x3, x4⟩ := L2.out.cells
  have FP : Hid (∀ W q1, Below w2.heap.size w2 W → Calls Tryz.prog 72 #[.pointer (some ⟨tb, 0, none⟩), .pointer (some ⟨q1, 0, none⟩)] W fun e w' => e = .panicked [{ v := .iface 180 (.int .i64 4), recovered := false }] ∧ Hid (PutUp w w' G tb rb n m S0 puts)) := Lib.hid fun W q1 hW => by
    have b6 := B2.out.below hW
    refine (fresh_full G tb rb place n _ _ q1 W b6.room b6.blk (by have := HM.out; omega) HFULL.out).mono ?_
    rintro e w' ⟨rfl, hb⟩
    exact ⟨rfl, put_up (b6.below hb.out) HBS.out LW.out B2W.out BB.out HG.out SW.out HTL.out.1 HTL.out.2 (by have := HM.out; omega) HL.out HR0.out⟩
  clear RT hb
  go_wp2_with fail
  refine Code.wp_mono (Q := QP [{ target := .fn (.func 69) #[], args := #[.pointer (some ⟨w.heap.size + 1, 0, none⟩)] }, { target := .fn (.func 67) #[.pointer (some ⟨w.heap.size + 1, 0, none⟩), .pointer (some ⟨w.heap.size, 0, none⟩), .pointer (some ⟨w.heap.size + 1 + 1, 0, none⟩)], args := #[] }] (.pointer (some ⟨w.heap.size + 1, 0, none⟩)) (fun w' => Hid (PutUp w w' G tb rb n m S0 puts))) (fun e a w' h => ?_) ?_
  · obtain ⟨rfl, hd, ht, FE⟩ := h.spec
    show Leaves Tryz.prog _ a.tmps _ a.defers (.panicking [{ v := .iface 180 (.int .i64 4), recovered := false }]) w'
    rw [hd]
    refine leaves_cons (f := 69) (args := #[.pointer (some ⟨w.heap.size + 1, 0, none⟩)]) (by simp) (by simp [go_sem]) ?_
    refine (guard_catch _ _ [] _ FE.out.1 FE.out.2.1).mono ?_
    rintro e u' w9 ⟨rfl, rfl, rfl⟩
    refine leaves_cons (f := 67) (args := #[.pointer (some ⟨w.heap.size + 1, 0, none⟩), .pointer (some ⟨w.heap.size, 0, none⟩), .pointer (some ⟨w.heap.size + 1 + 1, 0, none⟩)]) (by simp [settle]) (by simp [go_sem]) ?_
    refine (put1_back _ _ _ tb rb _ _ _ FE.out.2.2.1 FE.out.2.2.2.1 FE.out.2.2.2.2.1 FE.out.2.2.2.2.2.1 FE.out.2.2.2.2.2.2).mono ?_
    rintro e u' w10 ⟨rfl, rfl, hfin, HGO⟩
    simp [Leaves, settle, results, Tryz.results31, go_sem, ht, hfin]
    exact HGO
  refine wp_region_held_drew (S := (fun w' => w'.cell? ⟨w.heap.size, 0, none⟩ = some (.pointer (some ⟨tb, 0, none⟩)))) (by kernel_rfl) ?_ (fun hHeld => ?_)
  · exact x0
  refine' wpAnyH_take (i := 0) (v := ?v8) rfl (by kernel_rfl) (by kernel_rfl) (by kernel_rfl) (fun _ _ _ h => QP.put (by decide) h) (Or.inl ⟨by rfl, ?hy8⟩) (by assumption) ?_
  case hy8 => (intro w hSw; (try dsimp only at hSw); go_simp; try with_reducible rfl)
  try simp only [Act.put, List.setIfInBounds_toArray, List.set_cons_zero, List.set_cons_succ, List.getElem_toArray, List.getElem_cons_succ, List.getElem_cons_zero]
  refine' wpAnyH_take (i := 1) (v := ?v9) rfl (by kernel_rfl) (by kernel_rfl) (by kernel_rfl) (fun _ _ _ h => QP.put (by decide) h) (Or.inl ⟨by rfl, ?hy9⟩) (by assumption) ?_
  case hy9 => (intro w hSw; (try dsimp only at hSw); go_simp; try with_reducible rfl)
  try simp only [Act.put, List.setIfInBounds_toArray, List.set_cons_zero, List.set_cons_succ, List.getElem_toArray, List.getElem_cons_succ, List.getElem_cons_zero]
  refine' wpAnyH_take (i := 2) (v := ?v10) rfl (by kernel_rfl) (by kernel_rfl) (by kernel_rfl) (fun _ _ _ h => QP.put (by decide) h) (Or.inl ⟨by rfl, ?hy10⟩) (by assumption) ?_
  case hy10 => (intro w hSw; (try dsimp only at hSw); go_simp; try with_reducible rfl)
  try simp only [Act.put, List.setIfInBounds_toArray, List.set_cons_zero, List.set_cons_succ, List.getElem_toArray, List.getElem_cons_succ, List.getElem_cons_zero]
  refine' wpAnyH_take (i := 4) (v := ?v11) rfl (by kernel_rfl) (by kernel_rfl) (by kernel_rfl) (fun _ _ _ h => QP.put (by decide) h) (Or.inl ⟨by rfl, ?hy11⟩) (by assumption) ?_
  case hy11 => (intro w hSw; (try dsimp only at hSw); go_simp; try with_reducible rfl)
  try simp only [Act.put, List.setIfInBounds_toArray, List.set_cons_zero, List.set_cons_succ, List.getElem_toArray, List.getElem_cons_succ, List.getElem_cons_zero]
  refine wpAnyH_ready (rs := [3, 5]) (by kernel_rfl) (by simp) ?_
  refine AllReadyH.cons rfl (fun K hK => ?_) (AllReadyH.cons rfl (fun K hK => ?_) AllReadyH.nil)
  · skip
    go_simp
    refine hK.out _ _ ?_ (fun hHeld => ?_)
    · (first | (go_keep; done) | exact (World.cell?_of_block ((alloc3 w2 _ _ _).2.2.2.block _ x3)).trans x0)
    clear hK K
    try simp only [Act.put, List.setIfInBounds_toArray, List.set_cons_zero, List.set_cons_succ, List.getElem_toArray, List.getElem_cons_succ, List.getElem_cons_zero]
    refine wpAnyH_ready (rs := [5]) (by kernel_rfl) (by simp) ?_
    refine AllReadyH.cons rfl (fun K hK => ?_) AllReadyH.nil
    go_simp
    refine hK.out _ _ ?_ (fun hHeld => ?_)
    · (first | (go_keep; done) | exact (World.cell?_of_block ((alloc3 w2 _ _ _).2.2.2.block _ x3)).trans x0)
    clear hK K
    try simp only [Act.put, List.setIfInBounds_toArray, List.set_cons_zero, List.set_cons_succ, List.getElem_toArray, List.getElem_cons_succ, List.getElem_cons_zero]
    refine' wpAnyH_take (i := 6) (v := ?v12) rfl (by kernel_rfl) (by kernel_rfl) (by kernel_rfl) (fun _ _ _ h => QP.put (by decide) h) (Or.inl ⟨by rfl, ?hy12⟩) (by assumption) ?_
    case hy12 => (intro w hSw; (try dsimp only at hSw); go_simp; try with_reducible rfl)
    try simp only [Act.put, List.setIfInBounds_toArray, List.set_cons_zero, List.set_cons_succ, List.getElem_toArray, List.getElem_cons_succ, List.getElem_cons_zero]
    refine wpAnyH_ready (rs := [7]) (by kernel_rfl) (by simp) ?_
    refine AllReadyH.cons rfl (fun K hK => ?_) AllReadyH.nil
    go_simp
    refine hK.out _ _ ?_ (fun hHeld => ?_)
    · (first | (go_keep; done) | exact (World.cell?_of_block ((alloc3 w2 _ _ _).2.2.2.block _ x3)).trans x0)
    clear hK K
    try simp only [Act.put, List.setIfInBounds_toArray, List.set_cons_zero, List.set_cons_succ, List.getElem_toArray, List.getElem_cons_succ, List.getElem_cons_zero]
    refine wpAnyH_ready (rs := [8]) (by kernel_rfl) (by simp) ?_
    refine AllReadyH.cons rfl (fun K hK => ?_) AllReadyH.nil
    go_simp
    go_at_call 72
    refine Calls.at_args (FP.out _ _ (alloc3 _ _ _ _).2.2.2) (by with_reducible rfl) ?_
    rintro e w7 ⟨rfl, FE⟩
    exact ⟨rfl, rfl, rfl, FE⟩
  · skip
    go_simp
    refine hK.out _ _ ?_ (fun hHeld => ?_)
    · (first | (go_keep; done) | exact (World.cell?_of_block ((alloc3 w2 _ _ _).2.2.2.block _ x3)).trans x0)
    clear hK K
    try simp only [Act.put, List.setIfInBounds_toArray, List.set_cons_zero, List.set_cons_succ, List.getElem_toArray, List.getElem_cons_succ, List.getElem_cons_zero]
    refine wpAnyH_ready (rs := [3]) (by kernel_rfl) (by simp) ?_
    refine AllReadyH.cons rfl (fun K hK => ?_) AllReadyH.nil
    go_simp
    refine hK.out _ _ ?_ (fun hHeld => ?_)
    · (first | (go_keep; done) | exact (World.cell?_of_block ((alloc3 w2 _ _ _).2.2.2.block _ x3)).trans x0)
    clear hK K
    try simp only [Act.put, List.setIfInBounds_toArray, List.set_cons_zero, List.set_cons_succ, List.getElem_toArray, List.getElem_cons_succ, List.getElem_cons_zero]
    refine' wpAnyH_take (i := 6) (v := ?v13) rfl (by kernel_rfl) (by kernel_rfl) (by kernel_rfl) (fun _ _ _ h => QP.put (by decide) h) (Or.inl ⟨by rfl, ?hy13⟩) (by assumption) ?_
    case hy13 => (intro w hSw; (try dsimp only at hSw); go_simp; try with_reducible rfl)
    try simp only [Act.put, List.setIfInBounds_toArray, List.set_cons_zero, List.set_cons_succ, List.getElem_toArray, List.getElem_cons_succ, List.getElem_cons_zero]
    refine wpAnyH_ready (rs := [7]) (by kernel_rfl) (by simp) ?_
    refine AllReadyH.cons rfl (fun K hK => ?_) AllReadyH.nil
    go_simp
    refine hK.out _ _ ?_ (fun hHeld => ?_)
    · (first | (go_keep; done) | exact (World.cell?_of_block ((alloc3 w2 _ _ _).2.2.2.block _ x3)).trans x0)
    clear hK K
    try simp only [Act.put, List.setIfInBounds_toArray, List.set_cons_zero, List.set_cons_succ, List.getElem_toArray, List.getElem_cons_succ, List.getElem_cons_zero]
    refine wpAnyH_ready (rs := [8]) (by kernel_rfl) (by simp) ?_
    refine AllReadyH.cons rfl (fun K hK => ?_) AllReadyH.nil
    go_simp
    go_at_call 72
    refine Calls.at_args (FP.out _ _ (alloc3 _ _ _ _).2.2.2) (by with_reducible rfl) ?_
    rintro e w7 ⟨rfl, FE⟩
    exact ⟨rfl, rfl, rfl, FE⟩
theorem spare_one {n : Nat} {S : RS} (hl : ∀ p, S.used p = true → p < pagesN n) (h : ∃ r, r < pagesN n ∧ S.used r = false) : Spare S n 1 := by
  obtain ⟨r, h1, h2⟩ := h
  refine ⟨(List.range (pagesN n)).filter S.used, fun q hq => List.mem_filter.2 ⟨List.mem_range.2 (hl q hq), hq⟩, ?_⟩
  have : ((List.range (pagesN n)).filter S.used).length < (List.range (pagesN n)).length := List.length_filter_lt_length_iff_exists.2 ⟨r, List.mem_range.2 h1, by simp [h2]⟩
  rw [List.length_range] at this
  omega
/-- Put, whether there are pages or not. -/
theorem Put_F (G : Nat → Prop) (tb rb place n m : Nat) (S : RS) (o : Option TT) (key val : ByteArray) (w : World) (h : RmS w G rb n m S) (ht : TB w tb rb place) (hg : ¬ G tb) (hp : place < 16) (hm : m ≤ 3900000) (hks : key.size ≤ 96) (hvs : val.size ≤ 56) (hS : TreeSt S place o) (hh : hgtO o ≤ 20) :
    Calls Tryz.prog 31 #[.pointer (some ⟨tb, 0, none⟩), .string key, .string val] w fun e w' => (e = .returned (.int .i64 0) ∧ Hid (PutEnd w w' G rb n m place S o key val)) ∨ (e = .returned (.int .i64 4) ∧ Hid (StGo w w' G rb n m S)) := by
  obtain ⟨puts, hl, hrm, hr⟩ := h
  have hr2 : Rep n puts ⟨S.root, S.used, S.cont, puts⟩ := ⟨hr.r0, hr.rb, hr.bits, hr.lim, hr.page, List.prefix_refl _⟩
  have h2 : RmS w G rb n m ⟨S.root, S.used, S.cont, puts⟩ := ⟨puts, hl, hrm, hr2⟩
  cases o with
  | none =>
    by_cases hfr : ∃ r, r < pagesN n ∧ S.used r = false
    · refine (Put_new G tb rb place n m S key val w ⟨puts, hl, hrm, hr⟩ ht hg hp hm hks hvs hS (spare_one hr.lim hfr)).mono ?_
      rintro e w' ⟨rfl, hE⟩
      exact .inl ⟨rfl, hE⟩
    · refine (Put_newF G tb rb place n m w puts S ⟨S.root, S.used, S.cont, puts⟩ hr rfl hl hrm key val h2 ht hg hp hm hks hvs hS fun q hq => ?_).mono ?_
      · show S.used q = true
        cases hu : S.used q with
        | true => rfl
        | false => exact absurd ⟨q, hq, hu⟩ hfr
      · rintro e w' ⟨rfl, hE⟩
        exact .inr ⟨rfl, hE⟩
  | some T =>
    refine (Put_oldF G tb rb place n m w puts S ⟨S.root, S.used, S.cont, puts⟩ hr rfl hl hrm T key val h2 ht hg hp hm hks hvs ⟨hS.1, hS.2.frame fun q _ => ⟨rfl, rfl⟩⟩ hh).mono ?_
    rintro e w' (⟨rfl, hE⟩ | ⟨rfl, hE⟩)
    · refine .inl ⟨rfl, ?_⟩
      obtain ⟨S', o', a, ⟨⟨b1, b2⟩, c⟩⟩ := hE.out
      exact ⟨S', o', a, ⟨⟨b1, ⟨b2.keep, b2.back, b2.root⟩⟩, c⟩⟩
    · exact .inr ⟨rfl, hE⟩
end Go.Proofs.YtaibjcjphmhgmaaGreatDoor
namespace Go.Proofs.YtaibjcjphmhgmaaGreatDoor
set_option linter.unusedVariables false
set_option maxRecDepth 100000
set_option maxHeartbeats 2000000
open Go.RowKit
theorem rise_lt {P Q : List Nat} (hp : Q.Perm P) (hs : Q.Pairwise (fun a b => a ≤ b)) (hn : P.Nodup) (j : Nat) (h : j + 1 < Q.length) : Q[j] < Q[j + 1] := by
  have h1 : Q[j] ≤ Q[j + 1] := (List.pairwise_iff_getElem.1 hs) j (j + 1) (by omega) h (by omega)
  have hq : Q.Nodup := (hp.nodup_iff).2 hn
  have h2 : Q[j] ≠ Q[j + 1] := (List.pairwise_iff_getElem.1 hq) j (j + 1) (by omega) h (by omega)
  omega
theorem TreeSt.nod {S : RS} {place : Nat} {o : Option TT} (h : TreeSt S place o) : (pgsO o).Nodup := by
  cases o with
  | none => exact List.nodup_nil
  | some T => exact h.2.nod
/-- A row of numbers, read. -/
theorem rowi_at {w : World} {base : Nat} {va : Option Addr} {n vc : Nat} {Q : List Nat} (h : w.ownsRow base 3 1 (.slice va n vc) Q.length (Q.map encN)) (i : Nat) (hi : i < Q.length) : ∃ g, va = some ⟨g, 0, none⟩ ∧ g < w.heap.size ∧ w.cell? ⟨g, i, none⟩ = some (.int .i64 (Q[i] : Int)) := by
  rcases h.2 with ⟨e, h0⟩ | ⟨g, cap, cur, e, h1, h2, -⟩
  · omega
  · cases e
    refine ⟨g, rfl, lt_of_heap h2, ?_⟩
    rw [World.ownsRow.cellAt h i (by omega)]
    simp [hi, encN]
section
variable (w1 w : World) (K : Nat → Prop) (tb rb place n m : Nat) (S : RS) (o : Option TT)
theorem same_c (v : Value) (h : RSt w1 w K rb n m S) (ht : TB w tb rb place) (hK : K tb) (ho : TreeSt S place o) (hp : place < 16) (hm : m ≤ 3900000) (hh : hgtO o ≤ 19) (hv : RP 0 w v (entsO o)) (hkv : ∀ k, v.ownBlock = some k → K k) (hl : (entsO o).length ≤ 1000000) (hpg : (pgsO o).length ≤ 2 * (entsO o).length + 16) (hz : (pgsO o).length = 0 ↔ (entsO o).length = 0) :
    Calls Tryz.prog 43 #[.pointer (some ⟨tb, 0, none⟩), v] w fun e w' => e = .returned (.bool true) ∧ Hid (RSt w1 w' K rb n m S ∧ Kept K w w') := by
  obtain ⟨va, vc, rfl⟩ := hv.lit
  have HNOD := Lib.hid ho.nod
  have HFEW : Hid ((pgsO o).length ≤ 100000) := Lib.hid (by obtain ⟨G, a, -⟩ := h; exact ho.few a)
  have SC := scan_g w1 w K tb rb place n m S o ⟨#[]⟩ ⟨#[]⟩ 1073741824 h ht hK ho hp hm (by omega) (by omega) (by decide) (by decide)
  rw [show from_ ⟨#[]⟩ (entsO o) = entsO o from from_all fun e _ => kless_empty e.1, sRun_all _ _ _ (by simp; omega)] at SC
  rw [show ((1073741824 : Nat) : Int) = 1073741824 from rfl] at SC
  simp only [List.nil_append] at SC
  have HD := Lib.hid (And.intro hK (And.intro ho (And.intro hp (And.intro hm hh))))
  have HT := Lib.hid ht
  have HV := Lib.hid (And.intro hv hkv)
  have HL := Lib.hid hl
  have HPG := Lib.hid hpg
  have HZ := Lib.hid hz
  clear h ht hK ho hp hm hh hv hkv hl hpg hz
  go_enter Tryz.func43, Tryz.ntmps43
  go_wp2_with fail
  refine SC.mono ?_
  rintro e w2 ⟨v1, rfl, H2⟩
  clear SC
  obtain ⟨va1, vc1, hv1⟩ := (show RP (w.heap.size + 2) w2 v1 (entsO o) from H2.out.1).lit
  subst hv1
  have T2 := Lib.hid (H2.out.2.2.tb HT.out HD.out.1)
  have CN := count_r w1 w2 _ tb rb place n m S o H2.out.2.1 T2.out (.inl HD.out.1) HD.out.2.1 HD.out.2.2.1 HD.out.2.2.2.1 (by have := HD.out.2.2.2.2; omega) HL.out
  go_wp2_with fail
  refine CN.mono ?_
  rintro e w3 ⟨rfl, H3⟩
  clear CN
  have T3 := Lib.hid (H3.out.2.tb T2.out (.inl HD.out.1))
  have CK := check_r w1 w3 _ tb rb place n m S o H3.out.1 T3.out (.inl (.inl HD.out.1)) HD.out.2.1 HD.out.2.2.1 HD.out.2.2.2.1 (by have := HD.out.2.2.2.2; omega)
  go_wp2_with fail
  refine CK.mono ?_
  rintro e w4 ⟨rfl, H4⟩
  clear CK
  have T4 := Lib.hid (H4.out.2.tb T3.out (.inl (.inl HD.out.1)))
  have PG := pages_r w1 w4 _ tb rb place n m S o H4.out.1 T4.out (.inl (.inl (.inl HD.out.1))) HD.out.2.1 HD.out.2.2.1 HD.out.2.2.2.1 (by have := HD.out.2.2.2.2; omega)
  go_wp2_with fail
  refine PG.mono ?_
  rintro e w5 ⟨v4, rfl, H5⟩
  clear PG
  have HEND : Hid (RSt w1 w5 K rb n m S ∧ Kept K w w5) := Lib.hid ⟨H5.out.2.1.mono fun k hk => .inl (.inl (.inl (.inl hk))), ((H2.out.2.2.trans (H3.out.2.mono fun k hk => .inl hk)).trans (H4.out.2.mono fun k hk => .inl (.inl hk))).trans (H5.out.2.2.mono fun k hk => .inl (.inl (.inl hk)))⟩
  have HR1 : Hid (RP (w.heap.size + 2) w5 (.slice va1 (entsO o).length vc1) (entsO o)) := Lib.hid (by
    have r2 : RP (w.heap.size + 2) w2 (.slice va1 (entsO o).length vc1) (entsO o) := H2.out.1
    have hk : ∀ k, (Value.slice va1 (entsO o).length vc1).ownBlock = some k → w.heap.size ≤ k ∧ k < w2.heap.size := fun k e => ⟨by have := (r2.lt k e).1; omega, (r2.lt k e).2⟩
    have r3 : RP (w.heap.size + 2) w3 (.slice va1 (entsO o).length vc1) (entsO o) := Kept.row r2 H3.out.2 fun k e => .inr (hk k e)
    have r4 : RP (w.heap.size + 2) w4 (.slice va1 (entsO o).length vc1) (entsO o) := Kept.row r3 H4.out.2 fun k e => .inl (.inr (hk k e))
    exact Kept.row r4 H5.out.2.2 fun k e => .inl (.inl (.inr (hk k e))))
  have HR2 : Hid (RP 0 w5 (.slice va (entsO o).length vc) (entsO o)) := Lib.hid (Kept.row HV.out.1 HEND.out.2 HV.out.2)
  obtain ⟨Q, hQ1, hQ2, hQ3⟩ := H5.out.1
  obtain ⟨a4, k4, hv4⟩ := rowi_lit hQ3
  subst hv4
  have HLT : Hid (∀ j (h : j + 1 < Q.length), Q[j] < Q[j + 1]) := Lib.hid fun j h => rise_lt hQ1 hQ2 HNOD.out j h
  have hQl : Q.length = (pgsO o).length := hQ1.length_eq
  have HPG2 : Hid (Q.length ≤ 2 * (entsO o).length + 16) := Lib.hid (by rw [hQl]; exact HPG.out)
  have HZ2 : Hid (Q.length = 0 ↔ (entsO o).length = 0) := Lib.hid (by rw [hQl]; exact HZ.out)
  have HF2 : Hid (Q.length ≤ 100000) := Lib.hid (by rw [hQl]; exact HFEW.out)
  rw [← hQl] at hQ3 ⊢
  have HQ3 := Lib.hid hQ3
  have SM := fun W (hb : Hid (Below w5.heap.size w5 W)) => Same09_eq (w.heap.size + 2) 0 _ _ (entsO o) W (HR1.out.below hb.out) (HR2.out.below hb.out) HL.out
  have HFIN : Hid (∀ W, Below w5.heap.size w5 W → RSt w1 W K rb n m S ∧ Kept K w W) := Lib.hid fun W hb => ⟨(HEND.out.1.below hb).1.mono fun k hk => .inl hk, HEND.out.2.trans (HEND.out.1.below hb).2⟩
  have hx : (((Q.length : Int) == 0) = true ∧ (((entsO o).length : Int) == 0) = true) ∨ (((Q.length : Int) == 0) = false ∧ (((entsO o).length : Int) == 0) = false) := by
    have hz := HZ2.out
    by_cases h : Q.length = 0
    · exact .inl ⟨by rw [h]; rfl, by rw [hz.1 h]; rfl⟩
    · have h2 : ¬ (entsO o).length = 0 := fun e => h (hz.2 e)
      exact .inr ⟨beq_eq_false_iff_ne.2 (by omega), beq_eq_false_iff_ne.2 (by omega)⟩
  have hle : (Q.length : Int) ≤ 2 * ((entsO o).length : Int) + 16 := by have := HPG2.out; omega
  have hlen : (entsO o).length ≤ 1000000 := HL.out
  clear H2 H3 H4 H5 T2 T3 T4 HEND hQ1 hQ2 hQ3 hQl HPG HZ HPG2 HZ2 HFEW HD HT HV HNOD
  go_wp2_with fail
  go_loopg [37] Q.length (fun g s37 wr => ∃ i : Nat, g = Q.length - i ∧ i ≤ Q.length ∧ s37 = .int .i64 (i : Int) ∧ wr = w5)
  case atStart => exact ⟨0, rfl, Nat.zero_le _, rfl, rfl⟩
  case round =>
    obtain ⟨i, rfl, hi, rfl, rfl⟩ := hrel
    by_cases hlt : i < Q.length
    · have HI := Lib.hid hlt
      have hi1 : i ≤ 100000 := by have := HF2.out; omega
      have hltI : (i : Int) < (Q.length : Int) := by omega
      obtain ⟨g, rfl, hg, d0⟩ := rowi_at HQ3.out i hlt
      clear hle hx
      cases i with
      | zero =>
        generalize Q[0] = q0 at *
        clear hlt hg
        rw [show ((0 : Nat) : Int) = 0 from rfl] at *
        go_wp2_with fail
        go_roundg (Q.length - (0 + 1))
        case measure => have := HI.out; omega
        case rel => exact ⟨1, rfl, HI.out, rfl, rfl⟩
      | succ j =>
        obtain ⟨g', e', hg', d1⟩ := rowi_at HQ3.out j (by omega)
        cases e'
        have hq := HLT.out j hlt
        have p : ¬ ((Q[j + 1] : Nat) : Int) ≤ ((Q[j] : Nat) : Int) := by omega
        have p2 : ((j + 1 : Nat) : Int) - 1 = (j : Int) := by omega
        have p3 : (0 : Int) < ((j + 1 : Nat) : Int) := by omega
        have p4 : (j : Int) < (Q.length : Int) := by omega
        have hltI : ((j + 1 : Nat) : Int) < (Q.length : Int) := by omega
        generalize Q[j + 1] = q1 at *
        generalize Q[j] = q0 at *
        clear hlt hg hg' hq
        go_wp2_with fail
        go_roundg (Q.length - (j + 1 + 1))
        case measure => have := HI.out; omega
        case rel => exact ⟨j + 1 + 1, rfl, HI.out, by congr 1, rfl⟩
    · obtain rfl : i = Q.length := by omega
      clear hlt hi
      rcases hx with ⟨x1, x2⟩ | ⟨x1, x2⟩
      all_goals (
        go_wp2_with fail
        refine (SM _ (Lib.hid (Below.refl _ _))).mono ?_
        rintro e w6 ⟨rfl, HB6⟩
        clear SM
        go_wp2_with fail
        go_ret
        exact ⟨rfl, Lib.hid (HFIN.out _ HB6.out)⟩)
end
end Go.Proofs.YtaibjcjphmhgmaaGreatDoor
namespace Go.Proofs.YtaibjcjphmhgmaaGreatDoor
set_option linter.unusedVariables false
set_option maxRecDepth 100000
set_option maxHeartbeats 2000000
open Go.RowKit
/-! ### the reference's lists, in order -/
theorem fold_lo (k v : ByteArray) : ∀ (A O : List Pr) (_ : ∀ a ∈ A, kless a.1 k = true), A.foldl (pStep k v) (false, O) = (false, O ++ A)
  | [], O, _ => by simp
  | a :: A, O, h => by
    have ha := h a (by simp)
    have h1 : pStep k v (false, O) a = (false, O ++ [a]) := by
      unfold pStep
      rw [if_neg (by simp), if_neg (by rw [kless_asymm ha]; simp), if_neg (kless_ne ha)]
    rw [List.foldl_cons, h1, fold_lo k v A (O ++ [a]) fun x hx => h x (by simp [hx])]
    simp
theorem fold_hi (k v : ByteArray) : ∀ (B O : List Pr) (_ : ∀ b ∈ B, b.1 ≠ k), B.foldl (pStep k v) (true, O) = (true, O ++ B)
  | [], O, _ => by simp
  | b :: B, O, h => by
    have h1 : pStep k v (true, O) b = (true, O ++ [b]) := by
      unfold pStep
      rw [if_pos rfl, if_neg (h b (by simp))]
    rw [List.foldl_cons, h1, fold_hi k v B (O ++ [b]) fun x hx => h x (by simp [hx])]
    simp
theorem pPut_ins {k v : ByteArray} {E E' : List Pr} (h : Ins k v E E') : pPut k v E = E' := by
  obtain ⟨A, B, rfl, h', hA, hB⟩ := h
  have hBn : ∀ b ∈ B, b.1 ≠ k := fun b hb => (kless_ne (hB b hb)).symm
  rcases h' with rfl | ⟨u, rfl⟩
  · unfold pPut pRun
    rw [List.foldl_append, fold_lo k v A [] hA]
    cases B with
    | nil => simp
    | cons b B =>
      have h1 : pStep k v (false, [] ++ A) b = (true, (A ++ [(k, v)]) ++ [b]) := by
        unfold pStep
        rw [if_neg (by simp), if_pos (hB b (by simp))]; simp
      rw [List.foldl_cons, h1, fold_hi k v B _ fun x hx => hBn x (by simp [hx])]
      simp
  · unfold pPut pRun
    rw [List.foldl_append, fold_lo k v A [] hA, List.foldl_cons]
    have h1 : pStep k v (false, [] ++ A) (k, u) = (true, A ++ [(k, v)]) := by
      unfold pStep
      rw [if_neg (by simp), if_neg (by rw [kless_irrefl]; simp), if_pos rfl]; simp
    rw [h1, fold_hi k v B _ hBn]
    simp
theorem dPr_none {k : ByteArray} {E : List Pr} (h : ∀ e ∈ E, e.1 ≠ k) : dPr k E = E := by
  unfold dPr
  rw [List.filter_eq_self]
  intro e he; simp [h e he]
theorem dPr_del {k : ByteArray} {E E' : List Pr} (hs : Srt E) (h : Del k E E') : dPr k E = E' := by
  obtain ⟨A, B, v, rfl, rfl⟩ := h
  obtain ⟨-, hA, hB⟩ := srt_of hs
  have h1 : dPr k (A ++ (k, v) :: B) = dPr k A ++ dPr k B := by unfold dPr; rw [List.filter_append, List.filter_cons]; simp
  rw [h1, dPr_none fun e he => kless_ne (hA e he), dPr_none fun e he => (kless_ne (hB e he)).symm]
theorem gHas_del {k : ByteArray} {E E' : List Pr} (hs : Srt E) (h : Del k E E') : gHas E k = true := by
  obtain ⟨A, B, v, rfl, rfl⟩ := h
  obtain ⟨-, hA, hB⟩ := srt_of hs
  unfold gHas
  rw [gAt_split (fun a ha => kless_ne (hA a ha)) rfl]; rfl
theorem gHas_none {k : ByteArray} {E : List Pr} (h : ∀ e ∈ E, e.1 ≠ k) : gHas E k = false := by
  unfold gHas
  rw [gAt_none h]; rfl
/-! ### pages -/
theorem pgs_few : ∀ {h p : Nat} {t : PT h} (_ : Wf h t), (pgs h p t).length ≤ 1 + h * (ents h t).length
  | 0, _, _, _ => by simp [pgs]
  | h + 1, p, l, H => by
    obtain ⟨l', hl⟩ : ∃ l' : List (Kid h), l' = l := ⟨l, rfl⟩
    subst hl
    have hs : ∀ (l : List (Kid h)) (_ : ∀ x ∈ l, 0 < (nd h x.2.2).len ∧ Wf h x.2.2), (List.flatMap (fun x : Kid h => pgs h x.2.1 x.2.2) l).length ≤ (h + 1) * (List.flatMap (fun x : Kid h => ents h x.2.2) l).length := by
      intro l
      induction l with
      | nil => intro _; simp
      | cons x l ih =>
        intro hx
        have h1 := pgs_few (p := x.2.1) (hx x (by simp)).2
        have h2 := ents_pos (hx x (by simp)).2 (hx x (by simp)).1
        have h3 := ih fun y hy => hx y (by simp [hy])
        rw [List.flatMap_cons, List.length_append, List.flatMap_cons, List.length_append, Nat.mul_add]
        have h4 : (h + 1) * (ents h x.2.2).length = h * (ents h x.2.2).length + (ents h x.2.2).length := by rw [Nat.add_mul, Nat.one_mul]
        omega
    have := hs l' fun x hx => ⟨(H.1 x hx).2.2.1, (H.1 x hx).2.2.2.2⟩
    rw [pgs_low, List.length_cons]
    show (low (h + 1) l').length + 1 ≤ 1 + (h + 1) * (ents (h + 1) l').length
    have e : (low (h + 1) l').length = (List.flatMap (fun x : Kid h => pgs h x.2.1 x.2.2) l').length := rfl
    have e2 : (ents (h + 1) l').length = (List.flatMap (fun x : Kid h => ents h x.2.2) l').length := rfl
    rw [e, e2]; omega
theorem tree_small {S : RS} {place : Nat} {o : Option TT} (h : TreeSt S place o) (hh : hgtO o ≤ 5) (hp : (pgsO o).length ≤ 28) :
    (pgsO o).length ≤ 2 * (entsO o).length + 16 ∧ ((pgsO o).length = 0 ↔ (entsO o).length = 0) := by
  cases o with
  | none => simp [pgsO, entsO]
  | some T =>
    have h1 := pgs_few (p := T.p) h.2.wf
    have h2 := ents_pos h.2.wf h.2.pos
    have h3 : 0 < (pgs T.h T.p T.t).length := List.length_pos_of_mem (pgs_mem T.h T.p T.t)
    have hh' : T.h ≤ 5 := hh
    have hp' : (pgs T.h T.p T.t).length ≤ 28 := hp
    show (pgs T.h T.p T.t).length ≤ 2 * (ents T.h T.t).length + 16 ∧ ((pgs T.h T.p T.t).length = 0 ↔ (ents T.h T.t).length = 0)
    have h4 : T.h * (ents T.h T.t).length ≤ 5 * (ents T.h T.t).length := Nat.mul_le_mul_right _ hh'
    refine ⟨?_, by omega⟩
    omega
theorem pages30 (n : Nat) (h : n ≤ 30) : pagesN n ≤ 28 := by unfold pagesN; omega
/-! ### the state -/
section
variable {w1 w w' : World} {K : Nat → Prop} {tb rb n m a ab : Nat} {v : Value} {L : List Pr} {o : Option TT} {xs : Array Value}
/-- What the law's loop keeps. -/
def TF (w1 w : World) (tb rb n a : Nat) (v : Value) (o : Option TT) : Prop :=
  ∃ S, RSt w1 w (fun k => k = tb ∨ v.ownBlock = some k) rb n (500 * a) S ∧ TB w tb rb 1 ∧ TreeSt S 1 o ∧ RP 0 w v (entsO o) ∧ hgtO o ≤ 5 ∧ (entsO o).length ≤ a
/-- .. within a round: the act's block. -/
def TG (w1 w : World) (tb rb n m a : Nat) (ab : Nat) (xs : Array Value) (v : Value) (L : List Pr) (o : Option TT) : Prop :=
  ∃ S, RSt w1 w (fun k => (k = tb ∨ v.ownBlock = some k) ∨ k = ab) rb n m S ∧ TB w tb rb 1 ∧ TreeSt S 1 o ∧ RP 0 w v L ∧ hgtO o ≤ 5 ∧ (entsO o).length ≤ a ∧ w.heap[ab]? = some (.cells xs 85 (0, 0))
theorem belowA (w : World) (o : Obj) : Below w.heap.size w (w.alloc o) := (Below.refl w.heap.size w).alloc (Nat.le_refl _) o
theorem TF.start (h : TF w1 w tb rb n a v o) (xs : Array Value) : TG w1 (w.alloc (.cells xs 85)) tb rb n (500 * a) a w.heap.size xs v (entsO o) o := by
  obtain ⟨S, a1, a2, a3, a4, a5, a6⟩ := h
  have hb := belowA w (.cells xs 85)
  exact ⟨S, (a1.below hb).1.mono fun k hk => (by
    rcases hk with hk | rfl
    · exact .inl hk
    · exact .inr ⟨Nat.le_refl _, by simp⟩), a2.below hb, a3, a4.below hb, a5, a6, heap_alloc_new _ _⟩
theorem TG.fin {b : Nat} (h : TG w1 w tb rb n m a ab xs v (entsO o) o) (ha : a ≤ b) (hm : m ≤ 500 * b) : TF w1 w tb rb n b v o := by
  obtain ⟨S, a1, a2, a3, a4, a5, a6, a7⟩ := h
  exact ⟨S, (a1.mono fun k hk => .inl hk).more hm, a2, a3, a4, a5, by omega⟩
theorem TG.bel (h : TG w1 w tb rb n m a ab xs v L o) : Below w1.heap.size w1 w := by obtain ⟨S, a1, -⟩ := h; exact a1.bel
theorem TF.bel (h : TF w1 w tb rb n a v o) : Below w1.heap.size w1 w := by obtain ⟨S, a1, -⟩ := h; exact a1.bel
theorem TG.below (h : TG w1 w tb rb n m a ab xs v L o) (hb : Below w.heap.size w w') : TG w1 w' tb rb n m a ab xs v L o := by
  obtain ⟨S, a1, a2, a3, a4, a5, a6, a7⟩ := h
  exact ⟨S, (a1.below hb).1.mono fun k hk => .inl hk, a2.below hb, a3, a4.below hb, a5, a6, (hb.block ab (lt_of_heap a7)).trans a7⟩
theorem TG.kept {S : RS} {m' : Nat} (h : TG w1 w tb rb n m a ab xs v L o) (a1 : RSt w1 w' (fun k => (k = tb ∨ v.ownBlock = some k) ∨ k = ab) rb n m' S) (hk : Kept (fun k => (k = tb ∨ v.ownBlock = some k) ∨ k = ab) w w') {o' : Option TT} (a3 : TreeSt S 1 o') (a5 : hgtO o' ≤ 5) {a' : Nat} (a6 : (entsO o').length ≤ a') : TG w1 w' tb rb n m' a' ab xs v L o' := by
  obtain ⟨S0, b1, b2, b3, b4, b5, b6, b7⟩ := h
  exact ⟨S, a1, hk.tb b2 (.inl (.inl rfl)), a3, Kept.row b4 hk fun k e => .inl (.inr e), a5, a6, (hk ab (.inr rfl)).trans b7⟩
/-- .. with another list. -/
theorem TG.list {v' : Value} {L' : List Pr} (h : TG w1 w tb rb n m a ab xs v L o) (hp : PRel w L' v' w') : TG w1 w' tb rb n m a ab xs v' L' o := by
  obtain ⟨S, a1, a2, a3, a4, a5, a6, a7⟩ := h
  have hb := hp.2
  refine ⟨S, (a1.below hb).1.mono fun k hk => ?_, a2.below hb, a3, hp.1.le (Nat.zero_le _), a5, a6, (hb.block ab (lt_of_heap a7)).trans a7⟩
  rcases hk with (hk | hk) | hk
  · exact .inl (.inl (.inl hk))
  · exact .inr (hp.1.lt k hk)
  · exact .inl (.inr hk)
theorem TG.len (h : TG w1 w tb rb n m a ab xs v L o) : ∃ va vc, v = .slice va L.length vc := by obtain ⟨S, a1, a2, a3, a4, -⟩ := h; exact a4.lit
theorem TG.row (h : TG w1 w tb rb n m a ab xs v L o) : RP 0 w v L := by obtain ⟨S, a1, a2, a3, a4, -⟩ := h; exact a4
theorem TG.srt (h : TG w1 w tb rb n m a ab xs v L o) : Srt (entsO o) := by obtain ⟨S, a1, a2, a3, a4, -⟩ := h; exact srt_o a3
theorem TG.few (h : TG w1 w tb rb n m a ab xs v L o) : (entsO o).length ≤ a := by obtain ⟨S, a1, a2, a3, a4, a5, a6, a7⟩ := h; exact a6
theorem TreeSt.pgs {S : RS} {place : Nat} (h : TreeSt S place o) (hr : RSt w1 w K rb n m S) : (pgsO o).length ≤ pagesN n := by
  obtain ⟨G, a, -⟩ := hr
  cases o with
  | none => simp [pgsO]
  | some T => exact nodup_len (pagesN n) _ h.2.nod fun q hq => a.lim q (h.2.on.used q hq)
theorem tg_put (key val : ByteArray) (h : Hid (TG w1 w tb rb n m a ab xs v L o)) (hn : n ≤ 30) (hm : m ≤ 3900000) (hks : key.size ≤ 96) (hvs : val.size ≤ 56) :
    Calls Tryz.prog 31 #[.pointer (some ⟨tb, 0, none⟩), .string key, .string val] w fun e w' => (e = .returned (.int .i64 0) ∧ Hid (∃ o', TG w1 w' tb rb n (m + 100) (a + 1) ab xs v L o' ∧ Ins key val (entsO o) (entsO o'))) ∨ (e = .returned (.int .i64 4) ∧ Hid (TG w1 w' tb rb n m a ab xs v L o)) := by
  have hT := h.out
  obtain ⟨S, ⟨G, r1, r2, r3, r4⟩, a2, a3, a4, a5, a6, a7⟩ := h.out
  refine (Put_F G tb rb 1 n m S o key val w r1 a2 (r3 tb (.inl (.inl rfl))).2 (by decide) hm hks hvs a3 (by omega)).mono ?_
  rintro e w' (⟨rfl, hE⟩ | ⟨rfl, hE⟩)
  · refine .inl ⟨rfl, Lib.hid ?_⟩
    obtain ⟨S', o', hs, g1, g2, g3, g4, g5, g6, g7⟩ := hE.out
    obtain ⟨k1, k2⟩ := RSt.of r2 r3 r4 hs
    have hpg := g1.st.pgs k1
    have := pages30 n hn
    exact ⟨o', hT.kept k1 k2 g1.st (by omega) (by have := g2.len; omega), g2⟩
  · refine .inr ⟨rfl, Lib.hid ?_⟩
    obtain ⟨k1, k2⟩ := RSt.of r2 r3 r4 hE.out
    exact hT.kept k1 k2 a3 a5 a6
theorem tg_del (key : ByteArray) (h : Hid (TG w1 w tb rb n m a ab xs v (entsO o) o)) (hm : m ≤ 3900000) :
    Calls Tryz.prog 33 #[.pointer (some ⟨tb, 0, none⟩), .string key] w fun e w' => e = .returned (.tuple #[.bool (gHas (entsO o) key), .int .i64 0]) ∧ Hid (∃ o', TG w1 w' tb rb n (m + 300) a ab xs v (entsO o) o' ∧ dPr key (entsO o) = entsO o') := by
  have hT := h.out
  have hs := hT.srt
  obtain ⟨S, a1, a2, a3, a4, a5, a6, a7⟩ := h.out
  refine (del_r w1 w _ tb rb 1 n m S o key a1 a2 (.inl (.inl rfl)) a3 (by decide) hm (by omega)).mono ?_
  rintro e w' ⟨was, rfl, hE⟩
  obtain ⟨S', o', h1, h2, h3⟩ := hE.out
  rcases h3 with ⟨rfl, h3, h4, h5, h6, h7⟩ | ⟨rfl, rfl, rfl, h3⟩
  · refine ⟨by rw [gHas_del hs h4], Lib.hid ⟨o', hT.kept h1 h2 h3.st (by omega) ?_, dPr_del hs h4⟩⟩
    obtain ⟨A, B, u, e1, e2⟩ := h4
    rw [e2]; rw [e1] at a6; simp at a6 ⊢; omega
  · exact ⟨by rw [gHas_none h3], Lib.hid ⟨_, hT.kept h1 h2 a3 a5 a6, dPr_none h3⟩⟩
theorem tg_used (h : Hid (TG w1 w tb rb n m a ab xs v L o)) (hm : m ≤ 3900000) (hn : n ≤ 30) :
    Calls Tryz.prog 38 #[.pointer (some ⟨rb, 0, none⟩)] w fun e w' => ∃ c : Nat, e = .returned (.tuple #[.int .i64 (c : Int), .int .i64 0]) ∧ c ≤ 28 ∧ Hid (TG w1 w' tb rb n m a ab xs v L o) := by
  have hT := h.out
  obtain ⟨S, ⟨G, ⟨puts, p1, p2, p3⟩, -⟩, -⟩ := h.out
  refine (Used_c G rb n puts S w p2 p3 (by omega)).mono ?_
  rintro e w' ⟨rfl, hb⟩
  exact ⟨_, rfl, Nat.le_trans (cnt_le _ _) (pages30 n hn), Lib.hid (hT.below hb)⟩
theorem tg_pages (h : Hid (TG w1 w tb rb n m a ab xs v L o)) (hn : n ≤ 30) :
    Calls Tryz.prog 40 #[.pointer (some ⟨rb, 0, none⟩)] w fun e w' => ∃ c : Nat, e = .returned (.int .i64 (c : Int)) ∧ c ≤ 28 ∧ w = w' := by
  obtain ⟨S, ⟨G, ⟨puts, p1, ⟨t, lb, FL, F, hr⟩, p3⟩, -⟩, -⟩ := h.out
  obtain ⟨c0, c1, c2⟩ := hr.c
  have HP := Lib.hid (pages30 n hn)
  clear hr h p3 p1
  go_enter Tryz.func40, Tryz.ntmps40
  go_wp2_with fail
  go_ret
  exact ⟨_, rfl, HP.out, rfl⟩
theorem tg_same (h : Hid (TG w1 w tb rb n m a ab xs v (entsO o) o)) (hm : m ≤ 3900000) (hn : n ≤ 30) (ha : a ≤ 1000000) :
    Calls Tryz.prog 43 #[.pointer (some ⟨tb, 0, none⟩), v] w fun e w' => e = .returned (.bool true) ∧ Hid (TG w1 w' tb rb n m a ab xs v (entsO o) o) := by
  have hT := h.out
  obtain ⟨S, a1, a2, a3, a4, a5, a6, a7⟩ := h.out
  have hpg := a3.pgs a1
  have hp2 := pages30 n hn
  obtain ⟨s1, s2⟩ := tree_small a3 a5 (by omega)
  refine (same_c w1 w _ tb rb 1 n m S o v a1 a2 (.inl (.inl rfl)) a3 (by decide) hm (by omega) a4 (fun k e => .inl (.inr e)) (by omega) s1 s2).mono ?_
  rintro e w' ⟨rfl, hE⟩
  exact ⟨rfl, Lib.hid (hT.kept hE.out.1 hE.out.2 a3 a5 a6)⟩
theorem TF.new {G : Nat → Prop} (h : NewRoom w1 w G rb n) (h4 : 4 ≤ n) (ht : TB w' w.heap.size rb 1) (hb : Below w.heap.size w w') : TF w1 w' w.heap.size rb n 0 (.slice none 0 0) none := by
  refine ⟨_, ((RSt.start h h4).below hb).1.mono fun k hk => .inr ?_, ht, rfl, RP.nil _ _, by simp [hgtO], by simp [entsO]⟩
  rcases hk with rfl | hk
  · exact ⟨Nat.le_refl _, lt_of_heap ht⟩
  · cases hk
/-- The act's cells. -/
theorem TG.cells {what mp nn lg : Int} {key val tt : ByteArray} (h : TG w1 w tb rb n m a ab #[.int .i64 what, .int .i64 mp, .int .i64 nn, .int .i64 lg, .string key, .string val, .string tt] v L o) : w.cell? ⟨ab, 0, none⟩ = some (.int .i64 what) ∧ w.cell? ⟨ab, 3, none⟩ = some (.int .i64 lg) ∧ w.cell? ⟨ab, 4, none⟩ = some (.string key) ∧ w.cell? ⟨ab, 5, none⟩ = some (.string val) ∧ ab < w.heap.size := by
  obtain ⟨S, a1, a2, a3, a4, a5, a6, a7⟩ := h
  exact ⟨cell_lit a7 rfl, cell_lit a7 rfl, cell_lit a7 rfl, cell_lit a7 rfl, lt_of_heap a7⟩
end
end Go.Proofs.YtaibjcjphmhgmaaGreatDoor
namespace Go.Proofs.YtaibjcjphmhgmaaGreatDoor
set_option linter.unusedVariables false
set_option maxRecDepth 100000
set_option maxHeartbeats 4000000
open Go.RowKit
section
variable (a : Option Addr) (cap : Nat) (w : World) (l : List TAct)
theorem full_lo (n : Int) (h : n < 4 ∨ 30 < n) :
    Calls Tryz.prog 6 #[.int .i64 n, .slice a l.length cap] w fun e w' => e = .returned (.bool true) ∧ Hid (Below w.heap.size w w') := by
  have AW := awake9_c
  rcases h with h | h
  · go_enter Tryz.func6, Tryz.ntmps6
    go_wp2_with fail
    refine (AW _).mono ?_
    rintro e w1 ⟨rfl, hb⟩
    go_wp2_with fail
    go_ret
    exact ⟨rfl, hb⟩
  · have h2 : ¬ n < 4 := by omega
    go_enter Tryz.func6, Tryz.ntmps6
    go_wp2_with fail
    refine (AW _).mono ?_
    rintro e w1 ⟨rfl, hb⟩
    go_wp2_with fail
    go_ret
    exact ⟨rfl, hb⟩
theorem full_big (n : Nat) (h1 : 4 ≤ n) (h2 : n ≤ 30) (hs : smallB l = false)
    (hcell : ∀ k, (h : k < l.length) → ∃ b off, a = some ⟨b, off, none⟩ ∧ b < w.heap.size ∧ ∀ j, j < 7 → w.cell? ⟨b, off + k * 7 + j, none⟩ = (l[k].cells)[j]?) :
    Calls Tryz.prog 6 #[.int .i64 (n : Int), .slice a l.length cap] w fun e w' => e = .returned (.bool true) ∧ Hid (Below w.heap.size w w') := by
  have AW := awake9_c
  have SM : Hid (∀ W, Below w.heap.size w W → Calls Tryz.prog 36 #[.slice a l.length cap] W fun e w' => e = .returned (.bool false) ∧ Hid (Below W.heap.size W w')) := Lib.hid fun W hb => by
    have := Small_c a cap W l fun k hk => by
      obtain ⟨b, off, e, hb', hc⟩ := hcell k hk
      exact ⟨b, off, e, Nat.lt_of_lt_of_le hb' hb.size, fun j hj => (hb.cell (p := ⟨b, off + k * 7 + j, none⟩) hb').trans (hc j hj)⟩
    rwa [hs] at this
  have q1 : ¬ (n : Int) < 4 := by omega
  have q2 : ¬ (30 : Int) < (n : Int) := by omega
  clear hcell hs h1 h2
  go_enter Tryz.func6, Tryz.ntmps6
  go_wp2_with fail
  refine (AW _).mono ?_
  rintro e w1 ⟨rfl, hb⟩
  go_wp2_with fail
  refine (SM.out _ hb.out).mono ?_
  rintro e w2 ⟨rfl, hb2⟩
  go_wp2_with fail
  go_ret
  exact ⟨rfl, Lib.hid (hb.out.trans (hb2.out.mono hb.out.size))⟩
theorem full_in (n : Nat) (h1 : 4 ≤ n) (h2 : n ≤ 30) (hs : smallB l = true) (hF : ∀ x ∈ l, x.Fits)
    (hcell : ∀ k, (h : k < l.length) → ∃ b off, a = some ⟨b, off, none⟩ ∧ b < w.heap.size ∧ ∀ j, j < 7 → w.cell? ⟨b, off + k * 7 + j, none⟩ = (l[k].cells)[j]?) :
    Calls Tryz.prog 6 #[.int .i64 (n : Int), .slice a l.length cap] w fun e w' => e = .returned (.bool true) ∧ Hid (Below w.heap.size w w') := by
  have AW := awake9_c
  have SM : Hid (∀ W, Below w.heap.size w W → Calls Tryz.prog 36 #[.slice a l.length cap] W fun e w' => e = .returned (.bool true) ∧ Hid (Below W.heap.size W w')) := Lib.hid fun W hb => by
    have := Small_c a cap W l fun k hk => by
      obtain ⟨b, off, e, hb', hc⟩ := hcell k hk
      exact ⟨b, off, e, Nat.lt_of_lt_of_le hb' hb.size, fun j hj => (hb.cell (p := ⟨b, off + k * 7 + j, none⟩) hb').trans (hc j hj)⟩
    rwa [hs] at this
  have HL : Hid (l.length ≤ 150 ∧ ∀ x ∈ l, x.sml = true) := Lib.hid (by
    unfold smallB at hs
    rw [Bool.and_eq_true] at hs
    exact ⟨by simpa using hs.1, List.all_eq_true.1 hs.2⟩)
  have WD := fun w => Wide_c n w (by omega) (by omega)
  have BE := Begin_c
  have q1 : ¬ (n : Int) < 4 := by omega
  have q2 : ¬ (30 : Int) < (n : Int) := by omega
  have HN4 := Lib.hid (And.intro h1 h2)
  have HF := Lib.hid hF
  have HC := Lib.hid hcell
  clear hcell hs h1 h2 hF
  obtain ⟨NI, hNI⟩ : ∃ NI : Int, (n : Int) = NI := ⟨_, rfl⟩
  rw [hNI] at q1 q2 ⊢
  simp only [hNI] at WD
  have HNI := Lib.hid hNI
  clear hNI
  go_enter Tryz.func6, Tryz.ntmps6
  go_wp2_with fail
  refine (AW _).mono ?_
  rintro e w1 ⟨rfl, hb⟩
  go_wp2_with fail
  refine (SM.out _ hb.out).mono ?_
  rintro e w2 ⟨rfl, hb2⟩
  have HB2 := Lib.hid (hb.out.trans (hb2.out.mono hb.out.size))
  clear hb hb2 AW SM
  go_wp2_with fail
  refine (WD _).mono ?_
  rintro e wb ⟨db, lb, FL, rfl, H1⟩
  go_wp2_with fail
  refine (BE lb wb).mono ?_
  rintro e wc ⟨rfl, H2⟩
  have OF := Of_c _ lb n FL _ [] wc (chg_new H1.out H2.out) HN4.out.1
  go_wp2_with fail
  refine OF.mono ?_
  rintro e wd ⟨rb, G, rfl, H3⟩
  have NR := Lib.hid (NewRoom.of HB2.out H1.out H2.out H3.out)
  clear OF H1 H2 H3 HB2 WD BE q1 q2
  have AT := At_c rb 1 wd
  rw [show ((1 : Nat) : Int) = 1 from rfl] at AT
  go_wp2_with fail
  refine AT.mono ?_
  rintro e we ⟨rfl, HA⟩
  have M0 := Lib.hid (TF.new NR.out HN4.out.1 HA.out.1 HA.out.2)
  clear AT HA NR
  generalize wd.heap.size = tb at *
  go_wp2_with fail
  go_loopg [9, 45] l.length (fun g s9 s45 wr => ∃ (i : Nat) (v : Value) (o : Option TT), g = l.length - i ∧ i ≤ l.length ∧ v = s9 ∧ s45 = .int .i64 (i : Int) ∧ Hid (TF w wr tb rb n i v o))
  case atStart => exact ⟨0, _, none, rfl, Nat.zero_le _, rfl, rfl, M0⟩
  case round =>
    obtain ⟨i, v, o, rfl, hi, rfl, rfl, HM⟩ := hrel
    clear M0
    by_cases hlt : i < l.length
    · have HLT := Lib.hid hlt
      obtain ⟨bb, off, rfl, hbb, hc⟩ := HC.out i hlt
      have hfit := HF.out _ (List.getElem_mem hlt)
      have hsm := HL.out.2 _ (List.getElem_mem hlt)
      generalize l[i] = x at hc hfit hsm
      obtain ⟨what, mp, nn, lg, key, val, tt⟩ := x
      have hbel := HM.out.bel
      have D : ∀ j v, j < 7 → (TAct.cells ⟨what, mp, nn, lg, key, val, tt⟩)[j]? = some v → wr.cell? ⟨bb, off + i * 7 + j, none⟩ = some v := fun j v hj hv => (hbel.cell (p := ⟨bb, off + i * 7 + j, none⟩) hbb).trans ((hc j hj).trans hv)
      have d0 : wr.cell? ⟨bb, off + i * 7, none⟩ = some (.int .i64 what) := D 0 _ (by decide) rfl
      have d1 : wr.cell? ⟨bb, off + i * 7 + 1, none⟩ = some (.int .i64 mp) := D 1 _ (by decide) rfl
      have d2 : wr.cell? ⟨bb, off + i * 7 + 2, none⟩ = some (.int .i64 nn) := D 2 _ (by decide) rfl
      have d3 : wr.cell? ⟨bb, off + i * 7 + 3, none⟩ = some (.int .i64 lg) := D 3 _ (by decide) rfl
      have d4 : wr.cell? ⟨bb, off + i * 7 + 4, none⟩ = some (.string key) := D 4 _ (by decide) rfl
      have d5 : wr.cell? ⟨bb, off + i * 7 + 5, none⟩ = some (.string val) := D 5 _ (by decide) rfl
      have d6 : wr.cell? ⟨bb, off + i * 7 + 6, none⟩ = some (.string tt) := D 6 _ (by decide) rfl
      have hlb : bb < wr.heap.size := Nat.lt_of_lt_of_le hbb hbel.size
      have hltI : (i : Int) < (l.length : Int) := by omega
      have hi1 : i ≤ 150 := by have := HL.out; omega
      have HI := Lib.hid hi1
      have hk120 : key.size ≤ 120 := by unfold TAct.sml at hsm; simp at hsm; exact hsm.1
      have LG := fun W => long_c key lg W (by omega) hfit.lg
      have L0 := Lib.hid (HM.out.start #[.int .i64 what, .int .i64 mp, .int .i64 nn, .int .i64 lg, .string key, .string val, .string tt])
      obtain ⟨kk, hkk⟩ : ∃ kk, longB key lg = kk := ⟨_, rfl⟩
      rw [hkk] at LG
      clear D hc hbel hfit hsm hlt hkk hbb hk120
      go_wp2_with fail
      refine (LG _).mono ?_
      rintro e w3 ⟨rfl, hb3⟩
      have L3 := Lib.hid (L0.out.below hb3.out)
      clear LG L0 hb3 d0 d1 d2 d3 d4 d5 d6 hlb
      generalize wr.heap.size = ab at *
      obtain ⟨c0, c3, c4, c5, hab⟩ := L3.out.cells
      have SKIP : Hid (TF w w3 tb rb n (i + 1) v o) := Lib.hid (L3.out.fin (Nat.le_succ i) (by omega))
      by_cases p1 : 96 < kk.size
      · have p1' : (96 : Int) < (kk.size : Int) := by omega
        clear p1
        go_wp2_with fail
        go_roundg (l.length - (i + 1))
        case measure => have := HLT.out; omega
        case rel => exact ⟨i + 1, v, o, rfl, HLT.out, rfl, by congr 1, SKIP⟩
      have p1' : ¬ (96 : Int) < (kk.size : Int) := by omega
      by_cases p2 : 56 < val.size
      · have p2' : (56 : Int) < (val.size : Int) := by omega
        clear p1 p2
        go_wp2_with fail
        go_roundg (l.length - (i + 1))
        case measure => have := HLT.out; omega
        case rel => exact ⟨i + 1, v, o, rfl, HLT.out, rfl, by congr 1, SKIP⟩
      have p2' : ¬ (56 : Int) < (val.size : Int) := by omega
      have HKV : Hid (kk.size ≤ 96 ∧ val.size ≤ 56) := Lib.hid ⟨by omega, by omega⟩
      clear p1 p2 SKIP
      by_cases e0 : what = 0
      · subst e0
        have FEW := Lib.hid L3.out.few
        have US := tg_used L3 (by omega) HN4.out.2
        go_wp2_with fail
        refine US.mono ?_
        rintro e w4 ⟨c, rfl, hcc, L4⟩
        clear US c0 c3 c4 c5 hab L3
        obtain ⟨c0, c3, c4, c5, hab⟩ := L4.out.cells
        have PT := tg_put kk val L4 HN4.out.2 (by omega) HKV.out.1 HKV.out.2
        go_wp2_with fail
        refine PT.mono ?_
        clear PT L4 c0 c3 c4 c5 hab
        rintro e w5 (⟨rfl, H5⟩ | ⟨rfl, L5⟩)
        · obtain ⟨o', L5, HIN⟩ := H5.out
          have L5H := Lib.hid L5
          have HIH := Lib.hid HIN
          obtain ⟨c0, c3, c4, c5, hab⟩ := L5.cells
          have RP9 := Put09_c 0 v (entsO o) kk val w5 L5.row (by have := FEW.out; omega)
          rw [pPut_ins HIN] at RP9
          clear H5 L5 HIN
          go_wp2_with fail
          refine RP9.mono ?_
          rintro e w6 ⟨v', rfl, H6⟩
          have L6 := Lib.hid (L5H.out.list H6.out)
          have SA := tg_same L6 (by omega) HN4.out.2 (by omega)
          clear RP9 H6 L5H c0 c3 c4 c5 hab
          go_wp2_with fail
          refine SA.mono ?_
          rintro e w7 ⟨rfl, L7⟩
          have L8 : Hid (TF w w7 tb rb n (i + 1) v' o') := Lib.hid (L7.out.fin (Nat.le_refl _) (by omega))
          clear SA L6 L7
          go_wp2_with fail
          go_roundg (l.length - (i + 1))
          case measure => have := HLT.out; omega
          case rel => exact ⟨i + 1, v', o', rfl, HLT.out, rfl, by congr 1, L8⟩
        · have PG := tg_pages L5 HN4.out.2
          go_wp2_with fail
          refine PG.mono ?_
          rintro e w6 ⟨c2, rfl, hc2, rfl⟩
          have hd : ¬ (35 : Int) ≤ (c2 : Int) - (c : Int) := by omega
          have SA := tg_same L5 (by omega) HN4.out.2 (by omega)
          clear PG L5
          go_wp2_with fail
          refine SA.mono ?_
          rintro e w7 ⟨rfl, L7⟩
          have L8 : Hid (TF w w7 tb rb n (i + 1) v o) := Lib.hid (L7.out.fin (Nat.le_succ i) (by omega))
          clear SA L7
          go_wp2_with fail
          go_roundg (l.length - (i + 1))
          case measure => have := HLT.out; omega
          case rel => exact ⟨i + 1, v, o, rfl, HLT.out, rfl, by congr 1, L8⟩
      by_cases e1 : what = 1
      · subst e1
        clear e0
        have GT := Get09_c 0 v (entsO o) kk w3 L3.out.row (by have := L3.out.few; omega)
        have DE := tg_del kk L3 (by omega)
        have DR : Hid (∀ W, (∃ (m2 a2 : Nat) (o2 : Option TT), TG w W tb rb n m2 a2 ab #[.int .i64 1, .int .i64 mp, .int .i64 nn, .int .i64 lg, .string key, .string val, .string tt] v (entsO o) o2 ∧ True) → Calls Tryz.prog 42 #[v, .string kk] W fun e w' => ∃ v', e = .returned v' ∧ Hid (PRel W (dPr kk (entsO o)) v' w')) := Lib.hid fun W ⟨m', a', o', h, h2⟩ => Delete09_c 0 v (entsO o) kk W h.row (by have := L3.out.few; omega)
        generalize gHas (entsO o) kk = hs at *
        generalize gVal (entsO o) kk = vs at *
        go_wp2_with fail
        refine GT.mono ?_
        rintro e w4 ⟨rfl, rfl⟩
        clear GT
        go_wp2_with fail
        refine DE.mono ?_
        rintro e w5 ⟨rfl, H5⟩
        obtain ⟨o', L5, hd⟩ := H5.out
        have L5H := Lib.hid L5
        have HD := Lib.hid hd
        have DR2 := DR.out w5 ⟨_, _, _, L5, trivial⟩
        clear DE DR H5 L5 hd L3 c0 c3 c4 c5 hab
        go_wp2_with fail
        refine DR2.mono ?_
        rintro e w6 ⟨v', rfl, H6⟩
        have L6 : Hid (TG w w6 tb rb n (500 * i + 300) i ab #[.int .i64 1, .int .i64 mp, .int .i64 nn, .int .i64 lg, .string key, .string val, .string tt] v' (entsO o') o') := Lib.hid (by have := L5H.out.list H6.out; rwa [HD.out] at this)
        have SA := tg_same L6 (by omega) HN4.out.2 (by omega)
        clear DR2 H6 L5H
        go_wp2_with fail
        refine SA.mono ?_
        rintro e w7 ⟨rfl, L7⟩
        have L8 : Hid (TF w w7 tb rb n (i + 1) v' o') := Lib.hid (L7.out.fin (Nat.le_succ i) (by omega))
        clear SA L6 L7
        go_wp2_with fail
        go_roundg (l.length - (i + 1))
        case measure => have := HLT.out; omega
        case rel => exact ⟨i + 1, v', o', rfl, HLT.out, rfl, by congr 1, L8⟩
      have f0 : (what == 0) = false := by simp [e0]
      have f1 : (what == 1) = false := by simp [e1]
      have SA := tg_same L3 (by omega) HN4.out.2 (by omega)
      clear L3 e0 e1
      go_wp2_with fail
      refine SA.mono ?_
      rintro e w7 ⟨rfl, L7⟩
      have L8 : Hid (TF w w7 tb rb n (i + 1) v o) := Lib.hid (L7.out.fin (Nat.le_succ i) (by omega))
      clear SA L7
      go_wp2_with fail
      go_roundg (l.length - (i + 1))
      case measure => have := HLT.out; omega
      case rel => exact ⟨i + 1, v, o, rfl, HLT.out, rfl, by congr 1, L8⟩
    · obtain rfl : i = l.length := by omega
      have HB : Hid (Below w.heap.size w wr) := Lib.hid HM.out.bel
      clear hlt hi HM
      go_wp2_with fail
      go_ret
      exact ⟨rfl, HB⟩
end
theorem TreeFull_w (v0 v1 : Value) (w : World) (g0 : Reads w 3 v0) (g1 : Reads w 81 v1) : Calls Tryz.prog 6 #[v0, v1] w fun e w' => e = .returned (.bool true) ∧ Below w.heap.size w w' := by
  obtain ⟨n, rfl, hn⟩ := reads_int Tryz.underlying3 g0
  obtain ⟨l, ⟨a, cap, rfl, hc⟩, hl, hf⟩ := reads_tacts g1
  by_cases h : n < 4 ∨ 30 < n
  · refine (full_lo a cap w l n h).mono ?_
    rintro e w' ⟨rfl, hb⟩
    exact ⟨rfl, hb.out⟩
  · obtain ⟨k, rfl⟩ : ∃ k : Nat, n = k := ⟨n.toNat, by omega⟩
    cases hs : smallB l with
    | false =>
      refine (full_big a cap w l k (by omega) (by omega) hs hc).mono ?_
      rintro e w' ⟨rfl, hb⟩
      exact ⟨rfl, hb.out⟩
    | true =>
      refine (full_in a cap w l k (by omega) (by omega) hs hf hc).mono ?_
      rintro e w' ⟨rfl, hb⟩
      exact ⟨rfl, hb.out⟩
end Go.Proofs.YtaibjcjphmhgmaaGreatDoor
