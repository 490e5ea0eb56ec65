/- sector: Write. -/
import Derived.Test.YtjgihpabbogpjaaSecA
namespace Go.Proofs.Ytjgihpabbogpjaa
open Go.RowKit
attribute [local go_sem ↓] Go.wp_at_zero Go.wp_at_succ

def dkWrite (D : Dk) (i : Int) (s : ByteArray) : Int × Dk :=
  if D.down = true then (3, D) else if i < 0 ∨ D.size ≤ i then (2, D) else if 512 < s.size then (5, D) else
  if (dkStep D).1 = false then (3, (dkStep D).2) else (0, { (dkStep D).2 with loose := (dkStep D).2.loose ++ [(i, pad s)], now := put (dkStep D).2.now i (pad s) })

theorem infoW : (Try.prog.info? 58).map (fun i => (i.zero, i.size, i.bytes)) = some (some (.agg #[.int .i64 0, .string ByteArray.empty]), 2, 24) := by kernel_rfl

theorem len_ok {n : Nat} (h : n ≤ 4000000000) : n + 1 ≤ maxLen := by unfold maxLen; omega
theorem grown_drew {w w' : World} {r : Option Nat} (h : w.drew.grownBy w' r) : w.grownBy w' r := ⟨h.os, h.tape, h.output, h.size, h.block⟩
theorem pad_size {s : ByteArray} (h : s.size ≤ 512) : (pad s).size = 512 := by
  have : s.data.toList.length = s.size := by simp
  show (s.data.toList ++ List.replicate (512 - s.size) (0 : UInt8)).toArray.size = 512
  rw [List.size_toArray, List.length_append, List.length_replicate, this]; omega
theorem dkStep_same (D : Dk) : (dkStep D).2.loose = D.loose ∧ (dkStep D).2.now = D.now ∧ (dkStep D).2.firm = D.firm ∧ (dkStep D).2.size = D.size := by
  unfold dkStep; split
  · exact ⟨rfl, rfl, rfl, rfl⟩
  · split <;> exact ⟨rfl, rfl, rfl, rfl⟩
theorem write_end {w W W5 w6 : World} {F : Nat → Prop} {b : Nat} {D : Dk} {mf mn gg cap : Nat} {lv : Value} {i : Int} {s : ByteArray}
    (hd : D.down = false) (i0 : 0 ≤ i) (i1 : i < D.size) (hs : s.size ≤ 512) (hk : (dkStep D).1 = true)
    (h3 : IsDk W F b (dkStep D).2 mf mn lv) (hU : Upd (fun k => k = b) w W) (hat : lv.ownBlock = some gg ∨ gg = W.heap.size + 1)
    (hc5 : W5.heap[b]? = some (.cells (dkCells (dkStep D).2 mf mn (.slice (some ⟨gg, 0, none⟩) ((dkStep D).2.loose.length + 1) cap)) 55 (0, 0)))
    (hf5 : MapIs kInt Value.string W5 mf (dkStep D).2.firm) (hm6 : MapIs kInt Value.string w6 mn (put (dkStep D).2.now i (pad s)))
    (ho5 : W5.ownsRow 0 58 2 (.slice (some ⟨gg, 0, none⟩) ((dkStep D).2.loose.length + 1) cap) ((dkStep D).2.loose.length + 1) (wrs (dkStep D).2.loose ++ [.int .i64 i, .string (pad s)]))
    (hU5 : Upd (fun k => k = b ∨ lv.ownBlock = some k) W W5) (hU6 : Upd (fun k => k = mn) W5 w6) (hw : w.heap.size ≤ W.heap.size) :
    Hid (∃ F', IsDisk w6 F' b (dkWrite D i s).2 ∧ Turn F F' w w6) := by
  have e1 : (dkWrite D i s).2 = { (dkStep D).2 with loose := (dkStep D).2.loose ++ [(i, pad s)], now := put (dkStep D).2.now i (pad s) } := by
    simp [dkWrite, hd, hk, show ¬ (i < 0 ∨ D.size ≤ i) by omega, show ¬ (512 < s.size) by omega]
  have ng : gg ≠ mn := fun e => by
    obtain ⟨cur, hc⟩ := ownsRow_cells ho5 rfl
    subst e
    rcases hat with h | h
    · exact h3.nl.2.2 h
    · have := h3.now.lt; omega
  refine ⟨fun k => k = b ∨ k = mf ∨ k = mn ∨ k = gg, ⟨mf, mn, .slice (some ⟨gg, 0, none⟩) ((dkStep D).2.loose.length + 1) cap, ?_⟩, ?_, ?_⟩
  · rw [e1]
    refine ⟨hU6.at hc5 (Ne.symm h3.nn), hf5.upd hU6 h3.ne, hm6, ?_, h3.ne, fun k => by simp [Value.ownBlock, eq_comm], ⟨h3.wf.1, h3.wf.2, h3.wf.3, h3.wf.4, h3.wf.5, ?_, h3.wf.7⟩⟩
    · have := ownsRow_upd ho5 hU6 (fun k hk e => ng (by simp [Value.ownBlock] at hk; omega))
      simpa [wrs] using this
    · intro k t ht
      rw [look_put] at ht
      split at ht
      · cases ht; exact pad_size hs
      · exact h3.wf.6 k t ht
  · have o := h3.own
    refine (hU.mono (fun k _ e => (o k).2 (.inl e))).trans' ((hU5.mono (S' := F) (fun k _ e => (o k).2 (e.elim .inl (fun e => .inr (.inr (.inr e)))))).trans' (hU6.mono (S' := F) (fun k _ e => (o k).2 (.inr (.inr (.inl e))))) (fun _ _ e => e)) (fun _ _ e => e)
  · intro k hk
    have o := h3.own
    rcases hk with e | e | e | e
    · exact .inl ((o k).2 (.inl e))
    · exact .inl ((o k).2 (.inr (.inl e)))
    · exact .inl ((o k).2 (.inr (.inr (.inl e))))
    · rcases hat with h | h
      · exact .inl ((o k).2 (.inr (.inr (.inr (by rw [h, e])))))
      · exact .inr (by omega)

set_option maxHeartbeats 1000000 in
theorem Write_ok (b : Nat) (D : Dk) (F : Nat → Prop) (mf mn : Nat) (lv : Value) (i : Int) (s : ByteArray) (w : World) (h : IsDk w F b D mf mn lv) (hl : D.loose.length ≤ 4000000000)
    (hd : D.down = false) (i0 : 0 ≤ i) (i1 : i < D.size) (hs : s.size ≤ 512) (hk : (dkStep D).1 = true) :
    Calls Try.prog 9 #[.pointer (some ⟨b, 0, none⟩), .int .i64 i, .string s] w fun e w' => e = .returned (.int .i64 0) ∧ Hid (∃ F', IsDisk w' F' b (dkWrite D i s).2 ∧ Turn F F' w w') := by
  obtain ⟨c0, -, -, -, -, -, c6⟩ := h.c
  rw [hd] at c6
  have st := step_c b D F mf mn lv w h
  rw [hk] at st
  have HH := Lib.hid h
  have Hk := Lib.hid hk
  have Hd := Lib.hid hd
  have St := Lib.hid st
  clear h hk hd st
  go_enter Try.func9, Try.ntmps9
  go_wp2_with (first | (go_at_call 14; refine (Down_c _ _ _ c6).mono ?_; rintro e w' ⟨rfl, rfl⟩) | (go_at_call 21; refine (St.out).mono ?_; rintro e w1 ⟨rfl, hst, hu1⟩; have Hst := Lib.hid hst; have Hu1 := Lib.hid hu1; clear hst hu1) | (go_at_call 22; refine (full_any _ _ hs).mono ?_; rintro e w2 ⟨rfl, hb2⟩; have Hb2 := Lib.hid hb2; clear hb2))
  have hst := Hst.out
  have hu2 : Upd (fun _ => False) w1 (w2.alloc (.cells #[.int .i64 i, .string (pad s)] 58)) := ((Hb2.out).upd' (Nat.le_refl _)).alloc _
  have h3 := hst.frame hu2 (fun _ _ e => e)
  have hU : Upd (· = b) w (w2.alloc (.cells #[.int .i64 i, .string (pad s)] 58)) := (Hu1.out).trans (hu2.mono (fun _ _ e => e.elim))
  have e0 : (w2.alloc (.cells #[.int .i64 i, .string (pad s)] 58)).heap[w2.heap.size]? = some (.cells #[.int .i64 i, .string (pad s)] 58 (0, 0)) := heap_alloc_new _ _
  have lp : b ≠ w2.heap.size := by
    have := lt_of_heap hst.cells; have := (Hb2.out).size; omega
  have hlen : (dkStep D).2.loose.length ≤ 4000000000 := by
    have : (dkStep D).2.loose = D.loose := by unfold dkStep; split <;> (try rfl); split <;> rfl
    rw [this]; exact hl
  have np : lv.ownBlock ≠ some w2.heap.size := fun e => by
    have := (hst.loose.lt _ e).2; have := (Hb2.out).size; omega
  generalize w2.alloc (.cells #[.int .i64 i, .string (pad s)] 58) = W at *
  generalize w2.heap.size = p at *
  obtain ⟨-, -, c2, c3, -, -, -⟩ := h3.c
  have f2 := frozen_lit h3.cells 2
  have hown := h3.loose
  have q0 : W.cell? ⟨p, 0, none⟩ = some (.int .i64 i) := cell_lit e0 rfl
  have q1 : W.cell? ⟨p, 1, none⟩ = some (.string (pad s)) := cell_lit e0 rfl
  have lb := lt_of_heap h3.cells
  have lq := lt_of_heap e0
  have nl := h3.nl.1
  have H3 := Lib.hid h3
  have HU := Lib.hid hU
  have E0 := Lib.hid e0
  clear hst hu2 h3 hU e0 c0 c6 HH St Hst Hu1 Hb2
  obtain ⟨j0, hj, hz0, hz1, hz2⟩ := info_parts infoW
  go_region_law (
    refine step_append_lies _ (by rfl) _ _ _ (by rfl) 0 58 j0 _ 2 24 Try.underlying53 hj hz0 hz1 hz2 rfl (by omega) lv _ _ (by rfl) ((hown.alloc _).drew)
        ⟨W.heap.size, 0, none⟩ 1 1 [.int .i64 i, .string (pad s)] (by rfl) (by rfl) (World.news_of_block (cs := #[.int .i64 i, .string (pad s)]) (t := 58) (fr := (0, 0)) (heap_alloc_new W _)) (one2 _ _ rfl rfl)
        (by decide) (len_ok hlen) (by have := hlen; omega) (Nat.zero_le _) (W.heap.size + 1) (World.size_alloc _ _) ?_; intro gg cap w4 hown4 hgrow hat hlt
    have hgrow' : W.grownBy w4 lv.ownBlock := (World.grownBy_alloc W _ _).trans (grown_drew hgrow)
    have g2 : w4.frozen? ⟨b, 2, none⟩ = false := (hgrow'.frozen_far ⟨b, 2, none⟩ lb (Ne.symm nl)).trans f2
    have d2 : w4.cell? ⟨b, 2, none⟩ = some lv := (hgrow'.cell_far ⟨b, 2, none⟩ lb (Ne.symm nl)).trans c2
    clear hgrow)
  all_goals
    have w5c : (w4.setCell ⟨b, 2, none⟩ (.slice (some ⟨gg, 0, none⟩) ((dkStep D).2.loose.length + 1) cap)).heap[b]? = some (.cells (dkCells (dkStep D).2 mf mn (.slice (some ⟨gg, 0, none⟩) ((dkStep D).2.loose.length + 1) cap)) 55 (0, 0)) :=
      heap_set_lit ((hgrow'.block b lb (Ne.symm nl)).trans (H3.out).cells) _
    have w5q : (w4.setCell ⟨b, 2, none⟩ (.slice (some ⟨gg, 0, none⟩) ((dkStep D).2.loose.length + 1) cap)).heap[p]? = some (.cells #[.int .i64 i, .string (pad s)] 58 (0, 0)) := by
      rw [heap_set_ne _ lp.symm, hgrow'.block p lq (Ne.symm np)]; exact (E0.out)
    have hU5 : Upd (fun k => k = b ∨ lv.ownBlock = some k) W (w4.setCell ⟨b, 2, none⟩ (.slice (some ⟨gg, 0, none⟩) ((dkStep D).2.loose.length + 1) cap)) :=
      ((Upd.refl _ _).grown hgrow' (fun k hk => .inl (.inr hk))).trans ((upd_setCell _ _ _ _).mono (fun _ _ e => .inl e))
    have hm5 : MapIs kInt Value.string (w4.setCell ⟨b, 2, none⟩ (.slice (some ⟨gg, 0, none⟩) ((dkStep D).2.loose.length + 1) cap)) mn (dkStep D).2.now :=
      (H3.out).now.upd hU5 (fun e => e.elim (H3.out).nn (H3.out).nl.2.2)
    have hf5 : MapIs kInt Value.string (w4.setCell ⟨b, 2, none⟩ (.slice (some ⟨gg, 0, none⟩) ((dkStep D).2.loose.length + 1) cap)) mf (dkStep D).2.firm :=
      (H3.out).firm.upd hU5 (fun e => e.elim (H3.out).nf (H3.out).nl.2.1)
    have ho5 : (w4.setCell ⟨b, 2, none⟩ (.slice (some ⟨gg, 0, none⟩) ((dkStep D).2.loose.length + 1) cap)).ownsRow 0 58 2 (.slice (some ⟨gg, 0, none⟩) ((dkStep D).2.loose.length + 1) cap) ((dkStep D).2.loose.length + 1) (wrs (dkStep D).2.loose ++ [.int .i64 i, .string (pad s)]) :=
      ownsRow_upd hown4 (upd_setCell _ _ _ _) (fun k hk e => by
        obtain ⟨cur, hc⟩ := ownsRow_cells hown4 hk
        subst e
        rw [hgrow'.block k lb (Ne.symm nl), (H3.out).cells] at hc
        simp at hc)
    have HGW := Lib.hid hgrow'
    clear hown4 hgrow' g2 d2
    generalize w4.setCell ⟨b, 2, none⟩ (.slice (some ⟨gg, 0, none⟩) ((dkStep D).2.loose.length + 1) cap) = W5 at *
    obtain ⟨w6, hrun, hm6, hu6⟩ := run_mapUpdate (w := W5.drew) (hm5.of_heap rfl) Try.underlying52 Try.underlying3 i (pad s)
    simp only [kInt] at hrun
    have k3 : W5.cell? ⟨b, 3, none⟩ = some (.map (some mn)) := cell_lit w5c rfl
    have kp : W5.cell? ⟨p, 1, none⟩ = some (.string (pad s)) := cell_lit w5q rfl
    have nn3 := (H3.out).nn
    have g3 : w6.cell? ⟨b, 3, none⟩ = some (.map (some mn)) := (World.cell?_of_block (hu6.block b (lt_of_heap w5c) (Ne.symm nn3))).trans k3
    have gp : w6.cell? ⟨p, 1, none⟩ = some (.string (pad s)) := (World.cell?_of_block (hu6.block p (lt_of_heap w5q) (fun e => (H3.out).now.ne_cells (E0.out) e.symm))).trans kp
    have HM6 := Lib.hid hm6
    have HU6 := Lib.hid hu6
    have HF5 := Lib.hid hf5
    have HO5 := Lib.hid ho5
    have HU5 := Lib.hid hU5
    have HC5 := Lib.hid w5c
    have HAT := Lib.hid hat
    clear hm6 hu6 hf5 ho5 hU5 w5c w5q hm5 hat hlt c2 c3 f2 hown q0 q1 hz0 hz1 hz2 hj
    go_wp2_with fail
    go_region_held3 (fun w' => w'.cell? ⟨b, 3, none⟩ = some (.map (some mn)) ∧ w'.cell? ⟨p, 1, none⟩ = some (.string (pad s))) (go_keep) (fail)
    go_wp2_with fail
    go_ret
    refine ⟨rfl, ?_⟩
    exact write_end (Hd.out) i0 i1 hs (Hk.out) (H3.out) (HU.out) (HAT.out) (HC5.out) (HF5.out) (HM6.out) (HO5.out) (HU5.out) ((HU6.out).drew_left) (HU.out).size

set_option maxHeartbeats 1000000 in
theorem Write_fail (b : Nat) (D : Dk) (F : Nat → Prop) (mf mn : Nat) (lv : Value) (i : Int) (s : ByteArray) (w : World) (h : IsDk w F b D mf mn lv)
    (hd : D.down = false) (i0 : 0 ≤ i) (i1 : i < D.size) (hs : s.size ≤ 512) (hk : (dkStep D).1 = false) :
    Calls Try.prog 9 #[.pointer (some ⟨b, 0, none⟩), .int .i64 i, .string s] w fun e w' => e = .returned (.int .i64 3) ∧ Hid (IsDk w' F b (dkStep D).2 mf mn lv ∧ Upd (· = b) w w') := by
  obtain ⟨c0, -, -, -, -, -, c6⟩ := h.c
  rw [hd] at c6
  have st := step_c b D F mf mn lv w h
  rw [hk] at st
  have St := Lib.hid st
  clear h hk hd st
  go_enter Try.func9, Try.ntmps9
  go_wp2_with (first | (go_at_call 14; refine (Down_c _ _ _ c6).mono ?_; rintro e w' ⟨rfl, rfl⟩) | (go_at_call 21; refine (St.out).mono ?_; rintro e w1 ⟨rfl, hst⟩; have Hst := Lib.hid hst; clear hst))
  go_ret
  exact ⟨rfl, Hst⟩

/-- Write, refused. -/
theorem Write_no (b : Nat) (D : Dk) (F : Nat → Prop) (mf mn : Nat) (lv : Value) (i : Int) (s : ByteArray) (w : World) (h : IsDk w F b D mf mn lv)
    (hn : D.down = true ∨ i < 0 ∨ D.size ≤ i ∨ 512 < s.size) :
    Calls Try.prog 9 #[.pointer (some ⟨b, 0, none⟩), .int .i64 i, .string s] w fun e w' => e = .returned (.int .i64 (dkWrite D i s).1) ∧ w = w' := by
  obtain ⟨c0, -, -, -, -, -, c6⟩ := h.c
  clear h
  by_cases hd : D.down = true
  · rw [hd] at c6
    have e1 : (dkWrite D i s).1 = 3 := by simp [dkWrite, hd]
    rw [e1]
    clear e1 hn hd c0
    go_enter Try.func9, Try.ntmps9
    go_wp2_with (first | (go_at_call 14; refine (Down_c _ _ _ c6).mono ?_; rintro e w' ⟨rfl, rfl⟩))
    go_ret
    exact ⟨rfl, rfl⟩
  · have hd' : D.down = false := by simpa using hd
    rw [hd'] at c6
    by_cases h0 : i < 0
    · have e1 : (dkWrite D i s).1 = 2 := by simp [dkWrite, hd', h0]
      rw [e1]
      clear e1 hn hd c0 hd'
      go_enter Try.func9, Try.ntmps9
      go_wp2_with (first | (go_at_call 14; refine (Down_c _ _ _ c6).mono ?_; rintro e w' ⟨rfl, rfl⟩))
      go_ret
      exact ⟨rfl, rfl⟩
    · by_cases h1 : D.size ≤ i
      · have e1 : (dkWrite D i s).1 = 2 := by simp [dkWrite, hd', h1]
        rw [e1]
        clear e1 hn hd hd'
        go_enter Try.func9, Try.ntmps9
        go_wp2_with (first | (go_at_call 14; refine (Down_c _ _ _ c6).mono ?_; rintro e w' ⟨rfl, rfl⟩))
        go_ret
        exact ⟨rfl, rfl⟩
      · have h2 : 512 < s.size := by
          rcases hn with h | h | h | h
          · exact absurd h hd
          · exact absurd h h0
          · exact absurd h h1
          · exact h
        have e1 : (dkWrite D i s).1 = 5 := by simp [dkWrite, hd', h0, h1, h2]
        rw [e1]
        clear e1 hn hd hd'
        go_enter Try.func9, Try.ntmps9
        go_wp2_with (first | (go_at_call 14; refine (Down_c _ _ _ c6).mono ?_; rintro e w' ⟨rfl, rfl⟩))
        go_ret
        exact ⟨rfl, rfl⟩

/-- Write: its answer, and the disk that it leaves. -/
theorem Write_c (b : Nat) (D : Dk) (F : Nat → Prop) (i : Int) (s : ByteArray) (w : World) (h : IsDisk w F b D) (hl : D.loose.length ≤ 4000000000) :
    Calls Try.prog 9 #[.pointer (some ⟨b, 0, none⟩), .int .i64 i, .string s] w fun e w' => e = .returned (.int .i64 (dkWrite D i s).1) ∧ Hid (∃ F', IsDisk w' F' b (dkWrite D i s).2 ∧ Turn F F' w w') := by
  obtain ⟨mf, mn, lv, h⟩ := h
  by_cases hn : D.down = true ∨ i < 0 ∨ D.size ≤ i ∨ 512 < s.size
  · refine (Write_no b D F mf mn lv i s w h hn).mono ?_
    rintro e w' ⟨rfl, rfl⟩
    have e2 : (dkWrite D i s).2 = D := by
      unfold dkWrite
      split
      · rfl
      · split
        · rfl
        · split
          · rfl
          · exfalso
            rcases hn with h | h | h | h <;> simp_all
    refine ⟨rfl, F, ⟨mf, mn, lv, by rw [e2]; exact h⟩, Turn.refl _ _⟩
  · have hd : D.down = false := by
      cases hx : D.down
      · rfl
      · exact absurd (.inl hx) hn
    have i0 : 0 ≤ i := by rcases Int.lt_or_le i 0 with h | h; exact absurd (.inr (.inl h)) hn; exact h
    have i1 : i < D.size := by rcases Int.lt_or_le i D.size with h | h; exact h; exact absurd (.inr (.inr (.inl h))) hn
    have hs : s.size ≤ 512 := by rcases Nat.lt_or_ge 512 s.size with h | h; exact absurd (.inr (.inr (.inr h))) hn; exact h
    cases hk : (dkStep D).1
    · refine (Write_fail b D F mf mn lv i s w h hd i0 i1 hs hk).mono ?_
      rintro e w' ⟨rfl, h1, hu⟩
      have e1 : dkWrite D i s = (3, (dkStep D).2) := by
        simp [dkWrite, hd, hk, show ¬ (i < 0 ∨ D.size ≤ i) by omega, show ¬ (512 < s.size) by omega]
      rw [e1]
      exact ⟨rfl, F, ⟨mf, mn, lv, h1⟩, ⟨hu.mono (fun k _ e => (h.own k).2 (.inl e)), fun _ e => .inl e⟩⟩
    · refine (Write_ok b D F mf mn lv i s w h hl hd i0 i1 hs hk).mono ?_
      rintro e w' ⟨rfl, h1⟩
      have e1 : (dkWrite D i s).1 = 0 := by
        simp [dkWrite, hd, hk, show ¬ (i < 0 ∨ D.size ≤ i) by omega, show ¬ (512 < s.size) by omega]
      rw [e1]
      exact ⟨rfl, h1⟩
end Go.Proofs.Ytjgihpabbogpjaa
