/- sector: Flush, New, Loose. -/
import Derived.Test.YtjgihpabbogpjaaSecB
import Derived.Test.YtjgihpabbogpjaaCopy
namespace Go.Proofs.Ytjgihpabbogpjaa
open Go.RowKit
attribute [local go_sem ↓] Go.wp_at_zero Go.wp_at_succ

def mrg (a b : List (Int × ByteArray)) : List (Int × ByteArray) := a ++ b.filter (fun p => decide (look a p.1 = none))
theorem look_append {κ α : Type} [DecidableEq κ] (a b : List (κ × α)) (k : κ) : look (a ++ b) k = (look a k).or (look b k) := by
  induction a with
  | nil => simp [look]
  | cons p r ih => simp only [List.cons_append, look]; by_cases h : p.1 = k <;> simp [h, ih]
theorem look_filter {κ α : Type} [DecidableEq κ] (q : κ → Bool) (b : List (κ × α)) (k : κ) : look (b.filter (fun p => q p.1)) k = if q k = true then look b k else none := by
  induction b with
  | nil => simp [look]
  | cons p r ih =>
    by_cases hq : q p.1 = true
    · rw [List.filter_cons_of_pos (by simpa using hq)]
      simp only [look, ih]
      by_cases h : p.1 = k
      · subst h; simp [hq]
      · simp [h]
    · rw [List.filter_cons_of_neg (by simpa using hq), ih]
      simp only [look]
      by_cases h : p.1 = k
      · subst h; simp [hq]
      · simp [h]
theorem look_mrg (a b : List (Int × ByteArray)) (k : Int) : look (mrg a b) k = (look a k).or (look b k) := by
  unfold mrg
  rw [look_append, look_filter (fun k => decide (look a k = none))]
  cases look a k <;> simp
theorem nodup_mrg {a b : List (Int × ByteArray)} (ha : (a.map Prod.fst).Nodup) (hb : (b.map Prod.fst).Nodup) : ((mrg a b).map Prod.fst).Nodup := by
  unfold mrg
  rw [List.map_append, List.nodup_append]
  refine ⟨ha, hb.sublist (List.Sublist.map _ List.filter_sublist), fun x hx y hy e => ?_⟩
  subst e
  obtain ⟨p, hp, rfl⟩ := List.mem_map.1 hx
  obtain ⟨q, hq, e⟩ := List.mem_map.1 hy
  simp at hq
  exact look_none.1 hq.2 p hp e.symm

def dkFlush (D : Dk) : Int × Dk :=
  if D.down = true then (3, D) else if (dkStep D).1 = false then (3, (dkStep D).2) else
  (0, { (dkStep D).2 with firm := mrg (dkStep D).2.now (dkStep D).2.firm, loose := [], now := [] })

theorem copied {w w2 : World} {F : Nat → Prop} {b : Nat} {D : Dk} {mf mn : Nat} {lv : Value} (h : IsDk w F b D mf mn lv)
    (hw : Hid (∃ md', MapIs kInt Value.string w2 mf md' ∧ (∀ k, look md' k = (look D.now k).or (look D.firm k)) ∧ Upd (fun k => k = mf) w.drew w2)) :
    IsDk w2 F b { D with firm := mrg D.now D.firm } mf mn lv ∧ Upd (fun k => k = mf) w w2 := by
  obtain ⟨md', hm, hk, hu⟩ := hw
  have hu := hu.drew_left
  have hp : md'.Perm (mrg D.now D.firm) := perm_of_look hm.nodup (nodup_mrg h.now.nodup h.firm.nodup) (fun k => by rw [hk, look_mrg])
  refine ⟨⟨hu.at h.cells (Ne.symm h.nf), hm.perm hp, h.now.upd hu (Ne.symm h.ne), ownsRow_upd h.loose hu (fun k hk e => h.nl.2.1 (by rw [hk, e])), h.ne, h.own, ⟨h.wf.1, h.wf.2, h.wf.3, h.wf.4, h.wf.5, h.wf.6, ?_⟩⟩, hu⟩
  intro k s hs
  rw [look_mrg] at hs
  cases hx : look D.now k with
  | none => rw [hx] at hs; exact h.wf.7 k s hs
  | some t => rw [hx] at hs; cases hs; exact h.wf.6 k _ hx

set_option maxHeartbeats 1000000 in
theorem Flush_ok (b : Nat) (D : Dk) (F : Nat → Prop) (mf mn : Nat) (lv : Value) (w : World) (h : IsDk w F b D mf mn lv) (hd : D.down = false) (hk : (dkStep D).1 = true) :
    Calls Try.prog 10 #[.pointer (some ⟨b, 0, none⟩)] w fun e w' => e = .returned (.int .i64 0) ∧ Hid (∃ F', IsDisk w' F' b (dkFlush D).2 ∧ Turn F F' w w') := by
  obtain ⟨-, -, -, -, -, -, c6⟩ := h.c
  rw [hd] at c6
  have st := step_c b D F mf mn lv w h
  rw [hk] at st
  have HH := Lib.hid h
  have Hk := Lib.hid hk
  have Hd := Lib.hid hd
  have St := Lib.hid st
  clear h hk hd st
  go_enter Try.func10, Try.ntmps10
  go_wp2_with (first | (go_at_call 14; refine (Down_c _ _ _ c6).mono ?_; rintro e w' ⟨rfl, rfl⟩) | (go_at_call 21; refine (St.out).mono ?_; rintro e w1 ⟨rfl, hst, hu1⟩; have Hst := Lib.hid hst; have Hu1 := Lib.hid hu1; clear hst hu1))
  have h1 := Hst.out
  obtain ⟨-, c1, -, c3, -, -, -⟩ := h1.c
  have cp := Copy_c mf mn _ _ w1.drew (h1.firm.of_heap rfl) (h1.now.of_heap rfl) h1.ne
  have nf := h1.nf
  have lb := lt_of_heap h1.cells
  clear h1
  go_region_held3 (fun w' => w'.cell? ⟨b, 1, none⟩ = some (.map (some mf)) ∧ w'.cell? ⟨b, 3, none⟩ = some (.map (some mn))) (first | go_keep)
    ((go_at_call 23; refine cp.mono ?_; rintro e w2 ⟨rfl, hw2⟩; have c1' := copy_keeps hw2 c1 lb nf; have c3' := copy_keeps hw2 c3 lb nf))
  have hcp := copied Hst.out hw2
  have se := settle_c b _ F mf mn lv w2 hcp.1
  have HCP := Lib.hid hcp
  clear hcp cp c1 c3 c1' c3' hw2 c6 nf lb
  go_wp2_with (first | (go_at_call 24; refine se.mono ?_; rintro e w3 ⟨rfl, hs3, hu3⟩; have Hs3 := Lib.hid hs3; have Hu3 := Lib.hid hu3; clear hs3 hu3))
  go_ret
  have e1 : (dkFlush D).2 = { (dkStep D).2 with firm := mrg (dkStep D).2.now (dkStep D).2.firm, loose := [], now := [] } := by simp [dkFlush, Hd.out, Hk.out]
  refine ⟨rfl, fun k => k = b ∨ k = mf ∨ k = mn, ⟨mf, mn, .slice none 0 0, by rw [e1]; exact Hs3.out⟩, ?_, fun k hk => ?_⟩
  · have o := (HH.out).own
    refine ((Hu1.out).mono (fun k _ e => (o k).2 (.inl e))).trans (((HCP.out).2.mono (fun k _ e => (o k).2 (.inr (.inl e)))).trans ((Hu3.out).mono (fun k _ e => (o k).2 (e.elim .inl (fun e => .inr (.inr (.inl e)))))))
  · have o := (HH.out).own
    exact .inl ((o k).2 (by rcases hk with e | e | e <;> simp [e]))

set_option maxHeartbeats 1000000 in
theorem Flush_c (b : Nat) (D : Dk) (F : Nat → Prop) (w : World) (h : IsDisk w F b D) :
    Calls Try.prog 10 #[.pointer (some ⟨b, 0, none⟩)] w fun e w' => e = .returned (.int .i64 (dkFlush D).1) ∧ Hid (∃ F', IsDisk w' F' b (dkFlush D).2 ∧ Turn F F' w w') := by
  obtain ⟨mf, mn, lv, h⟩ := h
  cases hd : D.down
  · cases hk : (dkStep D).1
    · have e1 : dkFlush D = (3, (dkStep D).2) := by simp [dkFlush, hd, hk]
      rw [e1]
      obtain ⟨-, -, -, -, -, -, c6⟩ := h.c
      rw [hd] at c6
      have st := step_c b D F mf mn lv w h
      rw [hk] at st
      have HH := Lib.hid h
      have St := Lib.hid st
      clear h hk hd st e1
      go_enter Try.func10, Try.ntmps10
      go_wp2_with (first | (go_at_call 14; refine (Down_c _ _ _ c6).mono ?_; rintro e w' ⟨rfl, rfl⟩) | (go_at_call 21; refine (St.out).mono ?_; rintro e w1 ⟨rfl, hst, hu1⟩; have Hst := Lib.hid hst; have Hu1 := Lib.hid hu1; clear hst hu1))
      go_ret
      exact ⟨rfl, F, ⟨mf, mn, lv, Hst.out⟩, (Hu1.out).mono (fun k _ e => ((HH.out).own k).2 (.inl e)), fun _ e => .inl e⟩
    · have e1 : (dkFlush D).1 = 0 := by simp [dkFlush, hd, hk]
      rw [e1]
      exact Flush_ok b D F mf mn lv w h hd hk
  · have e1 : dkFlush D = (3, D) := by simp [dkFlush, hd]
    rw [e1]
    obtain ⟨-, -, -, -, -, -, c6⟩ := h.c
    rw [hd] at c6
    have HH := Lib.hid h
    clear h e1 hd
    go_enter Try.func10, Try.ntmps10
    go_wp2_with (first | (go_at_call 14; refine (Down_c _ _ _ c6).mono ?_; rintro e w' ⟨rfl, rfl⟩))
    go_ret
    exact ⟨rfl, F, ⟨mf, mn, lv, HH.out⟩, Turn.refl _ _⟩

/-! New -/
def dkNew (n : Int) : Dk := ⟨n, [], [], [], 0, false, false⟩
theorem New_bad (n : Int) (w : World) (h : n < 1 ∨ 65536 < n) :
    Calls Try.prog 8 #[.int .i64 n] w fun e w' => e = .returned (.tuple #[.pointer none, .int .i64 1]) ∧ w = w' := by
  by_cases h1 : n < 1
  · clear h
    go_enter Try.func8, Try.ntmps8
    go_wp2
    go_ret2
    exact ⟨rfl, rfl⟩
  · have h2 : 65536 < n := by omega
    clear h
    go_enter Try.func8, Try.ntmps8
    go_wp2
    go_ret2
    exact ⟨rfl, rfl⟩
theorem New_ok (n : Int) (w : World) (h1 : 1 ≤ n) (h2 : n ≤ 65536) :
    Calls Try.prog 8 #[.int .i64 n] w fun e w' => e = .returned (.tuple #[.pointer (some ⟨w.heap.size + 2, 0, none⟩), .int .i64 0]) ∧
      Hid (IsDisk w' (fun k => k = w.heap.size + 2 ∨ k = w.heap.size ∨ k = w.heap.size + 1) (w.heap.size + 2) (dkNew n) ∧ Upd (fun _ => False) w w') := by
  have hmm := @run_makeMap Try.prog
  go_enter Try.func8, Try.ntmps8
  go_wp2
  go_ret2
  refine ⟨rfl, ⟨w.heap.size, w.heap.size + 1, .slice none 0 0, ?_⟩, ?_⟩
  · have m1 : MapIs kInt Value.string (w.alloc (.map #[] 0)) w.heap.size [] := MapIs.made w
    have m2 : MapIs kInt Value.string ((w.alloc (.map #[] 0)).alloc (.map #[] 0)) (w.heap.size + 1) [] := by
      have := MapIs.made (K := kInt) (V := Value.string) (w.alloc (.map #[] 0))
      rw [World.size_alloc] at this; exact this
    refine ⟨?_, (m1.alloc _).alloc _, m2.alloc _, World.ownsRow_nil _ _ _ _, by omega, fun k => by simp [Value.ownBlock], ⟨by simp [dkNew]; omega, by simp [dkNew]; omega, by simp [dkNew], by simp [dkNew], by simp [dkNew], by simp [dkNew, look], by simp [dkNew, look]⟩⟩
    have := heap_alloc_new ((w.alloc (.map #[] 0)).alloc (.map #[] 0)) (.cells (dkCells (dkNew n) w.heap.size (w.heap.size + 1) (.slice none 0 0)) 55 (0, 0))
    simp only [World.size_alloc] at this
    exact this
  · exact (((Upd.refl _ _).alloc _).alloc _).alloc _
end Go.Proofs.Ytjgihpabbogpjaa
