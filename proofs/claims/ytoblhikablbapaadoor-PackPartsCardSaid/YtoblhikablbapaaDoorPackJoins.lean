/- PackJoins: the walk of the law. -/
import Derived.Test.YtoblhikablbapaaDoorPackWrites
import Derived.Test.YtoblhikablbapaaDoorApp
namespace Go.Proofs.YtoblhikablbapaaDoor
set_option linter.unusedVariables false
open Go.RowKit
def JRel (w W : World) (g : Nat) (s : ByteArray) (s11 : Value) (wr : World) : Prop := ∃ k, g = s.size - k ∧ k ≤ s.size ∧ s11 = .int .i64 k ∧ W = wr ∧ ∀ c ∈ s.data.toList.take k, c ≠ 114
theorem fcells_length (l : List Fld) : (fcells l).length = l.length * 2 := by
  induction l with
  | nil => rfl
  | cons p r ih => unfold fcells at ih ⊢; rw [List.flatMap_cons, List.length_append, ih]; simp; omega
/-- The world of the law, its first argument boxed. -/
def JB (w : World) (s1 s2 : ByteArray) (wr : World) : Prop := Below (w.heap.size + 1) (w.alloc (.cells #[.string s1, .string s2] 34)) wr
theorem JB.lit {w wr : World} {s1 s2 : ByteArray} (h : JB w s1 s2 wr) : wr.heap[w.heap.size]? = some (.cells #[.string s1, .string s2] 34 (0, 0)) :=
  (h.block _ (by omega)).trans (heap_alloc_new _ _)
theorem JB.c0 {w wr : World} {s1 s2 : ByteArray} (h : JB w s1 s2 wr) : wr.cell? ⟨w.heap.size, 0, none⟩ = some (.string s1) := cell_lit h.lit rfl
theorem JB.c1 {w wr : World} {s1 s2 : ByteArray} (h : JB w s1 s2 wr) : wr.cell? ⟨w.heap.size, 1, none⟩ = some (.string s2) := cell_lit h.lit rfl
theorem JB.below {w wr : World} {s1 s2 : ByteArray} (h : JB w s1 s2 wr) : Below w.heap.size w wr := ((Below.refl w.heap.size w).alloc (Nat.le_refl _) _).trans (Below.mono h (by omega))
theorem JB.size {w wr : World} {s1 s2 : ByteArray} (h : JB w s1 s2 wr) : w.heap.size + 1 ≤ wr.heap.size := by have := Below.size h; rwa [World.size_alloc] at this
theorem JB.step {w wr w' : World} {s1 s2 : ByteArray} (h : JB w s1 s2 wr) (hb : Below wr.heap.size wr w') : JB w s1 s2 w' := Below.trans h (hb.mono h.size)
theorem JB.grown {w wr w' : World} {s1 s2 : ByteArray} {row : Option Nat} (h : JB w s1 s2 wr) (hg : wr.grownBy w' row) (hr : ∀ k, row = some k → w.heap.size + 1 ≤ k) : JB w s1 s2 w' := Below.grown h hg h.size hr
theorem JB.start {w wr : World} {s1 s2 : ByteArray} (h : Below (w.alloc (.cells #[.string s1, .string s2] 34)).heap.size (w.alloc (.cells #[.string s1, .string s2] 34)) wr) : JB w s1 s2 wr := by
  unfold JB; rw [World.size_alloc] at h; exact h
theorem yields_flds {w : World} {x : Value} {l : List Fld} (h : FldsAt w x l) : Yields w x l.length (fcells l) := by
  obtain ⟨a, c, rfl⟩ := h.form
  refine ⟨a, c, rfl, fun e => ?_, fun ad e j u hu => ?_⟩
  · subst e
    cases l with
    | nil => rfl
    | cons p r => obtain ⟨b, off, e, _⟩ := h.get 0 (by simp); cases e
  · subst e
    have hlen : (fcells l).length = l.length * 2 := fcells_length l
    have hj : j < l.length * 2 := by rw [← hlen]; exact (List.getElem?_eq_some_iff.1 hu).1
    obtain ⟨b, off, e, c1, c2, hb⟩ := h.get (j / 2) (by omega)
    cases e
    have e2 : ((⟨b, off, none⟩ : Addr).add j) = ⟨b, off + j, none⟩ := by unfold Addr.add; split <;> simp_all
    rw [e2]
    obtain ⟨f1, f2⟩ := fcells_get (l := l) (k := j / 2) (by omega)
    by_cases hm : j % 2 = 0
    · rw [show j / 2 * 2 = j by omega] at f1 c1
      rw [f1] at hu; cases hu; exact c1
    · rw [show j / 2 * 2 + 1 = j by omega] at f2
      rw [show off + j / 2 * 2 + 1 = off + j by omega] at c2
      rw [f2] at hu; cases hu; exact c2
theorem fcells_one (l : List Fld) : ∀ u ∈ fcells l, u.oneCell' = true := by
  intro u hu
  simp only [fcells, List.mem_flatMap] at hu
  obtain ⟨p, _, hp⟩ := hu
  simp at hp
  rcases hp with rfl | rfl <;> rfl
theorem fcells_append (l m : List Fld) : fcells (l ++ m) = fcells l ++ fcells m := by simp [fcells]
theorem join_data (s1 s2 : ByteArray) : (s1 ++ s2).data.toList = s1.data.toList ++ s2.data.toList := by simp [ByteArray.data_append]
theorem join_mk (a b : List UInt8) : (⟨a.toArray⟩ ++ ⟨b.toArray⟩ : ByteArray) = ⟨(a ++ b).toArray⟩ := by apply ByteArray.ext; simp
theorem own_ge {w5 : World} {o : Obj} {x1 : Value} {n : Nat} (hs : n ≤ w5.heap.size) (ha : x1.ownBlock = (Value.slice (some ⟨w5.heap.size, 0, none⟩) 0 0).ownBlock ∨ x1.ownBlock = some ((w5.alloc o).drew).heap.size) : ∀ k, x1.ownBlock = some k → n ≤ k := by
  intro k hk
  rcases ha with h | h <;> rw [h] at hk <;> simp [Value.ownBlock] at hk <;> omega
theorem own_ge0 {w5 : World} {n : Nat} (hs : n ≤ w5.heap.size) : ∀ k, (Value.slice (some ⟨w5.heap.size, 0, none⟩) 0 0).ownBlock = some k → n ≤ k := by
  intro k hk
  simp [Value.ownBlock] at hk; omega
theorem grown_ge {w5 W1 : World} {o : Obj} {r : Option Nat} (hg : ((w5.alloc o).drew).grownBy W1 r) : w5.heap.size ≤ W1.heap.size := by
  have := hg.size; simp at this; omega
theorem len63 {n m : Nat} (h1 : n ≤ 20) (h2 : m ≤ 20) : 0 + n + m ≤ maxLen := by unfold maxLen; omega
theorem len63' {n : Nat} (h1 : n ≤ 20) : 0 + n ≤ maxLen := by unfold maxLen; omega
theorem lenB {n m : Nat} (h1 : n ≤ 20) (h2 : m ≤ 20) : (0 + n + m) * 24 ≤ 140737488355328 := by omega
theorem lenB' {n : Nat} (h1 : n ≤ 20) : (0 + n) * 24 ≤ 140737488355328 := by omega
theorem alloc_ge (w5 : World) (o : Obj) : w5.heap.size ≤ ((w5.alloc o).drew).heap.size := by simp
/-- What two appends have made. -/
theorem join_flds {W2 : World} {x2 : Value} {B : Nat} {l m : List Fld} (h : W2.ownsRow B 60 2 x2 (0 + l.length + m.length) ([] ++ fcells l ++ fcells m)) (hl : ∀ p ∈ l, p.1 < 18446744073709551616) (hm : ∀ p ∈ m, p.1 < 18446744073709551616) : FldsAt W2 x2 (l ++ m) := by
  refine flds_of_own (base := B) ?_ ?_
  · rw [fcells_append, List.length_append]; simpa using h
  · intro p hp
    rcases List.mem_append.1 hp with hp | hp
    · exact hl p hp
    · exact hm p hp
set_option maxRecDepth 100000 in
set_option maxHeartbeats 4000000 in
theorem joinA (s1 s2 : ByteArray) (v1 v2 : Value) (l m : List Fld) (w : World) (hl : FldsAt w v1 l) (hm : FldsAt w v2 m)
    (q1 : s1.size ≤ 10) (q2 : s2.size ≤ 10) (fl : fewB l = true) (fm : fewB m = true) (a b : ByteArray) (ha : writeL s1.data.toList l = some a.data.toList) (hb : writeL s2.data.toList m = some b.data.toList) :
    Calls Tryd.prog 5 #[.agg #[.string s1, .string s2], v1, v2] w fun e w' => e = .returned (.bool true) ∧ Below w.heap.size w w' := by
  have AW := fun w => awake_c w
  have HL := Lib.hid hl
  have HM := Lib.hid hm
  obtain ⟨l1, l2⟩ := few_of fl
  obtain ⟨m1, m2⟩ := few_of fm
  have HZ := Lib.hid (show ∀ p ∈ l, p.2.size ≤ 1000000 from fun p hp => Nat.le_trans (l2 p hp) (by decide))
  have HZm := Lib.hid (show ∀ p ∈ m, p.2.size ≤ 1000000 from fun p hp => Nat.le_trans (m2 p hp) (by decide))
  have HFl := Lib.hid fl
  have HFm := Lib.hid fm
  have HA := Lib.hid (show WrOut (writeL s1.data.toList l) = .tuple #[.string a, .bool true] by rw [ha]; show Value.tuple #[.string ⟨a.data.toList.toArray⟩, .bool true] = _; rw [mk_data])
  have HB := Lib.hid (show WrOut (writeL s2.data.toList m) = .tuple #[.string b, .bool true] by rw [hb]; show Value.tuple #[.string ⟨b.data.toList.toArray⟩, .bool true] = _; rw [mk_data])
  have Ha := Lib.hid ha
  have Hb := Lib.hid hb
  have HNl := Lib.hid hl.2
  have la := write_len ha l2 (by rw [← Lib.size_eq]; omega)
  have lb := write_len hb m2 (by rw [← Lib.size_eq]; omega)
  rw [← Lib.size_eq] at la lb
  have HNm := Lib.hid hm.2
  clear hl hm l2 m2 fl fm ha hb
  go_enter Tryd.func5, Tryd.ntmps5
  go_wp2_with fail
  refine (AW _).mono ?_
  rintro e w1 ⟨rfl, hb⟩
  have J1 := Lib.hid (JB.start hb)
  have F1 := Few_c v1 l w1 ((HL.out).below J1.out.below)
  rw [HFl.out] at F1
  have k0 := J1.out.c0
  have k1 := J1.out.c1
  clear hb
  go_wp2_with fail
  refine F1.mono ?_
  rintro e w2 ⟨rfl, hb⟩
  have J2 := Lib.hid (J1.out.step hb)
  have F1 := Few_c v2 m w2 ((HM.out).below J2.out.below)
  rw [HFm.out] at F1
  clear hb J1 k0 k1
  go_wp2_with fail
  refine F1.mono ?_
  rintro e w3 ⟨rfl, hb⟩
  have J3 := Lib.hid (J2.out.step hb)
  have k0 := J3.out.c0
  have W1 := Write_c s1 v1 l w3 (by omega) ((HL.out).below J3.out.below) HZ.out
  rw [HA.out] at W1
  clear hb J2 F1
  go_wp2_with fail
  refine W1.mono ?_
  rintro e w4 ⟨rfl, hb⟩
  have J4 := Lib.hid (J3.out.step hb)
  have k1 := J4.out.c1
  have W2 := Write_c s2 v2 m w4 (by omega) ((HM.out).below J4.out.below) HZm.out
  rw [HB.out] at W2
  clear hb J3 W1 k0
  go_wp2_with fail
  refine W2.mono ?_
  rintro e w5 ⟨rfl, hb⟩
  have J5 := Lib.hid (J4.out.step hb)
  have k0 := J5.out.c0
  have k1 := J5.out.c1
  clear hb J4 W2
  go_wp2_with fail
  go_loopg [11] s1.size (fun g s11 wr => JRel w w5 g s1 s11 wr)
  case atStart => exact ⟨0, by omega, Nat.zero_le _, rfl, rfl, by simp⟩
  case round =>
    obtain ⟨k, rfl, hk, rfl, rfl, hall⟩ := hrel
    by_cases hlt : k < s1.size
    · have hge : s1[k] = s1.data.toList[k]'(by simpa using hlt) := by simp; rfl
      have h0 : ((s1[k].toNat : Int) == 114) = (s1[k] == 114) := u8_eq_toNat s1[k] 114 (by decide)
      by_cases hz : s1[k] = 114
      · have q1 : ((s1[k].toNat : Int) == 114) = true := by rw [h0, hz]; rfl
        clear hz h0 hall hge
        go_wp2_with fail
        go_ret
        exact ⟨rfl, J5.out.below⟩
      · have q1 : ((s1[k].toNat : Int) == 114) = false := by rw [h0]; simpa using hz
        have HA := Lib.hid (show ∀ c ∈ s1.data.toList.take (k + 1), c ≠ 114 from fun c hc => by
          rw [List.take_succ_eq_append_getElem (by simpa using hlt)] at hc
          rcases List.mem_append.1 hc with hc | hc
          · exact hall c hc
          · rw [List.mem_singleton.1 hc, ← hge]; exact hz)
        clear hz h0 hall hge
        go_wp2_with fail
        go_roundg (s1.size - (k + 1))
        case measure => omega
        case rel => exact ⟨k + 1, rfl, by omega, by simp, rfl, HA.out⟩
    · obtain rfl : k = s1.size := by omega
      have HN := Lib.hid (show ∀ c ∈ s1.data.toList, c ≠ 114 by rwa [List.take_of_length_le (by simp)] at hall)
      clear hall
      go_wp2_with fail
      have k0 := J5.out.c0
      have k1 := J5.out.c1
      have ha1 : (s1.size + s2.size > 9223372036854775807) = False := eq_false (by omega)
      have ha2 : (9223372036854775807 < s1.size + s2.size) = False := eq_false (by omega)
      have HY1 := Lib.hid (show Yields ((w5.alloc (.cells #[] 60)).drew) v1 l.length (fcells l) from yields_flds (((HL.out).below J5.out.below).below (((Below.refl w5.heap.size w5).alloc (Nat.le_refl _) _).drew)))
      have HO0 := Lib.hid (show ((w5.alloc (.cells #[] 60)).drew).ownsRow w5.heap.size 60 2 (.slice (some ⟨w5.heap.size, 0, none⟩) 0 0) 0 [] from (World.ownsRow_lit w5 #[] 0 (Nat.le_refl _) (by decide) rfl).drew)
      have HJ0 := Lib.hid (J5.out.step (((Below.refl w5.heap.size w5).alloc (Nat.le_refl _) (.cells #[] 60)).drew))
      have HSZ := Lib.hid J5.out.size
      obtain ⟨j0, hj, hz0, hz1, hz2⟩ := info_parts infoF
      have WJ : ∀ x W, FldsAt W x (l ++ m) → Calls Tryd.prog 15 #[.string (s1 ++ s2), x] W (fun e w' => e = .returned (.tuple #[.string (a ++ b), .bool true]) ∧ Below W.heap.size W w') := fun x W h => by
        have := Write_c (s1 ++ s2) x (l ++ m) W (by rw [ByteArray.size_append]; omega) h (fun p hp => (List.mem_append.1 hp).elim (HZ.out p) (HZm.out p))
        rw [join_data, write_join Ha.out Hb.out HN.out, ← join_data] at this
        rw [show WrOut (some (a ++ b).data.toList) = .tuple #[.string (a ++ b), .bool true] by show Value.tuple #[.string ⟨(a ++ b).data.toList.toArray⟩, .bool true] = _; rw [mk_data]] at this
        exact this
      have HWJ := Lib.hid WJ
      clear WJ
      go_region_held3 (fun w' => w'.cell? ⟨w.heap.size, 0, none⟩ = some (.string s1) ∧ w'.cell? ⟨w.heap.size, 1, none⟩ = some (.string s2)) (go_keep) ((first
        | (go_at_call 15; refine (HWJ.out _ _ (join_flds HO2.out HNl.out HNm.out)).mono ?_; rintro e W3 ⟨rfl, hb3⟩; have HJ3 := Lib.hid (HJ2.out.step hb3); have c0 := HJ3.out.c0; have c1 := HJ3.out.c1; clear hb3)
        | (refine step_append_y (by rfl) _ _ _ (by rfl) w5.heap.size 60 j0 _ 2 24 Tryd.underlying22 hj hz0 hz1 hz2 rfl (by decide) (.slice (some ⟨w5.heap.size, 0, none⟩) 0 0) 0 [] (by rfl) HO0.out v1 l.length (fcells l) (by rfl) HY1.out (fcells_length l) (fcells_one l) (len63' l1) (lenB' l1) (alloc_ge _ _) ?_; intro x1 W1 ho1 hg1 ha1; have HJ1 := Lib.hid (HJ0.out.grown hg1 (own_ge0 HSZ.out)); have c0 := HJ1.out.c0; have c1 := HJ1.out.c1; have HA1 := Lib.hid ha1; have HG1 := Lib.hid hg1; have HO1 := Lib.hid ho1; clear ha1 hg1 ho1)
        | (refine step_append_y (by rfl) _ _ _ (by rfl) w5.heap.size 60 j0 _ 2 24 Tryd.underlying22 hj hz0 hz1 hz2 rfl (by decide) _ _ _ (by rfl) HO1.out v2 m.length (fcells m) (by rfl) (yields_flds ((HM.out).below HJ1.out.below)) (fcells_length m) (fcells_one m) (len63 l1 m1) (lenB l1 m1) (grown_ge HG1.out) ?_; intro x2 W2 ho2 hg2 ha2; have HJ2 := Lib.hid (HJ1.out.grown hg2 (own_ge HSZ.out HA1.out)); have c0 := HJ2.out.c0; have c1 := HJ2.out.c1; have HO2 := Lib.hid ho2; clear ha2 hg2 ho2)
        ))
      have RJ : ∀ W, Calls Tryd.prog 19 #[.string (s1 ++ s2), .string (a ++ b)] W (RdPost W (some (l ++ m))) := fun W => by
        have := Read_c (s1 ++ s2) (a ++ b) W (by rw [ByteArray.size_append]; omega) (by rw [ByteArray.size_append]; omega)
        have e := read_write (fun p hp => (List.mem_append.1 hp).elim (HNl.out p) (HNm.out p)) (write_join Ha.out Hb.out HN.out)
        rw [← join_data, ← join_data, mk_data] at e
        rw [e] at this
        exact this
      have HRJ := Lib.hid RJ
      clear RJ
      go_wp2_with fail
      refine (HRJ.out _).mono ?_
      rintro e w6 ⟨x3, rfl, ho3, hb3⟩
      have F3 := flds_of_own ho3 (fun p hp => (List.mem_append.1 hp).elim (HNl.out p) (HNm.out p))
      have HJ6 := HJ3.out.step hb3
      have HB6 := HJ6.below
      have hb6 : Below w6.heap.size w6 (w6.alloc (.cells #[] 60)) := (Below.refl w6.heap.size w6).alloc (Nat.le_refl _) _
      obtain ⟨x4, w7, hr4, ho4, hg4, ha4⟩ := run_append_y (P := Tryd.prog) (w := w6.alloc (.cells #[] 60)) 22 22 w6.heap.size 60 j0 _ 2 24 Tryd.underlying22 hj hz0 hz1 hz2 rfl (by decide) (.slice (some ⟨w6.heap.size, 0, none⟩) 0 0) 0 []
        (World.ownsRow_lit w6 #[] 0 (Nat.le_refl _) (by decide) rfl) v1 l.length (fcells l) (yields_flds (((HL.out).below HB6).below hb6)) (fcells_length l) (fcells_one l) (len63' l1) (lenB' l1) (by simp)
      have hb7 : Below w6.heap.size w6 w7 := hb6.grown hg4 hb6.size (own_ge0 (Nat.le_refl _))
      have ha4' : x4.ownBlock = (Value.slice (some ⟨w6.heap.size, 0, none⟩) 0 0).ownBlock ∨ x4.ownBlock = some ((w6.alloc (.cells #[] 60)).drew).heap.size := ha4
      obtain ⟨x5, w8, hr5, ho5, hg5, ha5⟩ := run_append_y (P := Tryd.prog) (w := w7) 22 22 w6.heap.size 60 j0 _ 2 24 Tryd.underlying22 hj hz0 hz1 hz2 rfl (by decide) x4 _ _
        ho4 v2 m.length (fcells m) (yields_flds (((HM.out).below HB6).below hb7)) (fcells_length m) (fcells_one m) (len63 l1 m1) (lenB l1 m1) hb7.size
      have hb8 : Below w6.heap.size w6 w8 := hb7.grown hg5 hb7.size (own_ge (Nat.le_refl _) ha4')
      have F5 := join_flds ho5 HNl.out HNm.out
      have S1 := Same_t x3 x5 (l ++ m) w8 (F3.below hb8) F5 (by rw [List.length_append]; omega)
      have HB8 := Lib.hid (HB6.trans (hb8.mono HB6.size))
      clear F3 HJ6 HB6 hb6 ho4 hg4 ha4 hb7 ha4' ho5 hg5 ha5 hb8 F5 ho3 hb3 hj hz0 hz1 hz2
      go_wp2_with (at_builtin; first | (refine wpList_append_run (by rfl) _ _ _ (by rfl) _ _ _ _ (by rfl) (by rfl) hr4 ?_) | (refine wpList_append_run (by rfl) _ _ _ (by rfl) _ _ _ _ (by rfl) (by rfl) hr5 ?_))
      refine S1.mono ?_
      rintro e w9 ⟨rfl, hb9⟩
      have HB9 := Lib.hid ((HB8.out).trans (hb9.mono (HB8.out).size))
      clear hb9 S1
      go_wp2_with fail
      go_ret
      exact ⟨rfl, HB9.out⟩
set_option maxRecDepth 100000 in
theorem joinL (s1 s2 : ByteArray) (v1 v2 : Value) (w : World) (q : 10 < s1.size ∨ (s1.size ≤ 10 ∧ 10 < s2.size)) :
    Calls Tryd.prog 5 #[.agg #[.string s1, .string s2], v1, v2] w fun e w' => e = .returned (.bool true) ∧ Below w.heap.size w w' := by
  have AW := fun w => awake_c w
  rcases q with q | ⟨q1, q⟩
  · go_enter Tryd.func5, Tryd.ntmps5
    go_wp2_with fail
    refine (AW _).mono ?_
    rintro e w1 ⟨rfl, hb⟩
    have J1 := Lib.hid (JB.start hb)
    have k0 := J1.out.c0
    have k1 := J1.out.c1
    clear hb
    go_wp2_with fail
    go_ret
    exact ⟨rfl, J1.out.below⟩
  · go_enter Tryd.func5, Tryd.ntmps5
    go_wp2_with fail
    refine (AW _).mono ?_
    rintro e w1 ⟨rfl, hb⟩
    have J1 := Lib.hid (JB.start hb)
    have k0 := J1.out.c0
    have k1 := J1.out.c1
    clear hb
    go_wp2_with fail
    go_ret
    exact ⟨rfl, J1.out.below⟩
set_option maxRecDepth 100000 in
theorem joinF (s1 s2 : ByteArray) (v1 v2 : Value) (l : List Fld) (w : World) (hl : FldsAt w v1 l) (q1 : s1.size ≤ 10) (q2 : s2.size ≤ 10) (fl : fewB l = false) :
    Calls Tryd.prog 5 #[.agg #[.string s1, .string s2], v1, v2] w fun e w' => e = .returned (.bool true) ∧ Below w.heap.size w w' := by
  have AW := fun w => awake_c w
  have HL := Lib.hid hl
  have HFl := Lib.hid fl
  clear hl fl
  go_enter Tryd.func5, Tryd.ntmps5
  go_wp2_with fail
  refine (AW _).mono ?_
  rintro e w1 ⟨rfl, hb⟩
  have J1 := Lib.hid (JB.start hb)
  have k0 := J1.out.c0
  have k1 := J1.out.c1
  clear hb
  have F1 := Few_c v1 l w1 ((HL.out).below J1.out.below)
  rw [HFl.out] at F1
  go_wp2_with fail
  refine F1.mono ?_
  rintro e w2 ⟨rfl, hb⟩
  have J2 := Lib.hid (J1.out.step hb)
  clear hb J1 F1 k0 k1
  go_wp2_with fail
  go_ret
  exact ⟨rfl, J2.out.below⟩
set_option maxRecDepth 100000 in
theorem joinG (s1 s2 : ByteArray) (v1 v2 : Value) (l m : List Fld) (w : World) (hl : FldsAt w v1 l) (hm : FldsAt w v2 m) (q1 : s1.size ≤ 10) (q2 : s2.size ≤ 10) (fl : fewB l = true) (fm : fewB m = false) :
    Calls Tryd.prog 5 #[.agg #[.string s1, .string s2], v1, v2] w fun e w' => e = .returned (.bool true) ∧ Below w.heap.size w w' := by
  have AW := fun w => awake_c w
  have HL := Lib.hid hl
  have HFl := Lib.hid fl
  have HM := Lib.hid hm
  have HFm := Lib.hid fm
  clear hl fl hm fm
  go_enter Tryd.func5, Tryd.ntmps5
  go_wp2_with fail
  refine (AW _).mono ?_
  rintro e w1 ⟨rfl, hb⟩
  have J1 := Lib.hid (JB.start hb)
  have k0 := J1.out.c0
  have k1 := J1.out.c1
  clear hb
  have F1 := Few_c v1 l w1 ((HL.out).below J1.out.below)
  rw [HFl.out] at F1
  go_wp2_with fail
  refine F1.mono ?_
  rintro e w2 ⟨rfl, hb⟩
  have J2 := Lib.hid (J1.out.step hb)
  have F1 := Few_c v2 m w2 ((HM.out).below J2.out.below)
  rw [HFm.out] at F1
  clear hb J1 k0 k1
  go_wp2_with fail
  refine F1.mono ?_
  rintro e w3 ⟨rfl, hb⟩
  have J3 := Lib.hid (J2.out.step hb)
  clear hb J2 F1
  go_wp2_with fail
  go_ret
  exact ⟨rfl, J3.out.below⟩
set_option maxRecDepth 100000 in
theorem joinW (s1 s2 a b : ByteArray) (x y : Bool) (v1 v2 : Value) (l m : List Fld) (w : World) (hl : FldsAt w v1 l) (hm : FldsAt w v2 m) (q1 : s1.size ≤ 10) (q2 : s2.size ≤ 10) (fl : fewB l = true) (fm : fewB m = true)
    (ha : WrOut (writeL s1.data.toList l) = .tuple #[.string a, .bool x]) (hb : WrOut (writeL s2.data.toList m) = .tuple #[.string b, .bool y]) (hxy : x = false ∨ (x = true ∧ y = false)) :
    Calls Tryd.prog 5 #[.agg #[.string s1, .string s2], v1, v2] w fun e w' => e = .returned (.bool true) ∧ Below w.heap.size w w' := by
  have AW := fun w => awake_c w
  have HL := Lib.hid hl
  have HM := Lib.hid hm
  have HZ := Lib.hid (show ∀ p ∈ l, p.2.size ≤ 1000000 from fun p hp => Nat.le_trans ((few_of fl).2 p hp) (by decide))
  have HZm := Lib.hid (show ∀ p ∈ m, p.2.size ≤ 1000000 from fun p hp => Nat.le_trans ((few_of fm).2 p hp) (by decide))
  have HFl := Lib.hid fl
  have HFm := Lib.hid fm
  have HA := Lib.hid ha
  have HB := Lib.hid hb
  clear hl hm fl fm ha hb
  rcases hxy with rfl | ⟨rfl, rfl⟩
  · go_enter Tryd.func5, Tryd.ntmps5
    go_wp2_with fail
    refine (AW _).mono ?_
    rintro e w1 ⟨rfl, hb⟩
    have J1 := Lib.hid (JB.start hb)
    have k0 := J1.out.c0
    have k1 := J1.out.c1
    clear hb
    have F1 := Few_c v1 l w1 ((HL.out).below J1.out.below)
    rw [HFl.out] at F1
    go_wp2_with fail
    refine F1.mono ?_
    rintro e w2 ⟨rfl, hb⟩
    have J2 := Lib.hid (J1.out.step hb)
    have F1 := Few_c v2 m w2 ((HM.out).below J2.out.below)
    rw [HFm.out] at F1
    clear hb J1 k0 k1
    go_wp2_with fail
    refine F1.mono ?_
    rintro e w3 ⟨rfl, hb⟩
    have J3 := Lib.hid (J2.out.step hb)
    have k0 := J3.out.c0
    have W1 := Write_c s1 v1 l w3 (by omega) ((HL.out).below J3.out.below) HZ.out
    rw [HA.out] at W1
    clear hb J2 F1
    go_wp2_with fail
    refine W1.mono ?_
    rintro e w4 ⟨rfl, hb⟩
    have J4 := Lib.hid (J3.out.step hb)
    have k1 := J4.out.c1
    have W2 := Write_c s2 v2 m w4 (by omega) ((HM.out).below J4.out.below) HZm.out
    rw [HB.out] at W2
    clear hb J3 W1 k0
    go_wp2_with fail
    refine W2.mono ?_
    rintro e w5 ⟨rfl, hb⟩
    have J5 := Lib.hid (J4.out.step hb)
    clear hb J4 W2
    go_wp2_with fail
    go_ret
    exact ⟨rfl, J5.out.below⟩
  · go_enter Tryd.func5, Tryd.ntmps5
    go_wp2_with fail
    refine (AW _).mono ?_
    rintro e w1 ⟨rfl, hb⟩
    have J1 := Lib.hid (JB.start hb)
    have k0 := J1.out.c0
    have k1 := J1.out.c1
    clear hb
    have F1 := Few_c v1 l w1 ((HL.out).below J1.out.below)
    rw [HFl.out] at F1
    go_wp2_with fail
    refine F1.mono ?_
    rintro e w2 ⟨rfl, hb⟩
    have J2 := Lib.hid (J1.out.step hb)
    have F1 := Few_c v2 m w2 ((HM.out).below J2.out.below)
    rw [HFm.out] at F1
    clear hb J1 k0 k1
    go_wp2_with fail
    refine F1.mono ?_
    rintro e w3 ⟨rfl, hb⟩
    have J3 := Lib.hid (J2.out.step hb)
    have k0 := J3.out.c0
    have W1 := Write_c s1 v1 l w3 (by omega) ((HL.out).below J3.out.below) HZ.out
    rw [HA.out] at W1
    clear hb J2 F1
    go_wp2_with fail
    refine W1.mono ?_
    rintro e w4 ⟨rfl, hb⟩
    have J4 := Lib.hid (J3.out.step hb)
    have k1 := J4.out.c1
    have W2 := Write_c s2 v2 m w4 (by omega) ((HM.out).below J4.out.below) HZm.out
    rw [HB.out] at W2
    clear hb J3 W1 k0
    go_wp2_with fail
    refine W2.mono ?_
    rintro e w5 ⟨rfl, hb⟩
    have J5 := Lib.hid (J4.out.step hb)
    clear hb J4 W2
    go_wp2_with fail
    go_ret
    exact ⟨rfl, J5.out.below⟩
theorem wrOut_form (o : Option (List UInt8)) : (o = none ∧ WrOut o = .tuple #[.string ⟨#[]⟩, .bool false]) ∨ ∃ a : ByteArray, o = some a.data.toList ∧ WrOut o = .tuple #[.string a, .bool true] := by
  cases o with
  | none => exact .inl ⟨rfl, rfl⟩
  | some l => exact .inr ⟨⟨l.toArray⟩, rfl, rfl⟩
theorem PackJoins_w (u0 v1 v2 : Value) (w : World) (g0 : Reads w 34 u0) (g1 : Reads w 22 v1) (g2 : Reads w 22 v2) : Calls Tryd.prog 5 #[u0, v1, v2] w fun e w' => e = .returned (.bool true) ∧ Below w.heap.size w w' := by
  obtain ⟨s1, s2, rfl, -, -⟩ := reads_two g0
  obtain ⟨l, hl, -⟩ := reads_flds g1
  obtain ⟨m, hm, -⟩ := reads_flds g2
  by_cases q1 : s1.size ≤ 10
  · by_cases q2 : s2.size ≤ 10
    · cases fl : fewB l
      · exact joinF s1 s2 v1 v2 l w hl q1 q2 fl
      · cases fm : fewB m
        · exact joinG s1 s2 v1 v2 l m w hl hm q1 q2 fl fm
        · rcases wrOut_form (writeL s1.data.toList l) with ⟨_, h1⟩ | ⟨a, h0, h1⟩
          · rcases wrOut_form (writeL s2.data.toList m) with ⟨_, h2⟩ | ⟨b, _, h2⟩
            · exact joinW s1 s2 _ _ _ _ v1 v2 l m w hl hm q1 q2 fl fm h1 h2 (.inl rfl)
            · exact joinW s1 s2 _ _ _ _ v1 v2 l m w hl hm q1 q2 fl fm h1 h2 (.inl rfl)
          · rcases wrOut_form (writeL s2.data.toList m) with ⟨_, h2⟩ | ⟨b, h3, h2⟩
            · exact joinW s1 s2 _ _ _ _ v1 v2 l m w hl hm q1 q2 fl fm h1 h2 (.inr ⟨rfl, rfl⟩)
            · exact joinA s1 s2 v1 v2 l m w hl hm q1 q2 fl fm a b h0 h3
    · exact joinL s1 s2 v1 v2 w (.inr ⟨q1, by omega⟩)
  · exact joinL s1 s2 v1 v2 w (.inl (by omega))
end Go.Proofs.YtoblhikablbapaaDoor
